/-
  A book without order and one that rises hold the same: plain lists.
-/
import Derived.Test.YtalcaflkfpiehaaU
namespace Go.Proofs.Ytalcaflkfpiehaa
open Go Go.HL
namespace R
open B (NM cnt putN cutN keys fndN fndN_some fndN_none bless_asymm bless_total bless_trans pair_get)

theorem cnt_mem {m : NM} (hn : (keys m).Nodup) {k : List UInt8} {n : Nat} (h : (k, n) ∈ m) : cnt m k = n := by
  unfold cnt
  cases hf : fndN k m 0 with
  | none => exact absurd rfl (fndN_none hf _ h)
  | some p =>
    obtain ⟨i, v⟩ := p
    obtain ⟨j, e1, e2⟩ := fndN_some hf
    have := inj_of_nodup Prod.fst hn (List.mem_of_getElem? e2) h rfl
    simp at this
    simp [this]
theorem cnt_not {m : NM} {k : List UInt8} (h : k ∉ keys m) : cnt m k = 0 := by
  unfold cnt
  cases hf : fndN k m 0 with
  | none => rfl
  | some p =>
    obtain ⟨i, v⟩ := p
    obtain ⟨j, e1, e2⟩ := fndN_some hf
    exact absurd (List.mem_map.2 ⟨_, List.mem_of_getElem? e2, rfl⟩) h

/-- the names rise. -/
def Rises (m : NM) : Prop := (keys m).Pairwise fun a b => bless a b = true
theorem bless_irr (a : List UInt8) : bless a a = false := by
  cases h : bless a a
  · rfl
  · have := bless_asymm a a h
    rw [h] at this; simp at this
theorem Rises.nodup {m : NM} (h : Rises m) : (keys m).Nodup := List.Pairwise.imp (fun hab e => by rw [e, bless_irr] at hab; simp at hab) h
theorem Rises.place {m : NM} (h : Rises m) {k : List UInt8} {n i : Nat} (hi : m[i]? = some (k, n)) : place m k = i := by
  refine place_at (fun j p hj hp => ?_) hi (bless_irr k)
  have h1 : (keys m)[j]? = some p.1 := by unfold keys; rw [List.getElem?_map, hp]; rfl
  have h2 : (keys m)[i]? = some k := by unfold keys; rw [List.getElem?_map, hi]; rfl
  exact pair_get h hj h1 h2
theorem Rises.there {m : NM} (h : Rises m) {k : List UInt8} {n : Nat} (hk : (k, n) ∈ m) : there m k = true ∧ held m k = n := by
  obtain ⟨i, hi⟩ := List.getElem?_of_mem hk
  have hp := h.place hi
  unfold R.there held
  rw [hp, hi]
  simp
theorem there_not {m : NM} {k : List UInt8} (h : k ∉ keys m) : R.there m k = false ∧ held m k = 0 := by
  have ht : R.there m k = false := by
    cases ht : R.there m k
    · rfl
    · exact absurd (List.mem_map.2 ⟨_, List.mem_of_getElem? (there_at ht), rfl⟩) h
  exact ⟨ht, held_no ht⟩

/-- the same names, as often. -/
def Alike (m1 m2 : NM) : Prop := m1.Perm m2 ∧ Rises m2
theorem Alike.nodup {m1 m2 : NM} (h : Alike m1 m2) : (keys m1).Nodup := (h.1.map Prod.fst).nodup_iff.2 h.2.nodup
theorem Alike.held {m1 m2 : NM} (h : Alike m1 m2) (k : List UInt8) : held m2 k = cnt m1 k := by
  by_cases hk : k ∈ keys m1
  · obtain ⟨⟨k', n⟩, hp, rfl⟩ := List.mem_map.1 hk
    rw [cnt_mem h.nodup hp, (h.2.there (h.1.mem_iff.1 hp)).2]
  · rw [cnt_not hk, (there_not fun hk2 => hk ((h.1.map Prod.fst).mem_iff.2 hk2)).2]
theorem Alike.there {m1 m2 : NM} (h : Alike m1 m2) (hg : ∀ p ∈ m1, 0 < p.2) (k : List UInt8) : R.there m2 k = decide (cnt m1 k ≠ 0) := by
  by_cases hk : k ∈ keys m1
  · obtain ⟨⟨k', n⟩, hp, rfl⟩ := List.mem_map.1 hk
    have := hg _ hp
    simp only at this
    rw [cnt_mem h.nodup hp, (h.2.there (h.1.mem_iff.1 hp)).1]
    simp; omega
  · rw [cnt_not hk, (there_not fun hk2 => hk ((h.1.map Prod.fst).mem_iff.2 hk2)).1]
    simp

theorem perm_erase {α : Type} : ∀ {l : List α} {i : Nat} {x : α}, l[i]? = some x → l.Perm (x :: l.eraseIdx i)
  | [], _, _, h => by simp at h
  | a :: l, 0, x, h => by simp at h; subst h; simp
  | a :: l, i + 1, x, h => by
    have := perm_erase (l := l) (i := i) (by simpa using h)
    simp only [List.eraseIdx_cons_succ]
    exact (this.cons a).trans (List.Perm.swap _ _ _)
theorem perm_set {α : Type} : ∀ {l : List α} {i : Nat} {x : α} (y : α), l[i]? = some x → (l.set i y).Perm (y :: l.eraseIdx i)
  | [], _, _, _, h => by simp at h
  | a :: l, 0, x, y, h => by simp
  | a :: l, i + 1, x, y, h => by
    have := perm_set (l := l) (i := i) y (by simpa using h)
    simp only [List.eraseIdx_cons_succ, List.set_cons_succ]
    exact (this.cons a).trans (List.Perm.swap _ _ _)
theorem perm_both {α : Type} {l l' : List α} (h : l.Perm l') {i j : Nat} {x : α} (h1 : l[i]? = some x) (h2 : l'[j]? = some x) : (l.eraseIdx i).Perm (l'.eraseIdx j) :=
  List.Perm.cons_inv (((perm_erase h1).symm.trans h).trans (perm_erase h2))
theorem keys_set {m : NM} {i : Nat} {k : List UInt8} {n n' : Nat} (h : m[i]? = some (k, n)) : keys (m.set i (k, n')) = keys m := by
  unfold keys
  exact map_set_same Prod.fst m i (k, n') fun y hy => by rw [h] at hy; simp at hy; subst hy; rfl

theorem fnd_mem {m : NM} {k : List UInt8} (hk : k ∈ keys m) : ∃ i n, fndN k m 0 = some (i, n) ∧ m[i]? = some (k, n) := by
  cases hf : fndN k m 0 with
  | none =>
    obtain ⟨p, hp, rfl⟩ := List.mem_map.1 hk
    exact absurd rfl (fndN_none hf p hp)
  | some p =>
    obtain ⟨i, v⟩ := p
    obtain ⟨j, e1, e2⟩ := fndN_some hf
    exact ⟨i, v, rfl, by rw [e1, Nat.zero_add]; exact e2⟩
theorem fnd_not {m : NM} {k : List UInt8} (hk : k ∉ keys m) : fndN k m 0 = none := by
  cases hf : fndN k m 0 with
  | none => rfl
  | some p =>
    obtain ⟨i, v⟩ := p
    obtain ⟨j, e1, e2⟩ := fndN_some hf
    exact absurd (List.mem_map.2 ⟨_, List.mem_of_getElem? e2, rfl⟩) hk

theorem Alike.set {m1 m2 : NM} (h : Alike m1 m2) {k : List UInt8} (hk : k ∈ keys m1) (n : Nat) : Alike (putN m1 k n) (m2.set (place m2 k) (k, n)) := by
  obtain ⟨i, v, e1, e2⟩ := fnd_mem hk
  have hm2 := h.1.mem_iff.1 (List.mem_of_getElem? e2)
  have ht := there_at (h.2.there hm2).1
  rw [(h.2.there hm2).2] at ht
  unfold putN
  rw [e1]
  refine ⟨((perm_set _ e2).trans ((perm_both h.1 e2 ht).cons _)).trans (perm_set _ ht).symm, ?_⟩
  unfold Rises
  rw [keys_set ht]
  exact h.2
theorem Alike.erase {m1 m2 : NM} (h : Alike m1 m2) {k : List UInt8} (hk : k ∈ keys m1) : Alike (cutN m1 k) (m2.eraseIdx (place m2 k)) := by
  obtain ⟨i, v, e1, e2⟩ := fnd_mem hk
  have hm2 := h.1.mem_iff.1 (List.mem_of_getElem? e2)
  have ht := there_at (h.2.there hm2).1
  rw [(h.2.there hm2).2] at ht
  unfold cutN
  rw [e1]
  refine ⟨perm_both h.1 e2 ht, ?_⟩
  unfold Rises keys
  rw [erase_map]
  exact List.Pairwise.sublist (List.eraseIdx_sublist _ _) h.2
theorem tw_mem {α : Type} (f : α → Bool) : ∀ {l : List α} {x : α}, x ∈ l.takeWhile f → f x = true
  | [], x, h => by simp at h
  | a :: l, x, h => by
    simp only [List.takeWhile_cons] at h
    split at h
    · rename_i ha
      rcases List.mem_cons.1 h with rfl | h
      · exact ha
      · exact tw_mem f h
    · simp at h
theorem Alike.insert {m1 m2 : NM} (h : Alike m1 m2) {k : List UInt8} (hk : k ∉ keys m1) : Alike (putN m1 k 1) (m2.take (place m2 k) ++ (k, 1) :: m2.drop (place m2 k)) := by
  have hk2 : k ∉ keys m2 := fun hk2 => hk ((h.1.map Prod.fst).mem_iff.2 hk2)
  unfold putN
  rw [fnd_not hk]
  refine ⟨?_, ?_⟩
  · refine ((List.perm_append_comm.trans (List.Perm.cons _ h.1)).trans ?_)
    have := (List.perm_middle (a := (k, 1)) (l₁ := m2.take (place m2 k)) (l₂ := m2.drop (place m2 k))).symm
    rw [List.take_append_drop] at this
    exact this
  · unfold Rises keys
    rw [List.map_append, List.map_cons, List.map_take, List.map_drop]
    have hr : Rises m2 := h.2
    unfold Rises keys at hr
    have hall : ∀ a ∈ (m2.map Prod.fst).take (place m2 k), bless a k = true := by
      intro a ha
      rw [← List.map_take] at ha
      obtain ⟨p, hp, rfl⟩ := List.mem_map.1 ha
      unfold place at hp
      have htw : m2.take (m2.takeWhile fun p => bless p.1 k).length = m2.takeWhile fun p => bless p.1 k := (List.prefix_iff_eq_take.1 (List.takeWhile_prefix _)).symm
      rw [htw] at hp
      exact tw_mem (fun p : List UInt8 × Nat => bless p.1 k) hp
    have hrest : ∀ b ∈ (m2.map Prod.fst).drop (place m2 k), bless k b = true := by
      intro b hb
      obtain ⟨j, hj⟩ := List.getElem?_of_mem hb
      rw [List.getElem?_drop] at hj
      have h0 : ∃ q, m2[place m2 k]? = some q := ⟨_, List.getElem?_eq_getElem (by have := lt_of_get hj; simp at this; omega)⟩
      obtain ⟨q, hq⟩ := h0
      have hqf : bless q.1 k = false := by
        cases hc : bless q.1 k
        · rfl
        · exfalso
          have h1 : place m2 k < place m2 k := by
            have hlt := lt_of_get hq
            have : ∀ (l : NM) (i : Nat) (q : List UInt8 × Nat), i = (l.takeWhile fun p => bless p.1 k).length → l[i]? = some q → bless q.1 k = false := by
              intro l
              induction l with
              | nil => intro i q _ h; simp at h
              | cons x l ih =>
                intro i q hi h
                simp only [List.takeWhile_cons] at hi
                split at hi
                · subst hi
                  exact ih _ q rfl (by simpa using h)
                · rename_i hx
                  simp at hi; subst hi
                  simp at h; subst h
                  simpa using hx
            have := this m2 _ q rfl hq
            rw [this] at hc; simp at hc
          omega
      have hqk : q.1 ≠ k := fun e => hk2 (List.mem_map.2 ⟨q, List.mem_of_getElem? hq, e⟩)
      have hkq : bless k q.1 = true := by
        cases hc : bless k q.1
        · exact absurd (bless_total _ _ hqf hc) hqk
        · rfl
      have hq' : (m2.map Prod.fst)[place m2 k]? = some q.1 := by rw [List.getElem?_map, hq]; rfl
      rcases Nat.eq_zero_or_pos j with h0 | h0
      · subst h0
        rw [Nat.add_zero, hq'] at hj
        simp at hj; subst hj
        exact hkq
      · exact bless_trans _ _ _ hkq (pair_get hr (by omega) hq' hj)
    rw [List.pairwise_append]
    refine ⟨List.Pairwise.sublist (List.take_sublist _ _) hr, List.pairwise_cons.2 ⟨hrest, List.Pairwise.sublist (List.drop_sublist _ _) hr⟩, fun a ha b hb => ?_⟩
    rcases List.mem_cons.1 hb with rfl | hb
    · exact hall a ha
    · exact bless_trans _ _ _ (hall a ha) (hrest b hb)
end R
end Go.Proofs.Ytalcaflkfpiehaa
