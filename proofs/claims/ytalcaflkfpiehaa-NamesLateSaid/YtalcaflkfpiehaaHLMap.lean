/-
  HL: maps whose entries are known, asked, written, gone through.
-/
import Derived.Test.YtalcaflkfpiehaaHLOwn
namespace Go.HL
open Go

/-- keys of a kind. -/
structure KEmb (K : Type) [DecidableEq K] (f : K → HV) (kk : KK) : Prop where
  eq : ∀ a b, keq (f a) (f b) = some (decide (a = b))
  fits : ∀ a, kk.fits (f a) = true
theorem strKey : KEmb (List UInt8) HV.str .str := ⟨fun a b => by
  simp only [keq]
  congr 1
  by_cases h : a = b
  · subst h; simp
  · simp [h], fun _ => rfl⟩
theorem intKey (k : IntKind) : KEmb Int (HV.int k) .int := ⟨fun a b => by
  simp only [keq, if_true]
  by_cases h : a = b
  · subst h; simp
  · simp [h], fun _ => rfl⟩

variable {K : Type} {f : K → HV} {kk : KK}

/-- a block is a map with these entries. -/
def MapIs (f : K → HV) (hs : HS) (h : Nat) (m : List (K × HV)) : Prop :=
  ∃ es clock, hs[h]? = some (some (.map es clock)) ∧ es.map (fun e => (e.1, e.2.1)) = m.map (fun p => (f p.1, p.2)) ∧ (∀ e ∈ es, e.2.2 < clock) ∧ (es.map (·.2.2)).Nodup ∧ (m.map Prod.fst).Nodup

/-- where a key stands, and what with it. -/
def fnd [DecidableEq K] (k : K) : List (K × HV) → Nat → Option (Nat × HV)
  | [], _ => none
  | (k', v) :: m, i => if k = k' then some (i, v) else fnd k m (i + 1)
def look [DecidableEq K] (m : List (K × HV)) (k : K) : Option HV := (fnd k m 0).map Prod.snd

theorem hfind_fnd [DecidableEq K] (kb : KEmb K f kk) (k : K) : ∀ {es : List (HV × HV × Nat)} {m : List (K × HV)} {i : Nat}, es.map (fun e => (e.1, e.2.1)) = m.map (fun p => (f p.1, p.2)) → hfind (f k) es i = some (fnd k m i)
  | [], [], _, _ => rfl
  | [], _ :: _, _, h => by simp at h
  | _ :: _, [], _, h => by simp at h
  | (a, b, c) :: es, (k', v) :: m, i, h => by
    simp only [List.map_cons, List.cons.injEq, Prod.mk.injEq] at h
    obtain ⟨⟨rfl, rfl⟩, h2⟩ := h
    unfold hfind fnd
    rw [kb.eq]
    by_cases hk : k = k'
    · simp [hk]
    · simp only [hk, decide_false, if_false]
      exact hfind_fnd kb k h2

theorem fnd_some [DecidableEq K] {k : K} : ∀ {m : List (K × HV)} {i j : Nat} {v : HV}, fnd k m i = some (j, v) → ∃ n, j = i + n ∧ m[n]? = some (k, v)
  | [], _, _, _, h => by simp [fnd] at h
  | (k', v') :: m, i, j, v, h => by
    unfold fnd at h
    split at h
    · rename_i hk
      simp at h
      obtain ⟨rfl, rfl⟩ := h
      exact ⟨0, rfl, by simp [hk]⟩
    · obtain ⟨n, e1, e2⟩ := fnd_some h
      exact ⟨n + 1, by omega, by simpa using e2⟩
theorem fnd_none [DecidableEq K] {k : K} : ∀ {m : List (K × HV)} {i : Nat}, fnd k m i = none ↔ k ∉ m.map Prod.fst
  | [], _ => by simp [fnd]
  | (k', v') :: m, i => by
    unfold fnd
    split
    · rename_i hk; simp [hk]
    · rename_i hk
      rw [fnd_none]
      simp [hk]

theorem MapIs.lookup [DecidableEq K] (kb : KEmb K f kk) {hs : HS} {h : Nat} {m : List (K × HV)} (M : MapIs f hs h m) (z : HV) (k : K) :
    hlookup hs kk z false (.map h) (f k) = some ((look m k).getD z) := by
  obtain ⟨es, clock, hb, he, _⟩ := M
  unfold hlookup look
  rw [if_pos (kb.fits k)]
  simp only [hb, hfind_fnd kb k he]
  cases fnd k m 0 with
  | none => rfl
  | some p => rfl
theorem MapIs.lookupOk [DecidableEq K] (kb : KEmb K f kk) {hs : HS} {h : Nat} {m : List (K × HV)} (M : MapIs f hs h m) (z : HV) (k : K) :
    hlookup hs kk z true (.map h) (f k) = some (.tup [(look m k).getD z, .bool (look m k).isSome]) := by
  obtain ⟨es, clock, hb, he, _⟩ := M
  unfold hlookup look
  rw [if_pos (kb.fits k)]
  simp only [hb, hfind_fnd kb k he]
  cases fnd k m 0 with
  | none => rfl
  | some p => rfl
theorem MapIs.len {hs : HS} {h : Nat} {m : List (K × HV)} (M : MapIs f hs h m) : hlenK hs .map (.map h) = some (.int .i64 (m.length : Nat)) := by
  obtain ⟨es, clock, hb, he, _⟩ := M
  have : es.length = m.length := by simpa using congrArg List.length he
  simp only [hlenK, hb, this]

theorem MapIs.same {hs hs' : HS} {h : Nat} {m : List (K × HV)} (M : MapIs f hs h m) (e : hs'[h]? = hs[h]?) : MapIs f hs' h m := by
  obtain ⟨es, clock, hb, r⟩ := M
  exact ⟨es, clock, by rw [e]; exact hb, r⟩
theorem MapIs.lt {hs : HS} {h : Nat} {m : List (K × HV)} (M : MapIs f hs h m) : h < hs.length := by
  obtain ⟨es, clock, hb, _⟩ := M
  exact lt_of_get hb
theorem MapIs.nodup {hs : HS} {h : Nat} {m : List (K × HV)} (M : MapIs f hs h m) : (m.map Prod.fst).Nodup := by
  obtain ⟨es, clock, hb, _, _, _, h5⟩ := M
  exact h5

/-- an entry more, or another value. -/
def put1 [DecidableEq K] (m : List (K × HV)) (k : K) (v : HV) : List (K × HV) :=
  match fnd k m 0 with
  | some (i, _) => m.set i (k, v)
  | none => m ++ [(k, v)]

theorem map_set_same {α β : Type} (g : α → β) (l : List α) (i : Nat) (x : α) (h : ∀ y, l[i]? = some y → g x = g y) : (l.set i x).map g = l.map g := by
  rw [List.map_set]
  apply List.ext_getElem?
  intro j
  rw [List.getElem?_set]
  split
  · rename_i hj; subst hj
    split
    · rename_i hl
      rw [List.length_map] at hl
      rw [List.getElem?_map, List.getElem?_eq_getElem hl]
      simp only [Option.map_some, Option.some.injEq]
      exact h _ (List.getElem?_eq_getElem hl)
    · rename_i hl
      rw [List.getElem?_eq_none (by omega)]
  · rfl

theorem MapIs.update [DecidableEq K] (kb : KEmb K f kk) {hs : HS} {h : Nat} {m : List (K × HV)} (M : MapIs f hs h m) (k : K) (v : HV) :
    ∃ hs', hmapUpdate hs kk (.map h) (f k) v = some hs' ∧ MapIs f hs' h (put1 m k v) ∧ hs'.length = hs.length ∧ ∀ i, i ≠ h → hs'[i]? = hs[i]? := by
  obtain ⟨es, clock, hb, he, h3, h4, h5⟩ := M
  have hlt := lt_of_get hb
  have hl : es.length = m.length := by simpa using congrArg List.length he
  unfold hmapUpdate
  rw [if_pos (kb.fits k)]
  simp only [hb, hfind_fnd kb k he]
  cases hf : fnd k m 0 with
  | none =>
    have hn := fnd_none.1 hf
    refine ⟨_, rfl, ?_, by simp, fun i hi => by rw [List.getElem?_set, if_neg (fun e => hi e.symm)]⟩
    refine ⟨es ++ [(f k, v, clock)], clock + 1, by rw [List.getElem?_set]; simp [hlt, hmapSet], ?_, fun e hm => ?_, ?_, ?_⟩
    · simp [put1, hf, he]
    · rcases List.mem_append.1 hm with h | h
      · have := h3 e h; omega
      · simp at h; subst h; simp
    · rw [List.map_append, List.nodup_append]
      refine ⟨h4, by simp, fun a ha b hb' => ?_⟩
      simp at hb'; subst hb'
      obtain ⟨e, he', rfl⟩ := List.mem_map.1 ha
      have := h3 e he'
      omega
    · simp only [put1, hf, List.map_append, List.map_cons, List.map_nil]
      rw [List.nodup_append]
      refine ⟨h5, by simp, fun a ha b hb' => ?_⟩
      simp at hb'; subst hb'
      intro e; subst e; exact hn ha
  | some p =>
    obtain ⟨i, v0⟩ := p
    obtain ⟨n, e1, e2⟩ := fnd_some hf
    obtain rfl : i = n := by omega
    have hi := lt_of_get e2
    refine ⟨_, rfl, ?_, by simp, fun j hj => by rw [List.getElem?_set, if_neg (fun e => hj e.symm)]⟩
    have hmod : es.modify i (fun e => (f k, v, e.2.2)) = es.set i (f k, v, (es[i]'(by omega)).2.2) := by
      apply List.ext_getElem?
      intro j
      rw [List.getElem?_modify, List.getElem?_set]
      by_cases hij : i = j
      · subst hij
        simp [show i < es.length by omega]
      · simp [hij]
    refine ⟨es.set i (f k, v, (es[i]'(by omega)).2.2), clock, by rw [List.getElem?_set]; simp [hlt, hmapSet, hmod], ?_, fun e hm => ?_, ?_, ?_⟩
    · simp only [put1, hf]
      rw [List.map_set, List.map_set, he]
    · rcases List.mem_or_eq_of_mem_set hm with h | h
      · exact h3 e h
      · subst h
        show (es[i]'(by omega)).2.2 < clock
        exact h3 _ (List.getElem_mem (by omega))
    · rw [map_set_same]
      · exact h4
      · intro y hy
        rw [List.getElem?_eq_getElem (by omega)] at hy
        simp at hy; subst hy; rfl
    · simp only [put1, hf]
      rw [map_set_same]
      · exact h5
      · intro y hy
        rw [e2] at hy
        simp at hy; subst hy; rfl

theorem erase_map {α β : Type} (g : α → β) : ∀ (l : List α) (i : Nat), (l.eraseIdx i).map g = (l.map g).eraseIdx i
  | [], _ => by simp
  | _ :: _, 0 => by simp
  | x :: l, i + 1 => by simp [erase_map g l i]

/-- an entry less. -/
def cut1 [DecidableEq K] (m : List (K × HV)) (k : K) : List (K × HV) :=
  match fnd k m 0 with
  | some (i, _) => m.eraseIdx i
  | none => m
theorem MapIs.delete [DecidableEq K] (kb : KEmb K f kk) {hs : HS} {h : Nat} {m : List (K × HV)} (M : MapIs f hs h m) (k : K) :
    ∃ hs', hdelete hs kk (.map h) (f k) = some hs' ∧ MapIs f hs' h (cut1 m k) ∧ hs'.length = hs.length ∧ ∀ i, i ≠ h → hs'[i]? = hs[i]? := by
  obtain ⟨es, clock, hb, he, h3, h4, h5⟩ := M
  have hlt := lt_of_get hb
  unfold hdelete
  rw [if_pos (kb.fits k)]
  simp only [hb, hfind_fnd kb k he]
  cases hf : fnd k m 0 with
  | none =>
    refine ⟨_, rfl, ⟨es, clock, by rw [List.getElem?_set]; simp [hlt], by simpa [cut1, hf] using he, h3, h4, by simpa [cut1, hf] using h5⟩, by simp, fun i hi => by rw [List.getElem?_set, if_neg (fun e => hi e.symm)]⟩
  | some p =>
    obtain ⟨i, v0⟩ := p
    refine ⟨_, rfl, ⟨es.eraseIdx i, clock, by rw [List.getElem?_set]; simp [hlt], ?_, fun e hm => h3 e (List.mem_of_mem_eraseIdx hm), ?_, ?_⟩, by simp, fun j hj => by rw [List.getElem?_set, if_neg (fun e => hj e.symm)]⟩
    · simp only [cut1, hf]
      rw [erase_map, erase_map, he]
    · rw [erase_map]
      exact h4.sublist (List.eraseIdx_sublist _ _)
    · simp only [cut1, hf]
      rw [erase_map]
      exact h5.sublist (List.eraseIdx_sublist _ _)

theorem MapIs.new (f : K → HV) (hs : HS) : MapIs f (hs ++ [some (.map [] 0)]) hs.length ([] : List (K × HV)) := ⟨[], 0, by simp, rfl, by simp, by simp, by simp⟩

/-- a range over a map that stays as it is: what came so far. -/
def Going (f : K → HV) (hs : HS) (it h : Nat) (m done : List (K × HV)) : Prop :=
  ∃ (es : List (HV × HV × Nat)) (clock : Nat) (L : List (HV × HV × Nat)), hs[h]? = some (some (.map es clock)) ∧ es.map (fun e => (e.1, e.2.1)) = m.map (fun p => (f p.1, p.2)) ∧ (∀ e ∈ es, e.2.2 < clock) ∧ (es.map (·.2.2)).Nodup ∧
    hs[it]? = some (some (.miter (some h) clock (L.map (·.2.2)) clock)) ∧ L.map (fun e => (e.1, e.2.1)) = done.map (fun p => (f p.1, p.2)) ∧ (∀ e ∈ L, e ∈ es) ∧ (L.map (·.2.2)).Nodup

theorem MapIs.range {hs : HS} {h : Nat} {m : List (K × HV)} (M : MapIs f hs h m) :
    ∃ hs', hrangeMap hs (.map h) = some (.ptr hs.length 0, hs') ∧ Going f hs' hs.length h m [] ∧ Keeps hs.length hs hs' ∧ hs'.length = hs.length + 1 := by
  obtain ⟨es, clock, hb, he, h3, h4, h5⟩ := M
  refine ⟨_, by simp only [hrangeMap, hb]; rfl, ⟨es, clock, [], ?_, he, h3, h4, by simp, rfl, by simp, by simp⟩, Keeps.app (Nat.le_refl _), by simp⟩
  rw [List.getElem?_append_left (lt_of_get hb)]; exact hb

theorem Going.map {hs : HS} {it h : Nat} {m done : List (K × HV)} (G : Going f hs it h m done) (hm : (m.map Prod.fst).Nodup) : MapIs f hs h m := by
  obtain ⟨es, clock, L, hb, he, h3, h4, _⟩ := G
  exact ⟨es, clock, hb, he, h3, h4, hm⟩

theorem nodup_of_map {α β : Type} (g : α → β) {l : List α} (h : (l.map g).Nodup) : l.Nodup := by
  induction l with
  | nil => simp
  | cons x l ih =>
    rw [List.map_cons, List.nodup_cons] at h
    rw [List.nodup_cons]
    exact ⟨fun hx => h.1 (List.mem_map.2 ⟨x, hx, rfl⟩), ih h.2⟩
theorem inj_of_nodup {α β : Type} (g : α → β) : ∀ {l : List α}, (l.map g).Nodup → ∀ {x y : α}, x ∈ l → y ∈ l → g x = g y → x = y
  | [], _, x, _, hx, _, _ => by simp at hx
  | a :: l, h, x, y, hx, hy, e => by
    rw [List.map_cons, List.nodup_cons] at h
    rcases List.mem_cons.1 hx with h1 | h1
    · rcases List.mem_cons.1 hy with h2 | h2
      · rw [h1, h2]
      · exact absurd (List.mem_map.2 ⟨y, h2, by rw [← e, h1]⟩) h.1
    · rcases List.mem_cons.1 hy with h2 | h2
      · exact absurd (List.mem_map.2 ⟨x, h1, by rw [e, h2]⟩) h.1
      · exact inj_of_nodup g h.2 h1 h2 e

theorem nodup_len : ∀ {l l' : List Nat}, l.Nodup → (∀ x ∈ l, x ∈ l') → l.length ≤ l'.length
  | [], _, _, _ => Nat.zero_le _
  | x :: l, l', h, hs => by
    rw [List.nodup_cons] at h
    have hx := hs x (by simp)
    have ih := nodup_len (l := l) (l' := l'.erase x) h.2 fun y hy => by
      have hne : y ≠ x := fun e => h.1 (e ▸ hy)
      exact (List.mem_erase_of_ne hne).2 (hs y (by simp [hy]))
    rw [List.length_erase_of_mem hx] at ih
    have : 0 < l'.length := List.length_pos_of_mem hx
    simp only [List.length_cons]
    omega

/-- the next entry: any that is left; or all have come. -/
theorem Going.next {hs : HS} {it h : Nat} {m done : List (K × HV)} (G : Going f hs it h m done) (g : HV → K) (hg : ∀ a, g (f a) = a) (hne : it ≠ h) :
    ∃ l, hnextAll hs (.ptr it 0) = some l ∧ ∀ p ∈ l, (p = (.tup [.bool false], hs) ∧ done.Perm m) ∨
      ∃ k v hs', p = (.tup [.bool true, f k, v], hs') ∧ Going f hs' it h m (done ++ [(k, v)]) ∧ (k, v) ∈ m ∧ hentry hs' (.ptr it 0) = some (.tup [f k, v]) ∧ hs'.length = hs.length ∧ (done.length < m.length) ∧ ∀ i, i ≠ it → hs'[i]? = hs[i]? := by
  obtain ⟨es, clock, L, hb, he, h3, h4, hi, h5, h6, h7⟩ := G
  have hall : es.all (fun e => decide (e.2.2 < clock)) = true ∧ clock ≤ clock := ⟨List.all_eq_true.2 fun e he => by simpa using h3 e he, Nat.le_refl _⟩
  have hen := nodup_of_map _ h4
  have hln := nodup_of_map _ h7
  have hlen : es.length = m.length := by simpa using congrArg List.length he
  have hdl : L.length = done.length := by simpa using congrArg List.length h5
  simp only [hnextAll, hi, hb, if_pos hall]
  cases hl : leftE es (L.map (·.2.2)) with
  | nil =>
    refine ⟨_, rfl, fun p hp => ?_⟩
    simp at hp
    refine .inl ⟨hp, ?_⟩
    have hsub : ∀ e ∈ es, e ∈ L := by
      intro e hee
      have : e ∉ leftE es (L.map (·.2.2)) := by rw [hl]; simp
      unfold leftE at this
      rw [List.mem_filter] at this
      have h9 : (L.map (·.2.2)).contains e.2.2 = true := by
        cases hc : (L.map (·.2.2)).contains e.2.2 with
        | true => rfl
        | false => exact absurd ⟨hee, by rw [hc]; rfl⟩ this
      rw [List.contains_iff_mem, List.mem_map] at h9
      obtain ⟨e', he', heq⟩ := h9
      rw [← inj_of_nodup (fun e : HV × HV × Nat => e.2.2) h4 (h6 e' he') hee heq]
      exact he'
    have hperm : L.Perm es := (List.perm_ext_iff_of_nodup hln hen).2 fun e => ⟨h6 e, hsub e⟩
    have h10 := hperm.map fun e : HV × HV × Nat => (g e.1, e.2.1)
    have h11 : L.map (fun e : HV × HV × Nat => (g e.1, e.2.1)) = done := by
      have := congrArg (List.map fun x : HV × HV => (g x.1, x.2)) h5
      rw [List.map_map, List.map_map] at this
      rw [show (fun e : HV × HV × Nat => (g e.1, e.2.1)) = (fun x : HV × HV => (g x.1, x.2)) ∘ fun e : HV × HV × Nat => (e.1, e.2.1) from rfl, this]
      rw [show ((fun x : HV × HV => (g x.1, x.2)) ∘ fun p : K × HV => (f p.1, p.2)) = id from funext fun p => by simp [hg]]
      simp
    have h12 : es.map (fun e : HV × HV × Nat => (g e.1, e.2.1)) = m := by
      have := congrArg (List.map fun x : HV × HV => (g x.1, x.2)) he
      rw [List.map_map, List.map_map] at this
      rw [show (fun e : HV × HV × Nat => (g e.1, e.2.1)) = (fun x : HV × HV => (g x.1, x.2)) ∘ fun e : HV × HV × Nat => (e.1, e.2.1) from rfl, this]
      rw [show ((fun x : HV × HV => (g x.1, x.2)) ∘ fun p : K × HV => (f p.1, p.2)) = id from funext fun p => by simp [hg]]
      simp
    rw [h11, h12] at h10
    exact h10
  | cons a r =>
    refine ⟨_, rfl, fun p hp => .inr ?_⟩
    rw [List.mem_map] at hp
    obtain ⟨e, hee, rfl⟩ := hp
    rw [← hl] at hee
    unfold leftE at hee
    rw [List.mem_filter] at hee
    obtain ⟨hes, hns⟩ := hee
    have hns' : e.2.2 ∉ L.map (·.2.2) := by
      intro hc
      rw [List.contains_iff_mem.2 hc] at hns
      simp at hns
    obtain ⟨⟨k, v⟩, hkv, hk⟩ := List.mem_map.1 (show (e.1, e.2.1) ∈ m.map (fun p => (f p.1, p.2)) by rw [← he]; exact List.mem_map.2 ⟨e, hes, rfl⟩)
    simp only [Prod.mk.injEq] at hk
    obtain ⟨k1, k2⟩ := hk
    have hit := lt_of_get hi
    refine ⟨k, v, _, by rw [k1, k2], ⟨es, clock, L ++ [e], by rw [List.getElem?_set, if_neg hne]; exact hb, he, h3, h4, by rw [List.getElem?_set]; simp [hit], ?_, ?_, ?_⟩, hkv, ?_, by simp, ?_, fun i hi' => by rw [List.getElem?_set, if_neg (fun x => hi' x.symm)]⟩
    · simp [h5, k1, k2]
    · intro x hx
      rcases List.mem_append.1 hx with h | h
      · exact h6 x h
      · simp at h; subst h; exact hes
    · rw [List.map_append, List.nodup_append]
      refine ⟨h7, by simp, fun x hx y hy => ?_⟩
      simp at hy; subst hy
      intro e'; subst e'; exact hns' hx
    · have hb' : (hs.set it (some (.miter (some h) clock (L.map (·.2.2) ++ [e.2.2]) clock)))[h]? = some (some (.map es clock)) := by rw [List.getElem?_set, if_neg hne]; exact hb
      have hi2 : (hs.set it (some (.miter (some h) clock (L.map (·.2.2) ++ [e.2.2]) clock)))[it]? = some (some (.miter (some h) clock (L.map (·.2.2) ++ [e.2.2]) clock)) := by rw [List.getElem?_set]; simp [hit]
      simp only [hentry, hi2, hb', List.getLast?_append, List.getLast?_singleton, Option.some_or, if_true]
      have hfind : es.find? (fun x => x.2.2 == e.2.2) = some e := by
        cases hq : es.find? (fun x => x.2.2 == e.2.2) with
        | none =>
          have := List.find?_eq_none.1 hq e hes
          simp at this
        | some y =>
          have h1 := List.find?_some hq
          have h2 := List.mem_of_find?_eq_some hq
          simp at h1
          rw [inj_of_nodup (fun e : HV × HV × Nat => e.2.2) h4 h2 hes h1]
      rw [hfind, k1, k2]
    · rcases Nat.lt_or_ge done.length m.length with h | h
      · exact h
      · exfalso
        have hsub := nodup_len (l := (L ++ [e]).map (·.2.2)) (l' := es.map (·.2.2)) (by
          rw [List.map_append, List.nodup_append]
          refine ⟨h7, by simp, fun x hx y hy => ?_⟩
          simp at hy; subst hy
          intro e'; subst e'; exact hns' hx) (fun x hx => by
            obtain ⟨y, hy, rfl⟩ := List.mem_map.1 hx
            rcases List.mem_append.1 hy with h | h
            · exact List.mem_map.2 ⟨y, h6 y h, rfl⟩
            · simp at h; subst h; exact List.mem_map.2 ⟨y, hes, rfl⟩)
        simp at hsub
        omega
end Go.HL
