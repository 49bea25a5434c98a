/-
  HL: a region whose order is open: every order does what one of them does.
-/
import Derived.Test.YteedmbmgemiheaaDoorKYHLExec
import Derived.Orders
namespace Go.HL
open Go
variable {ds : List Deferred}

/-! ### who runs ahead of whom -/
inductive Bef (ops : List Oper) : Nat → Nat → Prop
  | edge {i k : Nat} (o : Oper) : ops[i]? = some o → k ∈ edgesOf o → Bef ops k i
  | trans {i j k : Nat} : Bef ops i j → Bef ops j k → Bef ops i k

theorem predsGo_sound (ops0 : List Oper) : ∀ (r : List Oper) (acc : List (List Nat)), (∃ pre, ops0 = pre ++ r ∧ pre.length = acc.length) → (∀ i k, k ∈ acc.getD i [] → Bef ops0 k i) →
    ∀ i k, k ∈ (predsGo r acc).getD i [] → Bef ops0 k i
  | [], acc, _, h, i, k, hk => h i k hk
  | o :: r, acc, ⟨pre, hp, hl⟩, h, i, k, hk => by
    refine predsGo_sound ops0 r _ ⟨pre ++ [o], by simp [hp], by simp [hl]⟩ ?_ i k hk
    intro i k hk
    rw [List.getD_eq_getElem?_getD] at hk
    rcases Nat.lt_trichotomy i acc.length with hi | hi | hi
    · rw [List.getElem?_append_left hi, ← List.getD_eq_getElem?_getD] at hk
      exact h i k hk
    · subst hi
      simp at hk
      have ho : ops0[acc.length]? = some o := by rw [hp, ← hl]; simp
      obtain ⟨l, ⟨k0, hk0, rfl⟩, hk1⟩ := hk
      rcases List.mem_cons.1 hk1 with rfl | hk1
      · exact .edge o ho hk0
      · exact .trans (h k0 k (by rw [List.getD_eq_getElem?_getD]; exact hk1)) (.edge o ho hk0)
    · rw [List.getElem?_eq_none (by simp; omega)] at hk
      simp at hk

/-! ### what an operation hangs on -/
theorem ev_congr {x : HX} {fr fr' : List HV} (h : ∀ t ∈ rx x, fr[t]? = fr'[t]?) : x.ev fr = x.ev fr' := by
  cases x with
  | tmp t => simp only [HX.ev]; rw [h t (by simp [rx])]
  | cst v => rfl

theorem evs_congr {l : List HX} {fr fr' : List HV} (h : ∀ t ∈ rxs l, fr[t]? = fr'[t]?) : l.map (HX.ev fr) = l.map (HX.ev fr') := by
  refine List.map_congr_left fun x hx => ev_congr fun t ht => h t ?_
  simp only [rxs, List.mem_flatten, List.mem_map]
  exact ⟨_, ⟨x, hx, rfl⟩, ht⟩

theorem evo_congr {o : Option HX} {fr fr' : List HV} (h : ∀ t ∈ rxo o, fr[t]? = fr'[t]?) : o.map (HX.ev fr) = o.map (HX.ev fr') := by
  cases o with
  | none => rfl
  | some x => simp only [Option.map_some]; rw [ev_congr h]

theorem evp_congr {l : List (Nat × Nat × HX)} {fr fr' : List HV} (h : ∀ t ∈ rps l, fr[t]? = fr'[t]?) : evp fr l = evp fr' l := by
  unfold evp
  refine List.map_congr_left fun x hx => ?_
  rw [ev_congr fun t ht => h t ?_]
  simp only [rps, List.mem_flatten, List.mem_map]
  exact ⟨_, ⟨x, hx, rfl⟩, ht⟩

theorem hop_congr {o : HOp} {fr fr' : List HV} {hs : HS} (h : ∀ t ∈ readsOp o, fr[t]? = fr'[t]?) : hop o fr hs = hop o fr' hs := by
  cases o <;> simp only [readsOp, List.mem_append] at h <;> simp only [hop]
  case mv a => rw [ev_congr h]
  case pick a b c => rw [ev_congr fun t ht => h t (.inl (.inl ht)), ev_congr fun t ht => h t (.inl (.inr ht)), ev_congr fun t ht => h t (.inr ht)]
  case box a => rw [ev_congr h]
  case build z ps => rw [evp_congr h]
  case bslice s l z ps => rw [evp_congr h]
  case load n a => rw [ev_congr h]
  case store n a b => rw [ev_congr fun t ht => h t (.inl ht), ev_congr fun t ht => h t (.inr ht)]
  case nilc a => rw [ev_congr h]
  case bin op k a b => rw [ev_congr fun t ht => h t (.inl ht), ev_congr fun t ht => h t (.inr ht)]
  case un op a => rw [ev_congr h]
  case cInt k a => rw [ev_congr h]
  case mark a => rw [ev_congr h]
  case cStr a => rw [ev_congr h]
  case b2s a => rw [ev_congr h]
  case s2b a => rw [ev_congr h]
  case faddr o a => rw [ev_congr h]
  case field n o a => rw [ev_congr h]
  case idxS s a b => rw [ev_congr fun t ht => h t (.inl ht), ev_congr fun t ht => h t (.inr ht)]
  case gidxA n s g a => rw [ev_congr h]
  case idxA n s a b => rw [ev_congr fun t ht => h t (.inl ht), ev_congr fun t ht => h t (.inr ht)]
  case idxV n s k a b => rw [ev_congr fun t ht => h t (.inl ht), ev_congr fun t ht => h t (.inr ht)]
  case idxStr a b => rw [ev_congr fun t ht => h t (.inl ht), ev_congr fun t ht => h t (.inr ht)]
  case sliceStr a b c => rw [ev_congr fun t ht => h t (.inl (.inl ht)), evo_congr fun t ht => h t (.inl (.inr ht)), evo_congr fun t ht => h t (.inr ht)]
  case sliceSl s a b c d => rw [ev_congr fun t ht => h t (.inl (.inl (.inl ht))), evo_congr fun t ht => h t (.inl (.inl (.inr ht))), evo_congr fun t ht => h t (.inl (.inr ht)), evo_congr fun t ht => h t (.inr ht)]
  case sliceArr n s a b c d => rw [ev_congr fun t ht => h t (.inl (.inl (.inl ht))), evo_congr fun t ht => h t (.inl (.inl (.inr ht))), evo_congr fun t ht => h t (.inl (.inr ht)), evo_congr fun t ht => h t (.inr ht)]
  case mkSlice s y z a b => rw [ev_congr fun t ht => h t (.inl ht), ev_congr fun t ht => h t (.inr ht)]
  case lookup kk z ok a b => rw [ev_congr fun t ht => h t (.inl ht), ev_congr fun t ht => h t (.inr ht)]
  case mapUpd kk a b c => rw [ev_congr fun t ht => h t (.inl (.inl ht)), ev_congr fun t ht => h t (.inl (.inr ht)), ev_congr fun t ht => h t (.inr ht)]
  case del kk a b => rw [ev_congr fun t ht => h t (.inl ht), ev_congr fun t ht => h t (.inr ht)]
  case clr a => rw [ev_congr h]
  case rangeStr a => rw [ev_congr h]
  case nextStr a => rw [ev_congr h]
  case rangeMap a => rw [ev_congr h]
  case entry a => rw [ev_congr h]
  case cap a => rw [ev_congr h]
  case iface t a => rw [ev_congr h]
  case assert t z ok a => rw [ev_congr h]
  case mkfn fn f c => rw [evs_congr fun t ht => h t (.inl ht), evs_congr fun t ht => h t (.inr ht)]
  case ext i a => rw [ev_congr h]
  case len k a => rw [ev_congr h]
  case append s y a b => rw [ev_congr fun t ht => h t (.inl ht), ev_congr fun t ht => h t (.inr ht)]
  case copy s a b => rw [ev_congr fun t ht => h t (.inl ht), ev_congr fun t ht => h t (.inr ht)]
  case minmax lt l => rw [evs_congr h]

theorem hop_pure {o : HOp} {fr : List HV} {hs hs1 : HS} {v : HV} (hl : o.loud = false) (hk : o.looks = false) (h : hop o fr hs = some (v, hs1)) (hs' : HS) : hop o fr hs' = some (v, hs') := by
  cases o <;> simp [HOp.loud, HOp.looks] at hl hk <;> simp only [hop] at h ⊢
  case mv a => simp at h ⊢; exact h.1
  case pick a b c => split at h <;> simp at h ⊢; exact h.1
  case iface t a => simp at h ⊢; exact h.1
  case mkfn fn f c => simp at h ⊢; exact h.1
  case bad => simp at h
  all_goals (have := (same_some h).1; rw [this]; rfl)

theorem hop_quiet {o : HOp} {fr : List HV} {hs hs1 : HS} {v : HV} (hl : o.loud = false) (h : hop o fr hs = some (v, hs1)) : hs1 = hs := by
  cases o <;> simp [HOp.loud] at hl <;> simp only [hop] at h
  case mv a => simp at h; exact h.2.symm
  case pick a b c => split at h <;> simp at h; exact h.2.symm
  case iface t a => simp at h; exact h.2.symm
  case mkfn fn f c => simp at h; exact h.2.symm
  case bad => simp at h
  case b2s a => split at h <;> (try (simp at h; done)); exact (same_some h).2
  case gidxA n s g a => split at h <;> (try (simp at h; done)); exact (same_some h).2
  case gload n g => split at h <;> (try (simp at h; done)); exact (same_some h).2
  case idxS s a b => split at h <;> (try (simp at h; done)); exact (same_some h).2
  case sliceSl s a b c d => split at h <;> (try (simp at h; done)); exact (same_some h).2
  all_goals exact (same_some h).2

theorem does_congr {P : Program} {o : HOper} {fr fr' : List HV} {hs : HS} {K : HV → HS → Prop} (h : ∀ t ∈ readsOf o, fr[t]? = fr'[t]?) (hd : o.act.does P fr hs K) : o.act.does P fr' hs K := by
  unfold readsOf at h
  have h' : ∀ t ∈ (match o.act with | .call f args => rx f ++ rxs args | .op o => readsOp o | .next x => rx x | .inv _ r xs => rx r ++ rxs xs), fr[t]? = fr'[t]? := fun t ht => h t (List.mem_append_right _ ht)
  cases ha : o.act with
  | op q =>
    rw [ha] at hd h'
    simp only [HAct.does] at hd ⊢
    rw [hop_congr h'] at hd
    exact hd
  | call f args =>
    rw [ha] at hd h'
    simp only [HAct.does] at hd ⊢
    rw [ev_congr fun t ht => h' t (List.mem_append_left _ ht), evs_congr fun t ht => h' t (List.mem_append_right _ ht)] at hd
    exact hd
  | next x =>
    rw [ha] at hd h'
    simp only [HAct.does] at hd ⊢
    rw [ev_congr fun t ht => h' t ht] at hd
    exact hd
  | inv tab r args =>
    rw [ha] at hd h'
    simp only [HAct.does] at hd ⊢
    rw [ev_congr fun t ht => h' t (List.mem_append_left _ ht), evs_congr fun t ht => h' t (List.mem_append_right _ ht)] at hd
    exact hd

theorem wantH_congr {o : HOper} {fr fr' : List HV} (h : ∀ t ∈ readsOf o, fr[t]? = fr'[t]?) : wantH o.guard fr = wantH o.guard fr' := by
  unfold wantH
  cases hg : o.guard with
  | none => rfl
  | some p =>
    obtain ⟨t, b⟩ := p
    simp only
    rw [h t (by simp [readsOf, hg])]

/-! ### one order -/
abbrev Pend := HOp × List HV × HV × Nat

/-- what looks at memory and may stand behind the loud one i must tell the same behind it. -/
def Holds (ps : List (List Nat)) (i : Nat) (hs : HS) : List Pend → Prop
  | [] => True
  | p :: r => ((ps.getD i []).contains p.2.2.2 = false → hop p.1 p.2.1 hs = some (p.2.2.1, hs)) ∧ Holds ps i hs r

theorem Holds.mem {ps : List (List Nat)} {i : Nat} {hs : HS} {p : Pend} : ∀ {l : List Pend}, Holds ps i hs l → p ∈ l → (ps.getD i []).contains p.2.2.2 = false → hop p.1 p.2.1 hs = some (p.2.2.1, hs)
  | [], _, h, _ => by simp at h
  | q :: r, h, hm, hc => by
    rcases List.mem_cons.1 hm with rfl | hm
    · exact h.1 hc
    · exact Holds.mem h.2 hm hc

def DR (P : Program) (hos : List HOper) (ps : List (List Nat)) : List Nat → List Pend → List HV → HS → (List HV → HS → Prop) → Prop
  | [], _, fr, hs, K => K fr hs
  | i :: r, pend, fr, hs, K =>
    match hos[i]? with
    | none => False
    | some o =>
      ∃ b, wantH o.guard fr = some b ∧
        if b then
          if o.loud then o.act.does P fr hs fun v hs' => Holds ps i hs' pend ∧ DR P hos ps r pend (put fr o.dst v) hs' K
          else match o.act with
            | .op q => ∃ v, hop q fr hs = some (v, hs) ∧ DR P hos ps r (if q.looks then (q, fr, v, i) :: pend else pend) (put fr o.dst v) hs K
            | _ => False
        else DR P hos ps r pend (put fr o.dst (.tup [])) hs K

/-! ### frames of some that have run -/
structure Agree (hos : List HOper) (fr0 : List HV) (S : Nat → Prop) (val : Nat → HV) (fr : List HV) : Prop where
  len : fr.length = fr0.length
  hit : ∀ (i : Nat) (o : HOper) (d : Nat), S i → hos[i]? = some o → o.dst = some d → d < fr0.length → fr[d]? = some (val i)
  miss : ∀ d : Nat, (∀ (i : Nat) (o : HOper), S i → hos[i]? = some o → o.dst ≠ some d) → fr[d]? = fr0[d]?

theorem put_length (fr : List HV) (dst : Option Nat) (v : HV) : (put fr dst v).length = fr.length := by
  cases dst <;> simp [put]

theorem Agree.put {hos : List HOper} {fr0 : List HV} {S S' : Nat → Prop} {val val' : Nat → HV} {fr : List HV} (A : Agree hos fr0 S val fr) {i : Nat} {o : HOper} (ho : hos[i]? = some o) (v : HV)
    (hS : ∀ k, S' k ↔ S k ∨ k = i) (hv : val' i = v) (hvo : ∀ k, S k → k ≠ i → val' k = val k) (hni : ¬ S i)
    (D : ∀ (k : Nat) (p : HOper) (d : Nat), k ≠ i → hos[k]? = some p → p.dst = some d → o.dst ≠ some d) : Agree hos fr0 S' val' (put fr o.dst v) := by
  refine ⟨by rw [put_length, A.len], ?_, ?_⟩
  · intro k p d hk hp hd hlt
    by_cases hki : k = i
    · subst hki
      rw [ho] at hp; cases hp
      rw [hd]
      simp [HL.put, hv, A.len, hlt]
    · have hSk := ((hS k).1 hk).resolve_right hki
      rw [hvo k hSk hki]
      have hne := D k p d hki hp hd
      have := A.hit k p d hSk hp hd hlt
      cases hdo : o.dst with
      | none => simpa [HL.put] using this
      | some d' =>
        rw [hdo] at hne
        simp only [HL.put]
        rw [List.getElem?_set_ne (fun e => hne (by rw [e]))]
        exact this
  · intro d hd
    have hdi := hd i o ((hS i).2 (.inr rfl)) ho
    have := A.miss d fun k p hk hp => hd k p ((hS k).2 (.inl hk)) hp
    cases hdo : o.dst with
    | none => simpa [HL.put] using this
    | some d' =>
      rw [hdo] at hdi
      simp only [HL.put]
      rw [List.getElem?_set_ne (fun e => hdi (by rw [e]))]
      exact this

theorem Agree.congr {hos : List HOper} {fr0 : List HV} {S : Nat → Prop} {val val' : Nat → HV} {fr : List HV} (A : Agree hos fr0 S val fr) (h : ∀ k, S k → val' k = val k) : Agree hos fr0 S val' fr :=
  ⟨A.len, fun i o d hi ho hd hlt => by rw [h i hi]; exact A.hit i o d hi ho hd hlt, A.miss⟩

/-- two frames tell an operation the same. -/
theorem Agree.reads {ops : List Oper} {hos : List HOper} {fr0 : List HV} {S S' : Nat → Prop} {val : Nat → HV} {fr fr' : List HV} (A : Agree hos fr0 S val fr) (A' : Agree hos fr0 S' val fr') {i : Nat} {o : HOper}
    (C : ∀ (k : Nat) (p : HOper) (d : Nat), k ≠ i → hos[k]? = some p → p.dst = some d → d ∈ readsOf o → Bef ops k i ∨ Bef ops i k)
    (h1 : ∀ k, Bef ops k i → S k ∧ S' k) (h2 : ∀ k, Bef ops i k → ¬ S k ∧ ¬ S' k) (hi : ¬ S i) (hi' : ¬ S' i) : ∀ t ∈ readsOf o, fr[t]? = fr'[t]? := by
  intro t ht
  by_cases h : ∃ k p, (S k ∨ S' k) ∧ hos[k]? = some p ∧ p.dst = some t
  · obtain ⟨k, p, hk, hp, hd⟩ := h
    have hki : k ≠ i := by rintro rfl; rcases hk with hk | hk <;> contradiction
    rcases C k p t hki hp hd ht with hb | hb
    · obtain ⟨k1, k2⟩ := h1 k hb
      by_cases hlt : t < fr0.length
      · rw [A.hit k p t k1 hp hd hlt, A'.hit k p t k2 hp hd hlt]
      · rw [List.getElem?_eq_none (by rw [A.len]; omega), List.getElem?_eq_none (by rw [A'.len]; omega)]
    · obtain ⟨k1, k2⟩ := h2 k hb
      rcases hk with hk | hk <;> contradiction
  · rw [A.miss t fun k p hk hp hd => h ⟨k, p, .inl hk, hp, hd⟩, A'.miss t fun k p hk hp hd => h ⟨k, p, .inr hk, hp, hd⟩]

/-! ### what the check of the orders says -/
structure Orders (ops : List Oper) (hos : List HOper) (ord : List Nat) : Prop where
  low : ∀ (i : Nat) (o : Oper) (k : Nat), ops[i]? = some o → k ∈ edgesOf o → k < i
  all : ∀ i, i < ops.length → i ∈ ord
  lt : ∀ i ∈ ord, i < ops.length
  nodup : ord.Nodup
  lin : ∀ pre i post, ord = pre ++ i :: post → ∀ k, Bef ops k i → k ∈ pre
  wait : ∀ pre l mid i post, ord = pre ++ l :: mid ++ i :: post → (∃ o, hos[l]? = some o ∧ o.loud = true) → Bef ops l i
  one : ∀ (i k : Nat) (o p : HOper) (d : Nat), k ≠ i → hos[i]? = some o → hos[k]? = some p → p.dst = some d → o.dst ≠ some d
  conf : ∀ (i k : Nat) (o p : HOper) (d : Nat), k ≠ i → hos[i]? = some o → hos[k]? = some p → p.dst = some d → d ∈ readsOf o → Bef ops k i ∨ Bef ops i k

theorem extends_sound (es : List (List Nat)) : ∀ (r seen : List Nat), seen.Nodup → extends_ es seen r = true → (seen ++ r).Nodup ∧ ∀ pre i post, r = pre ++ i :: post → ∀ k ∈ es.getD i [], k ∈ seen ++ pre
  | [], seen, hn, _ => ⟨by simpa using hn, fun pre i post h => by simp at h⟩
  | j :: r, seen, hn, h => by
    simp only [extends_, Bool.and_eq_true] at h
    obtain ⟨⟨h1, h2⟩, h3⟩ := h
    have h2' : j ∉ seen := by simpa using h2
    have hn' : (seen ++ [j]).Nodup := by
      rw [List.nodup_append]
      exact ⟨hn, by simp, fun a ha b hb => by simp at hb; subst hb; rintro rfl; exact h2' ha⟩
    obtain ⟨g1, g2⟩ := extends_sound es r (seen ++ [j]) hn' h3
    refine ⟨by simpa using g1, ?_⟩
    intro pre i post hp k hk
    cases pre with
    | nil =>
      simp at hp; obtain ⟨rfl, rfl⟩ := hp
      have := List.all_eq_true.1 h1 k hk
      simpa using this
    | cons x pre =>
      simp at hp; obtain ⟨rfl, rfl⟩ := hp
      have := g2 pre i post rfl k hk
      simpa using this

/-- behind a loud one all wait, the near and the far. -/
theorem waits_far (ps : List (List Nat)) (loud : List Bool) : ∀ (r : List Nat) (last : Option Nat), waits ps loud last r = true → ∀ (B : Nat → Nat → Prop), (∀ i k, k ∈ ps.getD i [] → B k i) → (∀ a b c, B a b → B b c → B a c) →
    (∀ l, last = some l → ∀ i ∈ r, B l i) ∧ ∀ pre l mid i post, r = pre ++ l :: mid ++ i :: post → loud.getD l false = true → B l i
  | [], last, _, B, _, _ => ⟨fun l _ i h => by simp at h, fun pre l mid i post h => by simp at h⟩
  | j :: r, last, h, B, hB, tB => by
    simp only [waits, Bool.and_eq_true] at h
    obtain ⟨h1, h2⟩ := h
    obtain ⟨g1, g2⟩ := waits_far ps loud r _ h2 B hB tB
    refine ⟨?_, ?_⟩
    · rintro l rfl i hi
      have hlj : B l j := hB j l (by simpa using h1)
      rcases List.mem_cons.1 hi with rfl | hi
      · exact hlj
      · by_cases hj : loud.getD j false = true
        · exact tB l j i hlj (g1 j (by rw [if_pos hj]) i hi)
        · exact g1 l (by rw [if_neg hj]) i hi
    · intro pre l mid i post hp hl
      cases pre with
      | nil =>
        simp at hp; obtain ⟨rfl, rfl⟩ := hp
        exact g1 j (by rw [if_pos hl]) i (by simp)
      | cons x pre =>
        simp at hp; obtain ⟨rfl, rfl⟩ := hp
        exact g2 pre l mid i post (by simp) hl

theorem orderOk_sound {ops : List Oper} {hos : List HOper} {ord : List Nat} (h : orderOk ops hos ord = true) : Orders ops hos ord := by
  unfold orderOk at h
  simp only [Bool.and_eq_true] at h
  obtain ⟨⟨⟨⟨⟨⟨h1, h2⟩, h3⟩, h4⟩, h5⟩, h6⟩, h7⟩ := h
  have psOk : ∀ i k, k ∈ (predsGo ops []).getD i [] → Bef ops k i := predsGo_sound ops ops [] ⟨[], rfl, rfl⟩ (fun i k hk => by simp at hk)
  have hes : ∀ (i : Nat) (o : Oper), ops[i]? = some o → (ops.map edgesOf).getD i [] = edgesOf o := by
    intro i o ho; simp [List.getD_eq_getElem?_getD, ho]
  have low : ∀ (i : Nat) (o : Oper) (k : Nat), ops[i]? = some o → k ∈ edgesOf o → k < i := by
    intro i o k ho hk
    have hm : (edgesOf o, i) ∈ (ops.map edgesOf).zipIdx := by
      rw [List.mem_zipIdx_iff_getElem?]
      simp [ho]
    have := List.all_eq_true.1 h1 _ hm
    have := List.all_eq_true.1 this k hk
    simpa using this
  obtain ⟨nd, ext⟩ := extends_sound (ops.map edgesOf) ord [] (by simp) h5
  simp only [List.nil_append] at nd ext
  have hlt : ∀ i ∈ ord, i < ops.length := fun i hi => by simpa using List.all_eq_true.1 h4 i hi
  have lin : ∀ k i, Bef ops k i → ∀ pre post, ord = pre ++ i :: post → k ∈ pre := by
    intro k i hb
    induction hb with
    | edge o ho hk =>
      intro pre post hp
      exact ext pre _ post hp _ (by rw [hes _ o ho]; exact hk)
    | @trans a b c _ _ ih1 ih2 =>
      intro pre post hp
      have hj := ih2 pre post hp
      obtain ⟨p1, p2, rfl⟩ := List.append_of_mem hj
      have := ih1 p1 (p2 ++ c :: post) (by rw [hp]; simp)
      exact List.mem_append_left _ this
  have C : ∀ (i k : Nat) (o p : HOper) (d : Nat), k ≠ i → hos[i]? = some o → hos[k]? = some p → p.dst = some d → o.dst ≠ some d ∧ (d ∈ readsOf o → Bef ops k i ∨ Bef ops i k) := by
    intro i k o p d hki ho hp hd
    have hi := lt_of_get ho
    have hk := lt_of_get hp
    have := List.all_eq_true.1 (List.all_eq_true.1 h7 i (by simpa using hi)) k (by simpa using hk)
    simp only [ho, hp, hd] at this
    have hne : (i == k) = false := by simpa using fun e : i = k => hki e.symm
    simp only [hne, Bool.false_or, Bool.and_eq_true, Bool.or_eq_true] at this
    refine ⟨by simpa using this.1, fun hdr => ?_⟩
    rcases this.2 with (hq | hq) | hq
    · simp [hdr] at hq
    · exact .inl (psOk i k (by simpa using hq))
    · exact .inr (psOk k i (by simpa using hq))
  refine ⟨low, fun i hi => ?_, hlt, nd, fun pre i post hp k hb => lin k i hb pre post hp, ?_, fun i k o p d a b c e => (C i k o p d a b c e).1, fun i k o p d a b c e => (C i k o p d a b c e).2⟩
  · have := List.all_eq_true.1 h3 i (by simpa using hi)
    simpa using this
  · rintro pre l mid i post hp ⟨o, ho, hlo⟩
    exact (waits_far (predsGo ops []) (hos.map HOper.loud) ord none h6 (Bef ops) psOk (fun a b c => .trans)).2 pre l mid i post hp (by simp [List.getD_eq_getElem?_getD, ho, hlo])

/-! ### where a run in any order stands -/
section
variable {P : Program}

def Lst (listed : Array Bool) (i : Nat) : Prop := listed[i]? = some true

structure Inv0 (P : Program) (ds : List Deferred) (rops : Array Oper) (hos : List HOper) (ps : List (List Nat)) (ord : List Nat) (fr0 : List HV) (β0 : List Ent) (hs0 : HS) (w0 : World) (K : List HV → HS → Prop) (listed : Array Bool) (a : Act) (w : World)
    (pre rest : List Nat) (pend : List Pend) (val : Nat → HV) (cf : Nat → List HV) (frc fr : List HV) (hs : HS) (β : List Ent) : Prop where
  ord : ord = pre ++ rest
  sub : ∀ i, Lst listed i → i ∈ pre
  closed : ∀ (i : Nat) (o : Oper) (k : Nat), Lst listed i → rops.toList[i]? = some o → k ∈ edgesOf o → Lst listed k
  agc : Agree hos fr0 (· ∈ pre) val frc
  ag : Agree hos fr0 (Lst listed) val fr
  cfs : ∀ i ∈ pre, ∃ pre1 post, pre = pre1 ++ i :: post ∧ Agree hos fr0 (· ∈ pre1) val (cf i)
  left : ∀ i ∈ pre, ¬ Lst listed i → ∃ o, hos[i]? = some o ∧ ((wantH o.guard (cf i) = some false ∧ val i = .tup []) ∨
    (wantH o.guard (cf i) = some true ∧ ∃ q, o.act = .op q ∧ q.loud = false ∧ hop q (cf i) hs = some (val i, hs) ∧ (q.looks = true → (q, cf i, val i, i) ∈ pend)))
  dr : DR P hos ps rest pend frc hs K
  fr : FrRel ds β fr a
  st : Step β0 hs0 w0 β hs w

/-- the one order stands ahead of a loud one, or at its end. -/
def AtLoud (hos : List HOper) (rest : List Nat) (frc : List HV) : Prop :=
  rest = [] ∨ ∃ l r o, rest = l :: r ∧ hos[l]? = some o ∧ o.loud = true ∧ wantH o.guard frc = some true

variable {rops : Array Oper} {hos : List HOper} {ps : List (List Nat)} {ord : List Nat} {fr0 : List HV} {β0 : List Ent} {hs0 : HS} {w0 : World} {K : List HV → HS → Prop} {listed : Array Bool} {a : Act} {w : World}

theorem Inv0.advance (O : Orders rops.toList hos ord) : ∀ (rest pre : List Nat) (pend : List Pend) (val : Nat → HV) (cf : Nat → List HV) (frc fr : List HV) (hs : HS) (β : List Ent),
    Inv0 P ds rops hos ps ord fr0 β0 hs0 w0 K listed a w pre rest pend val cf frc fr hs β →
    ∃ pre' rest' pend' val' cf' frc', Inv0 P ds rops hos ps ord fr0 β0 hs0 w0 K listed a w pre' rest' pend' val' cf' frc' fr hs β ∧ AtLoud hos rest' frc'
  | [], pre, pend, val, cf, frc, fr, hs, β, I => ⟨pre, [], pend, val, cf, frc, I, .inl rfl⟩
  | i :: r, pre, pend, val, cf, frc, fr, hs, β, I => by
    have hdr := I.dr
    simp only [DR] at hdr
    split at hdr
    · exact hdr.elim
    · rename_i o ho
      obtain ⟨b, hb, hdr⟩ := hdr
      have hnd : (pre ++ i :: r).Nodup := by rw [← I.ord]; exact O.nodup
      have hni : i ∉ pre := fun hi => by
        rw [List.nodup_append] at hnd
        exact hnd.2.2 i hi i (by simp) rfl
      have hnl : ¬ Lst listed i := fun h => hni (I.sub i h)
      -- one step of the one order
      have pass : ∀ (v : HV) (pend' : List Pend), (∀ p ∈ pend, p ∈ pend') →
          ((wantH o.guard frc = some false ∧ v = .tup []) ∨ (wantH o.guard frc = some true ∧ ∃ q, o.act = .op q ∧ q.loud = false ∧ hop q frc hs = some (v, hs) ∧ (q.looks = true → (q, frc, v, i) ∈ pend'))) →
          DR P hos ps r pend' (put frc o.dst v) hs K →
          ∃ pre' rest' pend' val' cf' frc', Inv0 P ds rops hos ps ord fr0 β0 hs0 w0 K listed a w pre' rest' pend' val' cf' frc' fr hs β ∧ AtLoud hos rest' frc' := by
        intro v pend' hpp hv hd
        have hne : ∀ k, k ∈ pre → k ≠ i := fun k hk e => hni (e ▸ hk)
        refine Inv0.advance O r (pre ++ [i]) pend' (fun k => if k = i then v else val k) (fun k => if k = i then frc else cf k) (put frc o.dst v) fr hs β ?_
        refine ⟨by rw [I.ord]; simp, fun k hk => List.mem_append_left _ (I.sub k hk), I.closed, ?_, ?_, ?_, ?_, hd, I.fr, I.st⟩
        · exact I.agc.put ho v (fun k => by simp) (by simp) (fun k hk hki => by simp [hki]) hni (fun k p d hki hp hd => O.one i k o p d hki ho hp hd)
        · refine I.ag.congr fun k hk => ?_
          rw [if_neg (hne k (I.sub k hk))]
        · intro k hk
          rcases List.mem_append.1 hk with hk | hk
          · obtain ⟨p1, p2, h1, h2⟩ := I.cfs k hk
            refine ⟨p1, p2 ++ [i], by rw [h1]; simp, ?_⟩
            rw [if_neg (hne k hk)]
            refine h2.congr fun j hj => ?_
            rw [if_neg (hne j (by rw [h1]; exact List.mem_append_left _ hj))]
          · simp at hk; subst hk
            refine ⟨pre, [], rfl, ?_⟩
            simp only [if_true]
            refine I.agc.congr fun j hj => ?_
            rw [if_neg (hne j hj)]
        · intro k hk hkl
          rcases List.mem_append.1 hk with hk | hk
          · obtain ⟨o', h1, h2⟩ := I.left k hk hkl
            refine ⟨o', h1, ?_⟩
            simp only [if_neg (hne k hk)]
            rcases h2 with h2 | ⟨h2, q, h3, h4, h5, h6⟩
            · exact .inl h2
            · exact .inr ⟨h2, q, h3, h4, h5, fun hq => hpp _ (h6 hq)⟩
          · simp at hk; subst hk
            refine ⟨o, ho, ?_⟩
            simp only [if_true]
            exact hv
      cases b with
      | false =>
        simp only [Bool.false_eq_true, if_false] at hdr
        exact pass (.tup []) pend (fun p h => h) (.inl ⟨hb, rfl⟩) hdr
      | true =>
        simp only [if_true] at hdr
        split at hdr
        · rename_i hlo
          exact ⟨pre, i :: r, pend, val, cf, frc, I, .inr ⟨i, r, o, rfl, ho, hlo, hb⟩⟩
        · rename_i hlo
          split at hdr
          · rename_i q hq
            obtain ⟨v, h1, h2⟩ := hdr
            have hql : q.loud = false := by simpa [HOper.loud, hq] using hlo
            refine pass v _ (fun p h => ?_) (.inr ⟨hb, q, hq, hql, h1, fun hk => ?_⟩) h2
            · split
              · exact List.mem_cons_of_mem _ h
              · exact h
            · rw [if_pos hk]; exact List.mem_cons_self ..
          · exact hdr.elim


theorem Lst_bef {ops : List Oper} (hcl : ∀ (i : Nat) (o : Oper) (k : Nat), Lst listed i → ops[i]? = some o → k ∈ edgesOf o → Lst listed k) : ∀ {k i : Nat}, Bef ops k i → Lst listed i → Lst listed k := by
  intro k i h
  induction h with
  | edge o ho hk => exact fun hi => hcl _ o _ hi ho hk
  | trans _ _ ih1 ih2 => exact fun hi => ih1 (ih2 hi)

theorem ready_bef {ops : List Oper} (hcl : ∀ (i : Nat) (o : Oper) (k : Nat), Lst listed i → ops[i]? = some o → k ∈ edgesOf o → Lst listed k) {i : Nat} {o : Oper} (ho : ops[i]? = some o) (hr : ∀ k ∈ edgesOf o, Lst listed k) : ∀ {k : Nat}, Bef ops k i → Lst listed k := by
  intro k h
  induction h with
  | edge o' ho' hk => rw [ho] at ho'; cases ho'; exact hr _ hk
  | trans h1 _ _ ih2 => exact Lst_bef hcl h1 (ih2 ho)

theorem getD_false {k : Nat} : listed.getD k false = true ↔ Lst listed k := by
  unfold Lst
  rw [Array.getD_eq_getD_getElem?]
  cases h : listed[k]? with
  | none => simp
  | some b => simp

theorem ready_iff {i : Nat} : i ∈ Region.ready .any rops listed ↔ i < rops.size ∧ listed[i]? = some false ∧ ∃ o, rops[i]? = some o ∧ ∀ k ∈ edgesOf o, Lst listed k := by
  unfold Region.ready
  simp only [List.mem_filter, List.mem_range, Bool.and_eq_true, Bool.not_eq_true']
  constructor
  · rintro ⟨h1, h2, h3⟩
    refine ⟨h1, ?_, ?_⟩
    · rw [Array.getD_eq_getD_getElem?] at h2
      cases hq : listed[i]? with
      | none => rw [hq] at h2; simp at h2
      | some b => rw [hq] at h2; simp at h2; rw [h2]
    · have ho : rops[i]? = some rops[i] := by simp [h1]
      refine ⟨_, ho, fun k hk => ?_⟩
      rw [ho] at h3
      simp only [Option.map_some, Option.getD_some] at h3
      simp only [edgesOf, List.mem_map, List.mem_filter] at hk
      obtain ⟨e, ⟨he, hb⟩, rfl⟩ := hk
      rw [Array.all_eq_true'] at h3
      have := h3 e (by simpa using he)
      rw [hb] at this
      simp only [Bool.not_true, Bool.false_or] at this
      exact getD_false.1 this
  · rintro ⟨h1, h2, o, h3, h4⟩
    refine ⟨h1, by rw [Array.getD_eq_getD_getElem?, h2]; rfl, ?_⟩
    rw [h3]
    simp only [Option.map_some, Option.getD_some]
    rw [Array.all_eq_true']
    intro e he
    cases hb : Region.binds .any e with
    | false => simp
    | true =>
      simp only [Bool.not_true, Bool.false_or]
      refine getD_false.2 (h4 e.on ?_)
      simp only [edgesOf, List.mem_map, List.mem_filter]
      exact ⟨e, ⟨by simpa using he, hb⟩, rfl⟩

theorem cOpers_get {ops : Array Oper} : ∀ {l : List Oper} {hos : List HOper}, cOpers P ops l = some hos → hos.length = l.length ∧ ∀ (i : Nat) (o : Oper), l[i]? = some o → ∃ ho, hos[i]? = some ho ∧ cOper P ops o = some ho
  | [], hos, h => by simp [cOpers] at h; subst h; exact ⟨rfl, fun i o h => by simp at h⟩
  | o :: l, hos, h => by
    unfold cOpers at h
    split at h
    · rename_i ho r h1 h2
      simp at h; subst h
      obtain ⟨g1, g2⟩ := cOpers_get h2
      refine ⟨by simp [g1], fun i o' hi => ?_⟩
      cases i with
      | zero => simp at hi; subst hi; exact ⟨ho, by simp, h1⟩
      | succ i => simpa using g2 i o' (by simpa using hi)
    · simp at h

theorem Inv0.next_ag (O : Orders rops.toList hos ord) {fr : List HV} {val val' : Nat → HV} {i : Nat} {o : HOper} {v : HV} (ag : Agree hos fr0 (Lst listed) val fr) (ho : hos[i]? = some o) (hi : listed[i]? = some false) (hv : val' i = v) (hvo : ∀ k, Lst listed k → k ≠ i → val' k = val k) :
    Agree hos fr0 (Lst (listed.setIfInBounds i true)) val' (put fr o.dst v) := by
  have hlt := lt_of_geta hi
  refine ag.put ho v (fun k => ?_) hv hvo (by simp [Lst, hi]) (fun k p d hki hp hd => O.one i k o p d hki ho hp hd)
  unfold Lst
  rw [Array.getElem?_setIfInBounds]
  by_cases hk : i = k
  · subst hk; simp [hlt]
  · simp [hk]; intro e; exact absurd e.symm hk

theorem Lst_set {i k : Nat} (h : Lst (listed.setIfInBounds i true) k) : Lst listed k ∨ k = i := by
  unfold Lst at h
  rw [Array.getElem?_setIfInBounds] at h
  split at h
  · rename_i e; exact .inr e.symm
  · exact .inl h

theorem Lst_mono {i k : Nat} (h : Lst listed k) : Lst (listed.setIfInBounds i true) k := by
  unfold Lst at h ⊢
  rw [Array.getElem?_setIfInBounds]
  split
  · rename_i e; subst e
    have := lt_of_geta h
    simp [this]
  · exact h

theorem draw_any {ro : Option Nat} (O : Orders rops.toList hos ord) (hc : cOpers P rops rops.toList = some hos) (hps : ∀ i k, k ∈ ps.getD i [] → Bef rops.toList k i) {Q : Exit → Act → World → Prop}
    (hQ : ∀ β' w' a' fr' hs', K fr' hs' → Step β0 hs0 w0 β' hs' w' → FrRel ds β' fr' a' → Q .normal a' w') :
    ∀ (fuel : Nat) (listed : Array Bool) (a : Act) (w : World) (pre rest : List Nat) (pend : List Pend) (val : Nat → HV) (cf : Nat → List HV) (frc fr : List HV) (hs : HS) (β : List Ent),
      listed.size = rops.size → (∃ l : List Nat, l.length ≤ fuel ∧ ∀ i, i < rops.size → ¬ Lst listed i → i ∈ l) →
      Inv0 P ds rops hos ps ord fr0 β0 hs0 w0 K listed a w pre rest pend val cf frc fr hs β → AtLoud hos rest frc → wpAnyIn (FR ro) 0 P .any rops Q fuel listed a w := by
  intro fuel
  have fin : ∀ (listed : Array Bool) (a : Act) (w : World) (pre rest : List Nat) (pend : List Pend) (val : Nat → HV) (cf : Nat → List HV) (frc fr : List HV) (hs : HS) (β : List Ent), listed.size = rops.size →
      Inv0 P ds rops hos ps ord fr0 β0 hs0 w0 K listed a w pre rest pend val cf frc fr hs β → AtLoud hos rest frc → Region.ready .any rops listed = [] → Q .normal a w := by
    intro listed a w pre rest pend val cf frc fr hs β hsz I hat hr
    have hall : ∀ n i, i < n → i < rops.size → Lst listed i := by
      intro n
      induction n with
      | zero => intro i h; omega
      | succ n ih =>
        intro i hi his
        by_cases hn : i < n
        · exact ih i hn his
        · by_cases hl : Lst listed i
          · exact hl
          · exfalso
            have hf : listed[i]? = some false := by
              have : i < listed.size := by omega
              unfold Lst at hl
              rw [Array.getElem?_eq_getElem this] at hl ⊢
              cases hb : listed[i] <;> simp_all
            have ho : rops[i]? = some rops[i] := by simp [his]
            have : i ∈ Region.ready .any rops listed := ready_iff.2 ⟨his, hf, _, ho, fun k hk => by
              have := O.low i _ k (by simp) hk
              exact ih k (by omega) (by omega)⟩
            rw [hr] at this; simp at this
    have hrest : rest = [] := by
      rcases hat with h | ⟨l, r, o, rfl, _⟩
      · exact h
      · exfalso
        have hlo : l ∈ ord := by rw [I.ord]; simp
        have hl := hall _ l (Nat.lt_succ_self l) (by simpa using O.lt l hlo)
        have hp := I.sub l hl
        have hnd := O.nodup
        rw [I.ord, List.nodup_append] at hnd
        exact hnd.2.2 l hp l (by simp) rfl
    subst hrest
    have hK : K frc hs := I.dr
    have hord : ord = pre := by rw [I.ord]; simp
    have heq : fr = frc := by
      apply List.ext_getElem?
      intro d
      by_cases hd : ∃ i o, i ∈ pre ∧ hos[i]? = some o ∧ o.dst = some d
      · obtain ⟨i, o, hi, ho, hdo⟩ := hd
        have hl := hall _ i (Nat.lt_succ_self i) (by simpa using O.lt i (by rw [hord]; exact hi))
        by_cases hlt : d < fr0.length
        · rw [I.ag.hit i o d hl ho hdo hlt, I.agc.hit i o d hi ho hdo hlt]
        · rw [List.getElem?_eq_none (by rw [I.ag.len]; omega), List.getElem?_eq_none (by rw [I.agc.len]; omega)]
      · rw [I.ag.miss d fun i o hi ho hdo => hd ⟨i, o, I.sub i hi, ho, hdo⟩, I.agc.miss d fun i o hi ho hdo => hd ⟨i, o, hi, ho, hdo⟩]
    subst heq
    exact hQ β w a fr hs hK I.st I.fr
  induction fuel with
  | zero =>
    rintro listed a w pre rest pend val cf frc fr hs β hsz ⟨l, hl, hcov⟩ I hat
    have hl0 : l = [] := List.eq_nil_of_length_eq_zero (by omega)
    subst hl0
    have hr : Region.ready .any rops listed = [] := by
      apply List.eq_nil_iff_forall_not_mem.2
      intro i hi
      obtain ⟨h1, h2, _⟩ := ready_iff.1 hi
      have := hcov i h1 (by simp [Lst, h2])
      simp at this
    exact ⟨hr, fin listed a w pre rest pend val cf frc fr hs β hsz I hat hr⟩
  | succ fuel ih =>
    rintro listed a w pre rest pend val cf frc fr hs β hsz ⟨cov, hcl, hcov⟩ I hat
    refine ⟨fin listed a w pre rest pend val cf frc fr hs β hsz I hat, ?_⟩
    intro i hi
    obtain ⟨his, hif, o, ho, hedges⟩ := ready_iff.1 hi
    have hol : rops.toList[i]? = some o := by simpa using ho
    obtain ⟨hoo, hho, hco⟩ := (cOpers_get hc).2 i o hol
    have hnl : ¬ Lst listed i := by simp [Lst, hif]
    have hcov' : ∃ l : List Nat, l.length ≤ fuel ∧ ∀ k, k < rops.size → ¬ Lst (listed.setIfInBounds i true) k → k ∈ l := by
      refine ⟨cov.erase i, ?_, fun k hk hkl => ?_⟩
      · have := List.length_erase_of_mem (hcov i his hnl)
        omega
      · have h1 : ¬ Lst listed k := fun h => hkl (Lst_mono h)
        have h2 : k ≠ i := by
          rintro rfl
          apply hkl
          unfold Lst
          simp [show k < listed.size by omega]
        exact (List.mem_erase_of_ne h2).2 (hcov k hk h1)
    have hsz' : (listed.setIfInBounds i true).size = rops.size := by simpa using hsz
    have hclosed' : ∀ (j : Nat) (o' : Oper) (k : Nat), Lst (listed.setIfInBounds i true) j → rops.toList[j]? = some o' → k ∈ edgesOf o' → Lst (listed.setIfInBounds i true) k := by
      intro j o' k hj ho' hk
      rcases Lst_set hj with hj | rfl
      · exact Lst_mono (I.closed j o' k hj ho' hk)
      · rw [hol] at ho'; cases ho'
        exact Lst_mono (hedges k hk)
    have hbef : ∀ {k}, Bef rops.toList k i → Lst listed k := fun h => ready_bef I.closed hol hedges h
    have hC := fun (k : Nat) (p : HOper) (d : Nat) (a1 : k ≠ i) (a2 : hos[k]? = some p) (a3 : p.dst = some d) (a4 : d ∈ readsOf hoo) => O.conf i k hoo p d a1 hho a2 a3 a4
    unfold cOper at hco
    split at hco
    · rename_i act g hact hg
      simp at hco; subst hco
      unfold wpOpIn
      simp only [ho]
      by_cases hip : i ∈ pre
      · -- a quiet one that the one order has passed
        obtain ⟨p1, post, hpre, hag1⟩ := I.cfs i hip
        have hordi : ord = p1 ++ i :: (post ++ rest) := by rw [I.ord, hpre]; simp
        have hnd := O.nodup
        rw [hordi] at hnd
        have hnp1 : i ∉ p1 := fun h => by
          rw [List.nodup_append] at hnd
          exact hnd.2.2 i h i (by simp) rfl
        have hreads := Agree.reads (ops := rops.toList) I.ag hag1 (o := ⟨o.dst, act, g⟩) hC
          (fun k hb => ⟨hbef hb, O.lin p1 i _ hordi k hb⟩)
          (fun k hb => ⟨fun hk => hnl (Lst_bef I.closed hb hk), fun hk => by
            obtain ⟨x, y, rfl⟩ := List.append_of_mem hk
            have := O.lin x k (y ++ i :: (post ++ rest)) (by rw [hordi]; simp) i hb
            exact hnp1 (List.mem_append_left _ this)⟩) hnl hnp1
        have hcongr := wantH_congr hreads
        obtain ⟨o', ho', hleft⟩ := I.left i hip hnl
        rw [hho] at ho'; cases ho'
        rcases hleft with ⟨hw, hv⟩ | ⟨hw, q, hq, hql, hqh, _⟩
        · simp only at hw hcongr
          rw [wantH_sound I.fr hg (hcongr.trans hw)]
          simp only [Bool.false_eq_true, if_false]
          refine ⟨fun _ _ => trivial, ?_⟩
          refine ih _ _ _ pre rest pend val cf frc (put fr o.dst (.tup [])) hs β hsz' hcov' ?_ hat
          refine ⟨I.ord, fun k hk => ?_, hclosed', I.agc, ?_, I.cfs, fun k hk hkl => I.left k hk fun h => hkl (Lst_mono h), I.dr, I.fr.put o.dst (v := .tup []) (u := undef) rel_tup0, I.st⟩
          · rcases Lst_set hk with hk | rfl
            · exact I.sub k hk
            · exact hip
          · exact Inv0.next_ag O (o := ⟨o.dst, act, g⟩) I.ag hho hif hv fun _ _ _ => rfl
        · simp only at hw hcongr hq
          subst hq
          rw [wantH_sound I.fr hg (hcongr.trans hw)]
          simp only [if_true]
          have hcon : hop q fr hs = some (val i, hs) := by
            rw [← hqh]
            exact hop_congr fun t ht => hreads t (by simp [readsOf, ht])
          refine does_sound I.st.emb I.fr hact (K := fun v hs' => v = val i ∧ hs' = hs) ⟨val i, hs, hcon, rfl, rfl⟩ ?_
          rintro v hs' β' w' a' ⟨rfl, rfl⟩ S F
          refine ih _ _ _ pre rest pend val cf frc (put fr o.dst (val i)) hs' β' hsz' hcov' ?_ hat
          refine ⟨I.ord, fun k hk => ?_, hclosed', I.agc, ?_, I.cfs, fun k hk hkl => I.left k hk fun h => hkl (Lst_mono h), I.dr, F, I.st.trans S⟩
          · rcases Lst_set hk with hk | rfl
            · exact I.sub k hk
            · exact hip
          · exact Inv0.next_ag O (o := ⟨o.dst, .op q, g⟩) I.ag hho hif rfl fun _ _ _ => rfl
      · -- the loud one that the one order stands at
        have hiord : i ∈ ord := O.all i (by simpa using his)
        have hirest : i ∈ rest := by
          rw [I.ord] at hiord
          exact (List.mem_append.1 hiord).resolve_left hip
        rcases hat with rfl | ⟨l, r, ol, rfl, hol2, hlo, hwl⟩
        · simp at hirest
        have hnd := O.nodup
        rw [I.ord] at hnd
        have hlp : l ∉ pre := fun h => by
          rw [List.nodup_append] at hnd
          exact hnd.2.2 l h l (by simp) rfl
        have hil : i = l := by
          rcases List.mem_cons.1 hirest with h | h
          · exact h
          · exfalso
            obtain ⟨x, y, rfl⟩ := List.append_of_mem h
            have := O.wait pre l x i y (by rw [I.ord]; simp) ⟨ol, hol2, hlo⟩
            exact hlp (I.sub l (hbef this))
        subst hil
        rw [hho] at hol2; cases hol2
        have hdr := I.dr
        simp only [DR, hho] at hdr
        obtain ⟨b, hb, hdr⟩ := hdr
        simp only at hwl
        rw [hwl] at hb; cases hb
        simp only [if_true, hlo] at hdr
        have hreads := Agree.reads (ops := rops.toList) I.agc I.ag (o := ⟨o.dst, act, g⟩) hC
          (fun k hb => ⟨O.lin pre i r I.ord k hb, hbef hb⟩)
          (fun k hb => ⟨fun hk => by
            obtain ⟨x, y, rfl⟩ := List.append_of_mem hk
            have := O.lin x k (y ++ i :: r) (by rw [I.ord]; simp) i hb
            exact hip (List.mem_append_left _ this), fun hk => hnl (Lst_bef I.closed hb hk)⟩) hip hnl
        have hcongr := wantH_congr hreads
        simp only at hcongr
        rw [wantH_sound I.fr hg (hcongr.symm.trans hwl)]
        simp only [if_true]
        refine does_sound I.st.emb I.fr hact (does_congr hreads hdr) ?_
        rintro v hs' β' w' a' ⟨hH, hD⟩ S F
        have hne : ∀ k, k ∈ pre → k ≠ i := fun k hk e => hip (e ▸ hk)
        have I' : Inv0 P ds rops hos ps ord fr0 β0 hs0 w0 K (listed.setIfInBounds i true) a' w' (pre ++ [i]) r pend (fun k => if k = i then v else val k) (fun k => if k = i then frc else cf k) (put frc o.dst v) (put fr o.dst v) hs' β' := by
          refine ⟨by rw [I.ord]; simp, fun k hk => ?_, hclosed', ?_, ?_, ?_, ?_, hD, F, I.st.trans S⟩
          · rcases Lst_set hk with hk | rfl
            · exact List.mem_append_left _ (I.sub k hk)
            · simp
          · exact I.agc.put (o := ⟨o.dst, act, g⟩) hho v (fun k => by simp) (by simp) (fun k hk hki => by simp [hki]) hip (fun k p d hki hp hd => O.one i k _ p d hki hho hp hd)
          · exact Inv0.next_ag O (o := ⟨o.dst, act, g⟩) I.ag hho hif (by simp) fun k hk hki => by simp [hki]
          · intro k hk
            rcases List.mem_append.1 hk with hk | hk
            · obtain ⟨q1, q2, h1, h2⟩ := I.cfs k hk
              refine ⟨q1, q2 ++ [i], by rw [h1]; simp, ?_⟩
              rw [if_neg (hne k hk)]
              refine h2.congr fun j hj => ?_
              rw [if_neg (hne j (by rw [h1]; exact List.mem_append_left _ hj))]
            · simp at hk; subst hk
              refine ⟨pre, [], rfl, ?_⟩
              simp only [if_true]
              refine I.agc.congr fun j hj => ?_
              rw [if_neg (hne j hj)]
          · intro k hk hkl
            rcases List.mem_append.1 hk with hk | hk
            · have hkl0 : ¬ Lst listed k := fun h => hkl (Lst_mono h)
              obtain ⟨o', h1, h2⟩ := I.left k hk hkl0
              refine ⟨o', h1, ?_⟩
              simp only [if_neg (hne k hk)]
              rcases h2 with h2 | ⟨h2, q, h3, h4, h5, h6⟩
              · exact .inl h2
              · refine .inr ⟨h2, q, h3, h4, ?_, h6⟩
                cases hlk : q.looks with
                | false => exact hop_pure h4 hlk h5 hs'
                | true =>
                  refine hH.mem (h6 hlk) ?_
                  simp only
                  cases hcon : (ps.getD i []).contains k with
                  | false => rfl
                  | true => exact absurd (hbef (hps i k (by simpa using hcon))) hkl0
            · simp at hk; subst hk
              exfalso
              apply hkl
              unfold Lst
              simp [show k < listed.size by omega]
        obtain ⟨pre', rest', pend', val', cf', frc', I'', hat'⟩ := I'.advance O
        exact ih _ _ _ pre' rest' pend' val' cf' frc' _ hs' β' hsz' hcov' I'' hat'
    · simp at hco

theorem predsOf_sound (ops : List Oper) (hos : List HOper) : ∀ i k, k ∈ (predsOf ops hos).getD i [] → Bef ops k i := by
  intro i k hk
  refine predsGo_sound ops ops [] ⟨[], rfl, rfl⟩ (fun i k hk => by simp at hk) i k ?_
  unfold predsOf at hk
  rw [List.getD_eq_getElem?_getD] at hk ⊢
  simp only [List.getElem?_map, List.getElem?_zipIdx] at hk
  cases hp : (predsGo ops [])[i]? with
  | none => rw [hp] at hk; simp at hk
  | some l =>
    rw [hp] at hk
    simp only [Option.map_some, Option.getD_some, Nat.zero_add] at hk ⊢
    split at hk
    · exact (List.mem_filter.1 hk).1
    · simp at hk

/-- A REGION WHOSE ORDER IS OPEN. -/
theorem HW.draw {ro : Option Nat} (hm : P.follows .mixedOrders = true) {ops : List HOper} {ord : List Nat} {kill : List Nat} {fr : List HV} {hs : HS} {Q : HExit → List HV → HS → Prop}
    {ps : List (List Nat)} (h : DR P ops ps ord [] fr hs fun fr hs => Q .normal (killFr kill fr) hs) : HWr P ro (.draw ops ord ps kill) fr hs Q := by
  intro k c' hc ds β a w rb hr0 E F
  cases c' <;> simp only [cCode] at hc <;> (try (simp at hc; done))
  case region id rops draw =>
    split at hc
    · rename_i hos h1
      split at hc
      · rename_i hd
        split at hc
        · rename_i hok
          simp at hc; obtain ⟨rfl, rfl, rfl, rfl⟩ := hc
          have hd' : draw = true := hd
          subst hd'
          have O := orderOk_sound hok
          refine wpIn_region_any hm ?_
          have S := Step.drew E (w.drawn + 1)
          have I0 : Inv0 P ds rops hos (predsOf rops.toList hos) (eager rops.toList hos) fr β hs { w with drawn := w.drawn + 1 } (fun fr hs => Q .normal (killFr (killsOf k id) fr) hs) (Array.replicate rops.size false) a { w with drawn := w.drawn + 1 } [] (eager rops.toList hos) [] (fun _ => .undef) (fun _ => []) fr fr hs β := by
            have hno : ∀ i, ¬ Lst (Array.replicate rops.size false) i := by
              intro i h
              unfold Lst at h
              rw [Array.getElem?_replicate] at h
              split at h <;> simp at h
            refine ⟨rfl, fun i hi => absurd hi (hno i), fun i o k hi => absurd hi (hno i), ⟨rfl, fun i o d hi => by simp at hi, fun d _ => rfl⟩, ⟨rfl, fun i o d hi => absurd hi (hno i), fun d _ => rfl⟩, fun i hi => by simp at hi, fun i hi => by simp at hi, h, F, Step.refl S.emb⟩
          obtain ⟨pre', rest', pend', val', cf', frc', I', hat'⟩ := I0.advance O
          refine draw_any (K := fun fr hs => Q .normal (killFr (killsOf k id) fr) hs) O h1 (predsOf_sound rops.toList hos) ?_ rops.size _ a _ pre' rest' pend' val' cf' frc' fr hs β (by simp) ⟨List.range rops.size, by simp, fun i hi _ => by simpa using hi⟩ I' hat'
          intro β' w' a' fr' hs' q S' F'
          exact ⟨.normal, β', _, hs', rfl, q, ⟨_, _, F'.kill _, .refl⟩, S.trans S'⟩
        · split at hc <;> simp at hc
      · simp at hc
    · simp at hc
  all_goals (split at hc <;> (try split at hc) <;> (try split at hc) <;> (try split at hc) <;> simp at hc)

end
end Go.HL
