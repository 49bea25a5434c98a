/-
  HL: a contract at a small memory, used within a greater one.
-/
import Derived.Test.YteedmbmgemiheaaDoorKYHLGc
namespace Go.HL
open Go

/-- the part of a memory lies within the whole, under these names. -/
def Fits (ρ : Nat → Option Nat) : HS → List Nat → HS → Prop
  | [], [], _ => True
  | none :: r, _ :: l, H => Fits ρ r l H
  | some b :: r, h :: l, H => (∃ b', H[h]? = some (some b') ∧ renB ρ b = some b') ∧ Fits ρ r l H
  | _, _, _ => False
/-- what may only be read stays, or is forgotten. -/
def RoKept : HS → HS → Prop
  | [], _ => True
  | _ :: _, [] => True
  | o :: r, o' :: r' => (o' = o ∨ o' = none ∨ ∃ b0, o = some b0 ∧ b0.ro = false) ∧ RoKept r r'
/-- the place of a handle among those that are not kept. -/
def rank : List Bool → Nat → Nat
  | _, 0 => 0
  | [], h + 1 => h + 1
  | true :: k, h + 1 => rank k h
  | false :: k, h + 1 => rank k h + 1
def isKept (keep : List Bool) (h : Nat) : Bool := match keep[h]? with
  | some b => b
  | none => false
def atRho (keep : List Bool) (l : List Nat) (n : Nat) (h : Nat) : Option Nat := if isKept keep h then l[h]? else some (n + rank keep h)
def putAt (ρ : Nat → Option Nat) : List Bool → HS → List Nat → HS → HS
  | true :: k, H, h :: l, b :: r => putAt ρ k (H.set h (rb ρ b)) l r
  | false :: k, H, h :: l, _ :: r => putAt ρ k (H.set h none) l r
  | _, H, _, _ => H
def news (ρ : Nat → Option Nat) : List Bool → HS → HS
  | [], r => r.map (rb ρ)
  | true :: k, _ :: r => news ρ k r
  | false :: k, b :: r => rb ρ b :: news ρ k r
  | _, [] => []
/-- the whole behind the call. -/
def mergeH (keep : List Bool) (H : HS) (l : List Nat) (hs : HS) : HS := putAt (atRho keep l H.length) keep H l hs ++ news (atRho keep l H.length) keep hs

theorem Fits.len {ρ : Nat → Option Nat} : ∀ {hs : HS} {l : List Nat} {H : HS}, Fits ρ hs l H → hs.length = l.length
  | [], [], _, _ => rfl
  | none :: r, _ :: l, H, h => by simp only [Fits] at h; simp [Fits.len h]
  | some b :: r, p :: l, H, h => by simp only [Fits] at h; simp [Fits.len h.2]
  | [], _ :: _, _, h => by simp [Fits] at h
  | none :: _, [], _, h => by simp [Fits] at h
  | some _ :: _, [], _, h => by simp [Fits] at h
theorem Fits.get {ρ : Nat → Option Nat} : ∀ {hs : HS} {l : List Nat} {H : HS}, Fits ρ hs l H → ∀ (i : Nat) (b : HB), hs[i]? = some (some b) → ∃ h b', l[i]? = some h ∧ H[h]? = some (some b') ∧ renB ρ b = some b'
  | [], [], _, _ => fun i b e => by simp at e
  | none :: r, _ :: l, H, h => fun i b e => by
    simp only [Fits] at h
    cases i with
    | zero => simp at e
    | succ i => simpa using Fits.get h i b (by simpa using e)
  | some c :: r, p :: l, H, h => fun i b e => by
    simp only [Fits] at h
    cases i with
    | zero => simp at e; subst e; obtain ⟨b', h1, h2⟩ := h.1; exact ⟨p, b', by simp, h1, h2⟩
    | succ i => simpa using Fits.get h.2 i b (by simpa using e)
  | [], _ :: _, _, h => by simp [Fits] at h
  | none :: _, [], _, h => by simp [Fits] at h
  | some _ :: _, [], _, h => by simp [Fits] at h
theorem RoKept.get : ∀ {hs hs' : HS}, RoKept hs hs' → ∀ (i : Nat) (o o' : Option HB), hs[i]? = some o → hs'[i]? = some o' → o' = o ∨ o' = none ∨ ∃ b0, o = some b0 ∧ b0.ro = false
  | [], _, _ => fun i o o' e => by simp at e
  | _ :: _, [], _ => fun i o o' _ e => by simp at e
  | x :: r, x' :: r', h => fun i o o' e e' => by
    simp only [RoKept] at h
    cases i with
    | zero => simp at e e'; subst e e'; exact h.1
    | succ i => exact RoKept.get h.2 i o o' (by simpa using e) (by simpa using e')
theorem putAt_len {ρ : Nat → Option Nat} : ∀ {keep : List Bool} {l : List Nat} {r H : HS}, (putAt ρ keep H l r).length = H.length
  | true :: k, h :: l, b :: r, H => by simp [putAt, putAt_len (keep := k)]
  | false :: k, h :: l, b :: r, H => by simp [putAt, putAt_len (keep := k)]
  | [], _, _, H => by simp [putAt]
  | true :: _, [], _, H => by simp [putAt]
  | true :: _, _ :: _, [], H => by simp [putAt]
  | false :: _, [], _, H => by simp [putAt]
  | false :: _, _ :: _, [], H => by simp [putAt]
theorem putAt_out {ρ : Nat → Option Nat} : ∀ {keep : List Bool} {l : List Nat} {r H : HS} {g : Nat}, g ∉ l → (putAt ρ keep H l r)[g]? = H[g]?
  | true :: k, h :: l, b :: r, H, g, hg => by
    simp only [List.mem_cons, not_or] at hg
    simp only [putAt]
    rw [putAt_out hg.2, List.getElem?_set, if_neg (fun e => hg.1 e.symm)]
  | false :: k, h :: l, b :: r, H, g, hg => by
    simp only [List.mem_cons, not_or] at hg
    simp only [putAt]
    rw [putAt_out hg.2, List.getElem?_set, if_neg (fun e => hg.1 e.symm)]
  | [], _, _, H, _, _ => by simp [putAt]
  | true :: _, [], _, H, _, _ => by simp [putAt]
  | true :: _, _ :: _, [], H, _, _ => by simp [putAt]
  | false :: _, [], _, H, _, _ => by simp [putAt]
  | false :: _, _ :: _, [], H, _, _ => by simp [putAt]
theorem putAt_in {ρ : Nat → Option Nat} : ∀ {keep : List Bool} {l : List Nat} {r H : HS} {i g : Nat}, keep.length = l.length → l.Nodup → (∀ h ∈ l, h < H.length) → l.length ≤ r.length → l[i]? = some g → (putAt ρ keep H l r)[g]? = if isKept keep i then (r[i]?).map (rb ρ) else some none
  | [], [], r, H, i, g, _, _, _, _, h => by simp at h
  | c :: k, p :: l, [], H, i, g, _, _, _, hl, _ => by simp at hl
  | c :: k, p :: l, b :: r, H, i, g, hk, nd, lt, hl, h => by
    rw [List.nodup_cons] at nd
    have recA : ∀ (X : Option HB), (putAt ρ k (H.set p X) l r)[p]? = some X := fun X => by
      rw [putAt_out nd.1, List.getElem?_set]; simp [lt p (by simp)]
    have recB : ∀ (X : Option HB) (j : Nat), l[j]? = some g → (putAt ρ k (H.set p X) l r)[g]? = if isKept k j then (r[j]?).map (rb ρ) else some none := fun X j hj =>
      putAt_in (by simpa using hk) nd.2 (fun q hq => by rw [List.length_set]; exact lt q (by simp [hq])) (by simpa using hl) hj
    cases i with
    | zero =>
      simp at h; subst h
      cases c
      · simp only [putAt]; rw [recA]; simp [isKept]
      · simp only [putAt]; rw [recA]; simp [isKept]
    | succ i =>
      simp only [List.getElem?_cons_succ] at h ⊢
      cases c
      · simp only [putAt]; rw [recB _ i h]; rfl
      · simp only [putAt]; rw [recB _ i h]; rfl
  | [], _ :: _, _, _, _, _, h, _, _, _, _ => by simp at h
  | _ :: _, [], _, _, _, _, h, _, _, _, _ => by simp at h
/-- what is new: each of it from one that is not kept. -/
theorem news_get {ρ : Nat → Option Nat} : ∀ {keep : List Bool} {r : HS} {j : Nat} {o : Option HB}, (news ρ keep r)[j]? = some o → ∃ i b, isKept keep i = false ∧ rank keep i = j ∧ r[i]? = some b ∧ rb ρ b = o
  | [], r, j, o, h => by
    simp only [news, List.getElem?_map, Option.map_eq_some_iff] at h
    obtain ⟨b, h1, h2⟩ := h
    exact ⟨j, b, by simp [isKept], by cases j <;> rfl, h1, h2⟩
  | true :: k, b :: r, j, o, h => by
    obtain ⟨i, b', h1, h2, h3, h4⟩ := news_get (keep := k) (by simpa [news] using h)
    exact ⟨i + 1, b', by simpa [isKept] using h1, by simpa [rank] using h2, by simpa using h3, h4⟩
  | false :: k, b :: r, j, o, h => by
    simp only [news] at h
    cases j with
    | zero => simp at h; exact ⟨0, b, by simp [isKept], rfl, by simp, h⟩
    | succ j =>
      obtain ⟨i, b', h1, h2, h3, h4⟩ := news_get (keep := k) (by simpa using h)
      exact ⟨i + 1, b', by simpa [isKept] using h1, by simpa [rank] using h2, by simpa using h3, h4⟩
  | true :: _, [], j, o, h => by simp [news] at h
  | false :: _, [], j, o, h => by simp [news] at h
/-- the entries of what is new. -/
def newE : List Bool → List Ent → List Ent
  | [], r => r
  | true :: k, _ :: r => newE k r
  | false :: k, b :: r => b :: newE k r
  | _, [] => []
theorem newE_get : ∀ {keep : List Bool} {r : List Ent} {i : Nat} {e : Ent}, isKept keep i = false → r[i]? = some e → (newE keep r)[rank keep i]? = some e
  | [], r, i, e, _, h => by simp only [newE]; cases i <;> exact h
  | true :: k, [], i, e, _, h => by simp at h
  | false :: k, [], i, e, _, h => by simp at h
  | true :: k, b :: r, 0, e, h, _ => by simp [isKept] at h
  | true :: k, b :: r, i + 1, e, h1, h => by simpa [newE, rank] using newE_get (keep := k) (by simpa [isKept] using h1) (by simpa using h)
  | false :: k, b :: r, 0, e, _, h => by simpa [newE, rank] using h
  | false :: k, b :: r, i + 1, e, h1, h => by simpa [newE, rank] using newE_get (keep := k) (by simpa [isKept] using h1) (by simpa using h)
theorem newE_len {ρ : Nat → Option Nat} : ∀ {keep : List Bool} {r : List Ent} {hs : HS}, r.length = hs.length → (newE keep r).length = (news ρ keep hs).length
  | [], r, hs, h => by simpa [newE, news] using h
  | true :: k, [], [], _ => rfl
  | false :: k, [], [], _ => rfl
  | true :: k, b :: r, c :: hs, h => by simpa [newE, news] using newE_len (keep := k) (by simpa using h)
  | false :: k, b :: r, c :: hs, h => by simpa [newE, news] using newE_len (keep := k) (by simpa using h)
  | _ :: _, [], _ :: _, h => by simp at h
  | _ :: _, _ :: _, [], h => by simp at h
theorem newE_from : ∀ {keep : List Bool} {r : List Ent} {j : Nat} {e : Ent}, (newE keep r)[j]? = some e → ∃ i, isKept keep i = false ∧ r[i]? = some e
  | [], r, j, e, h => ⟨j, by simp [isKept], h⟩
  | true :: k, b :: r, j, e, h => by
    obtain ⟨i, h1, h2⟩ := newE_from (keep := k) (by simpa [newE] using h)
    exact ⟨i + 1, by simpa [isKept] using h1, by simpa using h2⟩
  | false :: k, b :: r, j, e, h => by
    simp only [newE] at h
    cases j with
    | zero => exact ⟨0, by simp [isKept], by simpa using h⟩
    | succ j =>
      obtain ⟨i, h1, h2⟩ := newE_from (keep := k) (by simpa using h)
      exact ⟨i + 1, by simpa [isKept] using h1, by simpa using h2⟩
  | true :: _, [], j, e, h => by simp [newE] at h
  | false :: _, [], j, e, h => by simp [newE] at h

/-- a step of which only some handles keep their names. -/
structure StepM (keep : List Bool) (β : List Ent) (hs : HS) (w : World) (β' : List Ent) (hs' : HS) (w' : World) : Prop where
  kept : ∀ h, isKept keep h = true → β'[h]? = β[h]?
  len : keep.length ≤ β'.length
  emb : Emb β' hs' w'
  size : w.heap.size ≤ w'.heap.size
  same : ∀ k, k < w.heap.size → ¬ Own β hs k → w'.heap[k]? = w.heap[k]?
  own : ∀ k, k < w.heap.size → Own β' hs' k → Own β hs k
  os : w'.os = w.os
  output : w'.output = w.output
  tape : w'.tape = w.tape
  fresh : ∀ (h : Nat) (e : Ent), isKept keep h = false → β'[h]? = some e → w.heap.size ≤ e.blk ∨ Own β hs e.blk
/-- what a call comes to, of whose memory only some handles keep their names. -/
def HCm (P : Program) (f : FuncId) (args : List HV) (hs : HS) (keep : List Bool) (Q : HV → HS → Prop) : Prop :=
  keep.length = hs.length ∧ ∀ (β : List Ent) (w : World) (us : List Value), Emb β hs w → RelL β args us →
    Calls P f us.toArray w fun e w' => ∃ β' u v hs', e = .returned u ∧ Q v hs' ∧ Rel β' v u ∧ StepM keep β hs w β' hs' w'

/-- what moves to another name is one's own, or new. -/
def okOwn (hs : HS) : List Bool → List (Option Nat) → Prop
  | _, [] => True
  | true :: k, _ :: r => okOwn hs k r
  | false :: k, none :: r => okOwn hs k r
  | [], none :: r => okOwn hs [] r
  | false :: k, some p :: r => (hs.length ≤ p ∨ ∃ b, hs[p]? = some (some b) ∧ b.ro = false) ∧ okOwn hs k r
  | [], some p :: r => (hs.length ≤ p ∨ ∃ b, hs[p]? = some (some b) ∧ b.ro = false) ∧ okOwn hs [] r
def okKeep : List Bool → List (Option Nat) → Nat → Bool
  | [], _, _ => true
  | _ :: _, [], _ => false
  | true :: k, some p :: r, i => Nat.beq p i && okKeep k r (i + 1)
  | true :: _, none :: _, _ => false
  | false :: k, _ :: r, i => okKeep k r (i + 1)
theorem okOwn_get {hs : HS} : ∀ {keep : List Bool} {l : List (Option Nat)}, okOwn hs keep l → ∀ (i p : Nat), isKept keep i = false → l[i]? = some (some p) → (hs.length ≤ p ∨ ∃ b, hs[p]? = some (some b) ∧ b.ro = false)
  | _, [], _, i, p, _, h => by simp at h
  | true :: k, o :: r, H, i, p, hi, h => by
    cases i with
    | zero => simp [isKept] at hi
    | succ i => exact okOwn_get (keep := k) (l := r) (by cases o <;> simpa [okOwn] using H) i p (by simpa [isKept] using hi) (by simpa using h)
  | false :: k, none :: r, H, i, p, hi, h => by
    cases i with
    | zero => simp at h
    | succ i => exact okOwn_get (keep := k) (l := r) (by simpa [okOwn] using H) i p (by simpa [isKept] using hi) (by simpa using h)
  | [], none :: r, H, i, p, hi, h => by
    cases i with
    | zero => simp at h
    | succ i => exact okOwn_get (keep := []) (l := r) (by simpa [okOwn] using H) i p (by simp [isKept]) (by simpa using h)
  | false :: k, some q :: r, H, i, p, hi, h => by
    simp only [okOwn] at H
    cases i with
    | zero => simp at h; subst h; exact H.1
    | succ i => exact okOwn_get (keep := k) (l := r) H.2 i p (by simpa [isKept] using hi) (by simpa using h)
  | [], some q :: r, H, i, p, hi, h => by
    simp only [okOwn] at H
    cases i with
    | zero => simp at h; subst h; exact H.1
    | succ i => exact okOwn_get (keep := []) (l := r) H.2 i p (by simp [isKept]) (by simpa using h)
theorem okKeep_get : ∀ {keep : List Bool} {l : List (Option Nat)} {k : Nat}, okKeep keep l k = true → keep.length ≤ l.length ∧ ∀ i, isKept keep i = true → l[i]? = some (some (k + i))
  | [], l, k, _ => ⟨by simp, fun i h => by simp [isKept] at h⟩
  | _ :: _, [], k, h => by simp [okKeep] at h
  | true :: r, some p :: l, k, h => by
    simp only [okKeep, Bool.and_eq_true] at h
    obtain ⟨h1, h2⟩ := okKeep_get h.2
    refine ⟨by simp; omega, fun i hi => ?_⟩
    cases i with
    | zero => have := Nat.eq_of_beq_eq_true h.1; simp [this]
    | succ i => rw [List.getElem?_cons_succ, h2 i (by simpa [isKept] using hi)]; congr 2; omega
  | true :: r, none :: l, k, h => by simp [okKeep] at h
  | false :: r, o :: l, k, h => by
    obtain ⟨h1, h2⟩ := okKeep_get (keep := r) (l := l) (k := k + 1) (by simpa [okKeep] using h)
    refine ⟨by simp; omega, fun i hi => ?_⟩
    cases i with
    | zero => simp [isKept] at hi
    | succ i => rw [List.getElem?_cons_succ, h2 i (by simpa [isKept] using hi)]; congr 2; omega

theorem StepM.of {keep : List Bool} {β β' : List Ent} {hs hs' : HS} {w w' : World} (E : Emb β hs w) (S : Step β hs w β' hs' w') {src ρ : List (Option Nat)} (hr : okR 0 hs'.length src ρ = true) (hk : okKeep keep src 0 = true) (hl : keep.length = hs.length) (ho : okOwn hs keep src) :
    ∃ β2, StepM keep β hs w β2 (pickH (rho ρ) src hs') w' ∧ Goes (rho ρ) β' β2 := by
  have R := okR_ok hr
  obtain ⟨E2, G, O⟩ := S.emb.pick R ⟨w.heap.size, 0, 0, 0⟩
  obtain ⟨k1, k2⟩ := okKeep_get hk
  have pe : pickE 0 β' ⟨w.heap.size, 0, 0, 0⟩ src = src.map (pickE1 β' ⟨w.heap.size, 0, 0, 0⟩) := by simp [pickE]
  have lts : ∀ i, isKept keep i = true → i < keep.length := fun i h => by
    unfold isKept at h
    split at h
    · rename_i b hb; exact lt_of_get hb
    · simp at h
  refine ⟨_, ⟨fun h hh => ?_, by rw [pe, List.length_map]; exact k1, E2, S.size, S.same, fun k hk h => S.own k hk (O k h), S.os, S.output, S.tape, fun h e hh he => ?_⟩, G⟩
  · have h1 := k2 h hh
    rw [Nat.zero_add] at h1
    rw [pickE_get R S.emb.len h1]
    have hlt : h < β.length := by rw [E.len, ← hl]; exact lts h hh
    rw [List.getElem?_eq_getElem hlt]
    exact S.ext.get (List.getElem?_eq_getElem hlt)
  · rw [pe, List.getElem?_map, Option.map_eq_some_iff] at he
    obtain ⟨o, h1, h2⟩ := he
    cases o with
    | none => simp only [pickE1] at h2; subst h2; exact .inl (Nat.le_refl _)
    | some p =>
      simp only [pickE1] at h2
      split at h2
      · rename_i e' he'
        subst h2
        rcases okOwn_get ho h p hh h1 with h3 | ⟨b, h3, h4⟩
        · exact S.fresh p _ (by rw [E.len]; exact h3) he'
        · have hlt : p < β.length := by rw [E.len]; exact lt_of_get h3
          have h5 := List.getElem?_eq_getElem hlt
          have := S.ext.get h5
          rw [he'] at this
          rw [Option.some.inj this]
          exact .inr ⟨p, _, b, h5, h3, h4, rfl⟩
      · subst h2; exact .inl (Nat.le_refl _)

section
variable {P : Program}
theorem HCm.at {f : FuncId} {args0 args : List HV} {hs0 H : HS} {keep : List Bool} {Q : HV → HS → Prop} (hm : HCm P f args0 hs0 keep Q) (l : List Nat) (nd : l.Nodup) (lt : ∀ p ∈ l, p < H.length) (fit : Fits (fun p => l[p]?) hs0 l H)
    (ha : renL (fun p => l[p]?) args0 = some args) (hk : ∀ v hs', Q v hs' → RoKept hs0 hs') :
    HC P f args H fun v H' => ∃ v0 hs', Q v0 hs' ∧ v = rv (atRho keep l H.length) v0 ∧ H' = mergeH keep H l hs' := by
  obtain ⟨kl, h⟩ := hm
  intro β w us E R
  have hlen := fit.len
  have ltb : ∀ p ∈ l, p < β.length := fun p hp => by rw [E.len]; exact lt p hp
  obtain ⟨β0, hβ0⟩ : ∃ β0 : List Ent, β0 = l.map fun p => (β[p]?).getD default := ⟨_, rfl⟩
  have b0l : β0.length = hs0.length := by rw [hβ0, hlen]; simp
  have b0g : ∀ i p, l[i]? = some p → β0[i]? = β[p]? := fun i p hi => by
    rw [hβ0, List.getElem?_map, hi]
    have := ltb p (List.mem_of_getElem? hi)
    rw [List.getElem?_eq_getElem this]; simp [List.getElem?_eq_getElem this]
  have B : Back (fun p => l[p]?) β0 β := fun i p e hi he => by rw [b0g i p hi]; exact he
  have inj : ∀ i j p, l[i]? = some p → l[j]? = some p → i = j := fun i j p hi hj => by
    have h1 := lt_of_get hi
    have h2 := lt_of_get hj
    rw [List.getElem?_eq_getElem h1] at hi
    rw [List.getElem?_eq_getElem h2] at hj
    have pw := List.pairwise_iff_getElem.1 nd
    rcases Nat.lt_trichotomy i j with h | h | h
    · exact absurd ((Option.some.inj hi).trans (Option.some.inj hj).symm) (pw i j h1 h2 h)
    · exact h
    · exact absurd ((Option.some.inj hj).trans (Option.some.inj hi).symm) (pw j i h2 h1 h)
  have key0 : ∀ (i : Nat) (e : Ent) (b : HB), β0[i]? = some e → hs0[i]? = some (some b) → ∃ p b', l[i]? = some p ∧ β[p]? = some e ∧ H[p]? = some (some b') ∧ renB (fun p => l[p]?) b = some b' := by
    intro i e b h1 h2
    obtain ⟨p, b', h3, h4, h5⟩ := fit.get i b h2
    rw [b0g i p h3] at h1
    exact ⟨p, b', h3, h1, h4, h5⟩
  have E0 : Emb β0 hs0 w := by
    refine ⟨b0l, fun i e b h1 h2 => ?_, fun g i e e' b b' hne h1 h2 h3 h4 heq hro => ?_⟩
    · obtain ⟨p, b', h3, h4, h5, h6⟩ := key0 i e b h1 h2
      exact renB_back B h6 (E.blk p e b' h4 h5)
    · obtain ⟨p, c, k0, k1, k2, k3⟩ := key0 g e b h1 h3
      obtain ⟨q, c', l0, l1, l2, l3⟩ := key0 i e' b' h2 h4
      have hpq : p ≠ q := fun e => hne (inj g i p k0 (e ▸ l0))
      obtain ⟨c1, c2, c3⟩ := renB_same k3
      obtain ⟨d1, d2, d3⟩ := renB_same l3
      obtain ⟨s1, s2, s3⟩ := E.sep p q e e' c c' hpq k1 l1 k2 l2 heq (by rw [d1]; exact hro)
      rw [d3] at s1
      obtain ⟨o, ho, ho'⟩ := List.mem_filterMap.1 s1
      rw [inj g o p k0 ho']
      exact ⟨ho, by rw [← c1]; exact s2, by rw [← c2, ← d2]; exact s3⟩
  -- blocks that the part may write are the whole's own, and none of the rest lies there
  have own0 : ∀ k, Own β0 hs0 k → Own β H k := by
    rintro k ⟨i, e, b, h1, h2, h3, h4⟩
    obtain ⟨p, b', _, h5, h6, h7⟩ := key0 i e b h1 h2
    exact ⟨p, e, b', h5, h6, by rw [(renB_same h7).1]; exact h3, h4⟩
  have rest : ∀ (g : Nat) (e : Ent) (b : HB), g ∉ l → β[g]? = some e → H[g]? = some (some b) → ¬ Own β0 hs0 e.blk := by
    rintro g e b hg h1 h2 ⟨i, e', b', h3, h4, h5, h6⟩
    obtain ⟨p, c, k0, k1, k2, k3⟩ := key0 i e' b' h3 h4
    have hgp : g ≠ p := fun h => hg (h ▸ List.mem_of_getElem? k0)
    obtain ⟨c1, c2, c3⟩ := renB_same k3
    obtain ⟨s1, _, _⟩ := E.sep g p e e' b c hgp h1 k1 h2 k2 h6.symm (by rw [c1]; exact h5)
    rw [c3] at s1
    obtain ⟨o, _, ho'⟩ := List.mem_filterMap.1 s1
    exact hg (List.mem_of_getElem? ho')
  have R0 : RelL β0 args0 us := renL_back B _ _ _ ha R
  refine (h β0 w us E0 R0).mono ?_
  rintro e w' ⟨β0', u, v, hs', rfl, hq, hv, S0⟩
  have kll : keep.length = l.length := by rw [kl, hlen]
  have lts : ∀ i, isKept keep i = true → i < l.length := fun i h => by
    rw [← kll]
    unfold isKept at h
    split at h
    · rename_i b hb; exact lt_of_get hb
    · simp at h
  have hs'l : l.length ≤ hs'.length := by rw [← S0.emb.len, ← kll]; exact S0.len
  obtain ⟨ρ, hρ⟩ : ∃ ρ, ρ = atRho keep l H.length := ⟨_, rfl⟩
  have ρ1 : ∀ i, isKept keep i = true → ρ i = l[i]? := fun i hi => by rw [hρ]; unfold atRho; rw [if_pos hi]
  have ρ2 : ∀ i, isKept keep i = false → ρ i = some (H.length + rank keep i) := fun i hi => by rw [hρ]; unfold atRho; rw [if_neg (by rw [hi]; simp)]
  have G : Goes ρ β0' (β ++ newE keep β0') := by
    intro i q e h1 h2
    cases hi : isKept keep i with
    | true =>
      rw [ρ1 i hi] at h1
      rw [S0.kept i hi, b0g i q h1] at h2
      rw [List.getElem?_append_left (ltb q (List.mem_of_getElem? h1))]; exact h2
    | false =>
      rw [ρ2 i hi] at h1
      obtain rfl := Option.some.inj h1
      rw [List.getElem?_append_right (by rw [E.len]; omega), E.len, Nat.add_sub_cancel_left]
      exact newE_get hi h2
  have hm : mergeH keep H l hs' = putAt ρ keep H l hs' ++ news ρ keep hs' := by rw [hρ]; rfl
  have ml : (mergeH keep H l hs').length = (β ++ newE keep β0').length := by
    rw [hm]; simp only [List.length_append, putAt_len, E.len]; rw [newE_len (ρ := ρ) (hs := hs') S0.emb.len]
  -- what stands behind a handle of the whole
  have key : ∀ (q : Nat) (e : Ent) (b : HB), (β ++ newE keep β0')[q]? = some e → (mergeH keep H l hs')[q]? = some (some b) →
      (q ∉ l ∧ β[q]? = some e ∧ H[q]? = some (some b)) ∨ (∃ i b0, ρ i = some q ∧ β0'[i]? = some e ∧ hs'[i]? = some (some b0) ∧ renB ρ b0 = some b) := by
    intro q e b h1 h2
    rw [hm] at h2
    rcases Nat.lt_or_ge q H.length with hl | hl
    · rw [List.getElem?_append_left (by rw [E.len]; exact hl)] at h1
      rw [List.getElem?_append_left (by rw [putAt_len]; exact hl)] at h2
      by_cases hq : q ∈ l
      · obtain ⟨i, hi⟩ := List.getElem?_of_mem hq
        rw [putAt_in kll nd lt hs'l hi] at h2
        cases hk : isKept keep i with
        | false => rw [hk] at h2; simp at h2
        | true =>
          rw [hk, if_pos rfl, Option.map_eq_some_iff] at h2
          obtain ⟨o, h3, h4⟩ := h2
          obtain ⟨b0, rfl, h5⟩ := rb_some h4
          refine .inr ⟨i, b0, by rw [ρ1 i hk]; exact hi, ?_, h3, h5⟩
          rw [S0.kept i hk, b0g i q hi]; exact h1
      · rw [putAt_out hq] at h2
        exact .inl ⟨hq, h1, h2⟩
    · rw [List.getElem?_append_right (by rw [E.len]; exact hl)] at h1
      rw [List.getElem?_append_right (by rw [putAt_len]; exact hl), putAt_len] at h2
      obtain ⟨i, o, h3, h4, h5, h6⟩ := news_get h2
      obtain ⟨b0, rfl, h7⟩ := rb_some h6
      have hib : i < β0'.length := by rw [S0.emb.len]; exact lt_of_get h5
      have h8 := newE_get (keep := keep) h3 (List.getElem?_eq_getElem hib)
      rw [h4, ← E.len, h1] at h8
      refine .inr ⟨i, b0, by rw [ρ2 i h3, h4]; congr 1; omega, ?_, h5, h7⟩
      rw [List.getElem?_eq_getElem hib, ← h8]
  -- what the part may write behind the call, it could write before
  have ownS : ∀ (i : Nat) (e : Ent) (b0 : HB), β0'[i]? = some e → hs'[i]? = some (some b0) → b0.ro = false → e.blk < w.heap.size → Own β0 hs0 e.blk := fun i e b0 h1 h2 h3 h4 => S0.own _ h4 ⟨i, e, b0, h1, h2, h3, rfl⟩
  have E1 : Emb (β ++ newE keep β0') (mergeH keep H l hs') w' := by
    refine ⟨ml.symm, fun q e b h1 h2 => ?_, fun g q e e' b b' hne h1 h2 h3 h4 heq hro => ?_⟩
    · rcases key q e b h1 h2 with ⟨h3, h4, h5⟩ | ⟨i, b0, h3, h4, h5, h6⟩
      · have hB := E.blk q e b h4 h5
        exact (hB.world (S0.same _ hB.lt (rest q e b h3 h4 h5))).mono ⟨_, rfl⟩
      · exact renB_rel G h6 (S0.emb.blk i e b0 h4 h5)
    · rcases key q e' b' h2 h4 with ⟨q1, q2, q3⟩ | ⟨i, b0, q1, q2, q3, q4⟩
      · have hB' := E.blk q e' b' q2 q3
        rcases key g e b h1 h3 with ⟨k1, k2, k3⟩ | ⟨j, c0, k1, k2, k3, k4⟩
        · exact E.sep g q e e' b b' hne k2 q2 k3 q3 heq hro
        · -- the part's, beside one of the whole's own
          have hno : ¬ Own β0 hs0 e.blk := by rw [heq]; exact rest q e' b' q1 q2 q3
          have hsz : e.blk < w.heap.size := by rw [heq]; exact hB'.lt
          cases hkj : isKept keep j with
          | true =>
            have hjl := lts j hkj
            rw [ρ1 j hkj] at k1
            have hj := k1
            have hjo : hs0[j]? = some hs0[j] := List.getElem?_eq_getElem (by rw [hlen]; exact hjl)
            have e0 : β0[j]? = some e := by rw [← S0.kept j hkj]; exact k2
            rcases (hk v hs' hq).get j _ _ hjo k3 with h | h | ⟨c, h, hr⟩
            · rw [← h] at hjo
              obtain ⟨p, b2, m0, m1, m2, m3⟩ := key0 j e c0 e0 hjo
              obtain rfl : p = g := by rw [hj] at m0; exact (Option.some.inj m0).symm
              obtain ⟨s1, s2, s3⟩ := E.sep p q e e' b2 b' hne m1 q2 m2 q3 heq hro
              obtain ⟨c1, c2, _⟩ := renB_same m3
              obtain ⟨d1, d2, _⟩ := renB_same k4
              exact ⟨s1, by rw [d1, ← c1]; exact s2, by rw [d2, ← c2]; exact s3⟩
            · simp at h
            · rw [h] at hjo
              exact absurd ⟨j, e, c, e0, hjo, hr, rfl⟩ hno
          | false =>
            rcases S0.fresh j e hkj k2 with h | h
            · omega
            · exact absurd h hno
      · rcases key g e b h1 h3 with ⟨k1, k2, k3⟩ | ⟨j, c0, k1, k2, k3, k4⟩
        · have hB := E.blk g e b k2 k3
          have hro0 : b0.ro = false := by rw [← (renB_same q4).1]; exact hro
          have := ownS i e' b0 q2 q3 hro0 (by rw [← heq]; exact hB.lt)
          rw [← heq] at this
          exact absurd this (rest g e b k1 k2 k3)
        · have hij : j ≠ i := by
            rintro rfl
            rw [k1] at q1
            exact hne (Option.some.inj q1)
          obtain ⟨c1, c2, c3⟩ := renB_same k4
          obtain ⟨d1, d2, d3⟩ := renB_same q4
          obtain ⟨s1, s2, s3⟩ := S0.emb.sep j i e e' c0 b0 hij k2 q2 k3 q3 heq (by rw [← d1]; exact hro)
          refine ⟨?_, by rw [c1]; exact s2, by rw [c2, d2]; exact s3⟩
          rw [d3]
          exact List.mem_filterMap.2 ⟨j, s1, k1⟩
  refine ⟨β ++ newE keep β0', u, _, _, rfl, ⟨v, hs', hq, rfl, rfl⟩, by rw [← hρ]; exact rv_rel G hv, ⟨⟨_, rfl⟩, E1, S0.size, fun k hk hn => S0.same k hk fun h => hn (own0 k h), ?_, S0.os, S0.output, S0.tape, ?_⟩⟩
  · rintro k hk' ⟨q, e, b, h1, h2, h3, h4⟩
    rcases key q e b h1 h2 with ⟨_, h5, h6⟩ | ⟨i, b0, _, h5, h6, h7⟩
    · exact ⟨q, e, b, h5, h6, h3, h4⟩
    · subst h4
      exact own0 _ (ownS i e b0 h5 h6 (by rw [← (renB_same h7).1]; exact h3) hk')
  · intro q e hl he
    rw [List.getElem?_append_right hl] at he
    obtain ⟨i, hi, h1⟩ := newE_from he
    rcases S0.fresh i e hi h1 with h | h
    · exact .inl h
    · exact .inr (own0 _ h)

/-- a function's end, its handles named anew. -/
theorem HC.toM {f : FuncId} {args : List HV} {hs : HS} {keep : List Bool} {Q : HV → HS → Prop} (hl : keep.length = hs.length)
    (h : HC P f args hs fun v hs' => ∃ src ρ, okR 0 hs'.length src ρ = true ∧ okKeep keep src 0 = true ∧ okOwn hs keep src ∧ Q (rv (rho ρ) v) (pickH (rho ρ) src hs')) : HCm P f args hs keep Q := by
  refine ⟨hl, fun β w us E R => (h β w us E R).mono ?_⟩
  rintro e w' ⟨β', u, v, hs', he, ⟨src, ρ, hr, hk, ho, hq⟩, hv, S⟩
  obtain ⟨β2, S2, G⟩ := StepM.of E S hr hk hl ho
  exact ⟨β2, u, _, _, he, hq, rv_rel G hv, S2⟩

/-- a function, by what must hold ahead of its body; its end named anew. -/
theorem HCm.wp (hm : P.follows .mixedOrders = true) {f : FuncId} {kills : List (Nat × List Nat)} {fn : Func} {hf : HFn} (h1 : P.funcs[f]? = some fn) (h2 : cFn P kills fn = some hf) {args : List HV} {hs : HS} {keep : List Bool} {Q : HV → HS → Prop} (hl : keep.length = hs.length)
    (h : hwp P none hf.body (fun e fr hs' => e.ended = true ∧ ∃ v, hres hf.res fr hs' = some v ∧ ∃ src ρ, okR 0 hs'.length src ρ = true ∧ okKeep keep src 0 = true ∧ okOwn hs keep src ∧ Q (rv (rho ρ) v) (pickH (rho ρ) src hs')) (frame0 hf.ntmps args) hs) : HCm P f args hs keep Q :=
  HC.toM hl (HC.wp hm h1 h2 h)

end
end Go.HL
