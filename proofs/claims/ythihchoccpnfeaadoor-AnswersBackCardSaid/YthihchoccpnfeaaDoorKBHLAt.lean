/-
  HL: a contract at a small memory, used within a greater one.
-/
import Derived.Test.YthihchoccpnfeaaDoorKBHLGc
namespace Go.HL
open Go

/-- the part of a memory lies within the whole, under these names. -/
def Fits (ρ : Nat → Option Nat) : HS → List Nat → HS → Prop
  | [], [], _ => True
  | none :: r, _ :: l, H => Fits ρ r l H
  | some b :: r, h :: l, H => (∃ b', H[h]? = some (some b') ∧ renB ρ b = some b') ∧ Fits ρ r l H
  | _, _, _ => False
/-- what may only be read stays, or is forgotten. -/
def RoKept : HS → HS → Prop
  | [], _ => True
  | _ :: _, [] => True
  | o :: r, o' :: r' => (o' = o ∨ o' = none ∨ ∃ b0, o = some b0 ∧ b0.ro = false) ∧ RoKept r r'
def isKept (keep : List Bool) (h : Nat) : Bool := match keep[h]? with
  | some b => b
  | none => false
def news (ρ : Nat → Option Nat) : List Bool → HS → HS
  | [], r => r.map (rb ρ)
  | true :: k, _ :: r => news ρ k r
  | false :: k, b :: r => rb ρ b :: news ρ k r
  | _, [] => []
theorem Fits.len {ρ : Nat → Option Nat} : ∀ {hs : HS} {l : List Nat} {H : HS}, Fits ρ hs l H → hs.length = l.length
  | [], [], _, _ => rfl
  | none :: r, _ :: l, H, h => by simp only [Fits] at h; simp [Fits.len h]
  | some b :: r, p :: l, H, h => by simp only [Fits] at h; simp [Fits.len h.2]
  | [], _ :: _, _, h => by simp [Fits] at h
  | none :: _, [], _, h => by simp [Fits] at h
  | some _ :: _, [], _, h => by simp [Fits] at h
theorem Fits.get {ρ : Nat → Option Nat} : ∀ {hs : HS} {l : List Nat} {H : HS}, Fits ρ hs l H → ∀ (i : Nat) (b : HB), hs[i]? = some (some b) → ∃ h b', l[i]? = some h ∧ H[h]? = some (some b') ∧ renB ρ b = some b'
  | [], [], _, _ => fun i b e => by simp at e
  | none :: r, _ :: l, H, h => fun i b e => by
    simp only [Fits] at h
    cases i with
    | zero => simp at e
    | succ i => simpa using Fits.get h i b (by simpa using e)
  | some c :: r, p :: l, H, h => fun i b e => by
    simp only [Fits] at h
    cases i with
    | zero => simp at e; subst e; obtain ⟨b', h1, h2⟩ := h.1; exact ⟨p, b', by simp, h1, h2⟩
    | succ i => simpa using Fits.get h.2 i b (by simpa using e)
  | [], _ :: _, _, h => by simp [Fits] at h
  | none :: _, [], _, h => by simp [Fits] at h
  | some _ :: _, [], _, h => by simp [Fits] at h
theorem RoKept.get : ∀ {hs hs' : HS}, RoKept hs hs' → ∀ (i : Nat) (o o' : Option HB), hs[i]? = some o → hs'[i]? = some o' → o' = o ∨ o' = none ∨ ∃ b0, o = some b0 ∧ b0.ro = false
  | [], _, _ => fun i o o' e => by simp at e
  | _ :: _, [], _ => fun i o o' _ e => by simp at e
  | x :: r, x' :: r', h => fun i o o' e e' => by
    simp only [RoKept] at h
    cases i with
    | zero => simp at e e'; subst e e'; exact h.1
    | succ i => exact RoKept.get h.2 i o o' (by simpa using e) (by simpa using e')
/-- a step of which only some handles keep their names. -/
structure StepM (keep : List Bool) (β : List Ent) (hs : HS) (w : World) (β' : List Ent) (hs' : HS) (w' : World) : Prop where
  kept : ∀ h, isKept keep h = true → β'[h]? = β[h]?
  len : keep.length ≤ β'.length
  emb : Emb β' hs' w'
  size : w.heap.size ≤ w'.heap.size
  same : ∀ k, k < w.heap.size → ¬ Own β hs k → w'.heap[k]? = w.heap[k]?
  own : ∀ k, k < w.heap.size → Own β' hs' k → Own β hs k
  os : w'.os = w.os
  output : w'.output = w.output
  tape : w'.tape = w.tape
  fresh : ∀ (h : Nat) (e : Ent), isKept keep h = false → β'[h]? = some e → w.heap.size ≤ e.blk ∨ Own β hs e.blk
/-- what a call comes to, of whose memory only some handles keep their names. -/
def HCm (P : Program) (f : FuncId) (args : List HV) (hs : HS) (keep : List Bool) (Q : HV → HS → Prop) : Prop :=
  keep.length = hs.length ∧ ∀ (β : List Ent) (w : World) (us : List Value), Emb β hs w → RelL β args us →
    Calls P f us.toArray w fun e w' => ∃ β' u v hs', e = .returned u ∧ Q v hs' ∧ Rel β' v u ∧ StepM keep β hs w β' hs' w'

/-- what moves to another name is one's own, or new. -/
def okOwn (hs : HS) : List Bool → List (Option Nat) → Prop
  | _, [] => True
  | true :: k, _ :: r => okOwn hs k r
  | false :: k, none :: r => okOwn hs k r
  | [], none :: r => okOwn hs [] r
  | false :: k, some p :: r => (hs.length ≤ p ∨ ∃ b, hs[p]? = some (some b) ∧ b.ro = false) ∧ okOwn hs k r
  | [], some p :: r => (hs.length ≤ p ∨ ∃ b, hs[p]? = some (some b) ∧ b.ro = false) ∧ okOwn hs [] r
def okKeep : List Bool → List (Option Nat) → Nat → Bool
  | [], _, _ => true
  | _ :: _, [], _ => false
  | true :: k, some p :: r, i => Nat.beq p i && okKeep k r (i + 1)
  | true :: _, none :: _, _ => false
  | false :: k, _ :: r, i => okKeep k r (i + 1)
theorem okOwn_get {hs : HS} : ∀ {keep : List Bool} {l : List (Option Nat)}, okOwn hs keep l → ∀ (i p : Nat), isKept keep i = false → l[i]? = some (some p) → (hs.length ≤ p ∨ ∃ b, hs[p]? = some (some b) ∧ b.ro = false)
  | _, [], _, i, p, _, h => by simp at h
  | true :: k, o :: r, H, i, p, hi, h => by
    cases i with
    | zero => simp [isKept] at hi
    | succ i => exact okOwn_get (keep := k) (l := r) (by cases o <;> simpa [okOwn] using H) i p (by simpa [isKept] using hi) (by simpa using h)
  | false :: k, none :: r, H, i, p, hi, h => by
    cases i with
    | zero => simp at h
    | succ i => exact okOwn_get (keep := k) (l := r) (by simpa [okOwn] using H) i p (by simpa [isKept] using hi) (by simpa using h)
  | [], none :: r, H, i, p, hi, h => by
    cases i with
    | zero => simp at h
    | succ i => exact okOwn_get (keep := []) (l := r) (by simpa [okOwn] using H) i p (by simp [isKept]) (by simpa using h)
  | false :: k, some q :: r, H, i, p, hi, h => by
    simp only [okOwn] at H
    cases i with
    | zero => simp at h; subst h; exact H.1
    | succ i => exact okOwn_get (keep := k) (l := r) H.2 i p (by simpa [isKept] using hi) (by simpa using h)
  | [], some q :: r, H, i, p, hi, h => by
    simp only [okOwn] at H
    cases i with
    | zero => simp at h; subst h; exact H.1
    | succ i => exact okOwn_get (keep := []) (l := r) H.2 i p (by simp [isKept]) (by simpa using h)
theorem okKeep_get : ∀ {keep : List Bool} {l : List (Option Nat)} {k : Nat}, okKeep keep l k = true → keep.length ≤ l.length ∧ ∀ i, isKept keep i = true → l[i]? = some (some (k + i))
  | [], l, k, _ => ⟨by simp, fun i h => by simp [isKept] at h⟩
  | _ :: _, [], k, h => by simp [okKeep] at h
  | true :: r, some p :: l, k, h => by
    simp only [okKeep, Bool.and_eq_true] at h
    obtain ⟨h1, h2⟩ := okKeep_get h.2
    refine ⟨by simp; omega, fun i hi => ?_⟩
    cases i with
    | zero => have := Nat.eq_of_beq_eq_true h.1; simp [this]
    | succ i => rw [List.getElem?_cons_succ, h2 i (by simpa [isKept] using hi)]; congr 2; omega
  | true :: r, none :: l, k, h => by simp [okKeep] at h
  | false :: r, o :: l, k, h => by
    obtain ⟨h1, h2⟩ := okKeep_get (keep := r) (l := l) (k := k + 1) (by simpa [okKeep] using h)
    refine ⟨by simp; omega, fun i hi => ?_⟩
    cases i with
    | zero => simp [isKept] at hi
    | succ i => rw [List.getElem?_cons_succ, h2 i (by simpa [isKept] using hi)]; congr 2; omega

theorem StepM.of {keep : List Bool} {β β' : List Ent} {hs hs' : HS} {w w' : World} (E : Emb β hs w) (S : Step β hs w β' hs' w') {src ρ : List (Option Nat)} (hr : okR 0 hs'.length src ρ = true) (hk : okKeep keep src 0 = true) (hl : keep.length = hs.length) (ho : okOwn hs keep src) :
    ∃ β2, StepM keep β hs w β2 (pickH (rho ρ) src hs') w' ∧ Goes (rho ρ) β' β2 := by
  have R := okR_ok hr
  obtain ⟨E2, G, O⟩ := S.emb.pick R ⟨w.heap.size, 0, 0, 0⟩
  obtain ⟨k1, k2⟩ := okKeep_get hk
  have pe : pickE 0 β' ⟨w.heap.size, 0, 0, 0⟩ src = src.map (pickE1 β' ⟨w.heap.size, 0, 0, 0⟩) := by simp [pickE]
  have lts : ∀ i, isKept keep i = true → i < keep.length := fun i h => by
    unfold isKept at h
    split at h
    · rename_i b hb; exact lt_of_get hb
    · simp at h
  refine ⟨_, ⟨fun h hh => ?_, by rw [pe, List.length_map]; exact k1, E2, S.size, S.same, fun k hk h => S.own k hk (O k h), S.os, S.output, S.tape, fun h e hh he => ?_⟩, G⟩
  · have h1 := k2 h hh
    rw [Nat.zero_add] at h1
    rw [pickE_get R S.emb.len h1]
    have hlt : h < β.length := by rw [E.len, ← hl]; exact lts h hh
    rw [List.getElem?_eq_getElem hlt]
    exact S.ext.get (List.getElem?_eq_getElem hlt)
  · rw [pe, List.getElem?_map, Option.map_eq_some_iff] at he
    obtain ⟨o, h1, h2⟩ := he
    cases o with
    | none => simp only [pickE1] at h2; subst h2; exact .inl (Nat.le_refl _)
    | some p =>
      simp only [pickE1] at h2
      split at h2
      · rename_i e' he'
        subst h2
        rcases okOwn_get ho h p hh h1 with h3 | ⟨b, h3, h4⟩
        · exact S.fresh p _ (by rw [E.len]; exact h3) he'
        · have hlt : p < β.length := by rw [E.len]; exact lt_of_get h3
          have h5 := List.getElem?_eq_getElem hlt
          have := S.ext.get h5
          rw [he'] at this
          rw [Option.some.inj this]
          exact .inr ⟨p, _, b, h5, h3, h4, rfl⟩
      · subst h2; exact .inl (Nat.le_refl _)

section
variable {P : Program}
/-- a function's end, its handles named anew. -/
theorem HC.toM {f : FuncId} {args : List HV} {hs : HS} {keep : List Bool} {Q : HV → HS → Prop} (hl : keep.length = hs.length)
    (h : HC P f args hs fun v hs' => ∃ src ρ, okR 0 hs'.length src ρ = true ∧ okKeep keep src 0 = true ∧ okOwn hs keep src ∧ Q (rv (rho ρ) v) (pickH (rho ρ) src hs')) : HCm P f args hs keep Q := by
  refine ⟨hl, fun β w us E R => (h β w us E R).mono ?_⟩
  rintro e w' ⟨β', u, v, hs', he, ⟨src, ρ, hr, hk, ho, hq⟩, hv, S⟩
  obtain ⟨β2, S2, G⟩ := StepM.of E S hr hk hl ho
  exact ⟨β2, u, _, _, he, hq, rv_rel G hv, S2⟩

/-- a function, by what must hold ahead of its body; its end named anew. -/
theorem HCm.wp (hm : P.follows .mixedOrders = true) {f : FuncId} {kills : List (Nat × List Nat)} {fn : Func} {hf : HFn} (h1 : P.funcs[f]? = some fn) (h2 : cFn P kills fn = some hf) {args : List HV} {hs : HS} {keep : List Bool} {Q : HV → HS → Prop} (hl : keep.length = hs.length)
    (h : hwp P none hf.body (fun e fr hs' => e.ended = true ∧ ∃ v, hres hf.res fr hs' = some v ∧ ∃ src ρ, okR 0 hs'.length src ρ = true ∧ okKeep keep src 0 = true ∧ okOwn hs keep src ∧ Q (rv (rho ρ) v) (pickH (rho ρ) src hs')) (frame0 hf.ntmps args) hs) : HCm P f args hs keep Q :=
  HC.toM hl (HC.wp hm h1 h2 h)

end
end Go.HL
