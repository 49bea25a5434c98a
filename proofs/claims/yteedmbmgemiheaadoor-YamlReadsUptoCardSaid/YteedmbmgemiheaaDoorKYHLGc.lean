/-
  HL: handles named anew within a walk; what a call does in a part of memory, it does in the whole.
-/
import Derived.Test.YteedmbmgemiheaaDoorKYHLWp
import Derived.Test.YteedmbmgemiheaaDoorKYHLRen
namespace Go.HL
open Go

/-- the part knows what the whole knows. -/
def Back (ρ : Nat → Option Nat) (β β2 : List Ent) : Prop := ∀ (h h' : Nat) (e : Ent), ρ h = some h' → β2[h']? = some e → β[h]? = some e

mutual
theorem renV_back {ρ : Nat → Option Nat} {β β2 : List Ent} (G : Back ρ β β2) : ∀ (x y : HV) (u : Value), renV ρ x = some y → Rel β2 y u → Rel β x u
  | .undef, y, u, h, r => by simp [renV] at h; subst h; trivial
  | .bool b, y, u, h, r => by simp [renV] at h; subst h; exact r
  | .int k n, y, u, h, r => by simp [renV] at h; subst h; exact r
  | .str s, y, u, h, r => by simp [renV] at h; subst h; exact r
  | .ptr p o, y, u, h, r => by
    simp only [renV] at h
    split at h
    · rename_i h' hh
      simp at h; subst h
      simp only [Rel] at r ⊢
      obtain ⟨e, he, hv⟩ := r
      exact ⟨e, G _ _ _ hh he, hv⟩
    · simp at h
  | .nilPtr, y, u, h, r => by simp [renV] at h; subst h; exact r
  | .slice p o n c, y, u, h, r => by
    simp only [renV] at h
    split at h
    · rename_i h' hh
      simp at h; subst h
      simp only [Rel] at r ⊢
      obtain ⟨e, a, c', he, hv⟩ := r
      exact ⟨e, a, c', G _ _ _ hh he, hv⟩
    · simp at h
  | .nilSlice, y, u, h, r => by simp [renV] at h; subst h; exact r
  | .map p, y, u, h, r => by
    simp only [renV] at h
    split at h
    · rename_i h' hh
      simp at h; subst h
      simp only [Rel] at r ⊢
      obtain ⟨e, he, hv⟩ := r
      exact ⟨e, G _ _ _ hh he, hv⟩
    · simp at h
  | .nilMap, y, u, h, r => by simp [renV] at h; subst h; exact r
  | .func fn a b, y, u, h, r => by
    simp only [renV] at h
    split at h
    · rename_i a' b' h1 h2
      simp at h; subst h
      simp only [Rel] at r ⊢
      obtain ⟨us, ws, hv, r1, r2, r3⟩ := r
      exact ⟨us, ws, hv, renL_back G a a' _ h1 r1, renL_back G b b' _ h2 r2, r3⟩
    · simp at h
  | .nilFunc, y, u, h, r => by simp [renV] at h; subst h; exact r
  | .iface t x, y, u, h, r => by
    simp only [renV] at h
    split at h
    · rename_i x' h1
      simp at h; subst h
      simp only [Rel] at r ⊢
      obtain ⟨w, hv, r1⟩ := r
      exact ⟨w, hv, renV_back G x x' _ h1 r1⟩
    · simp at h
  | .nilIface, y, u, h, r => by simp [renV] at h; subst h; exact r
  | .agg l, y, u, h, r => by
    simp only [renV] at h
    split at h
    · rename_i l' h1
      simp at h; subst h
      simp only [Rel] at r ⊢
      obtain ⟨us, hv, r1⟩ := r
      exact ⟨us, hv, renL_back G l l' _ h1 r1⟩
    · simp at h
  | .tup l, y, u, h, r => by
    simp only [renV] at h
    split at h
    · rename_i l' h1
      simp at h; subst h
      simp only [Rel] at r ⊢
      obtain ⟨us, hv, r1⟩ := r
      exact ⟨us, hv, renL_back G l l' _ h1 r1⟩
    · simp at h
  | .yld p, y, u, h, r => by
    simp only [renV] at h
    split at h
    · rename_i h' hh
      simp at h; subst h
      simp only [Rel] at r ⊢
      obtain ⟨e, he, hv⟩ := r
      exact ⟨e, G _ _ _ hh he, hv⟩
    · simp at h
theorem renL_back {ρ : Nat → Option Nat} {β β2 : List Ent} (G : Back ρ β β2) : ∀ (x y : List HV) (u : List Value), renL ρ x = some y → RelL β2 y u → RelL β x u
  | [], y, u, h, r => by simp [renL] at h; subst h; exact r
  | x :: l, y, u, h, r => by
    simp only [renL] at h
    split at h
    · simp at h
    · rename_i x' h1
      split at h
      · simp at h
      · rename_i l' h2
        simp at h; subst h
        simp only [RelL] at r ⊢
        obtain ⟨v, us, hv, r1, r2⟩ := r
        exact ⟨v, us, hv, renV_back G x x' _ h1 r1, renL_back G l l' _ h2 r2⟩
end

theorem renE_back {ρ : Nat → Option Nat} {β β2 : List Ent} (G : Back ρ β β2) : ∀ (x y : List (HV × HV × Nat)) (u : List MapEntry), renE ρ x = some y → RelE β2 y u → RelE β x u
  | [], y, u, h, r => by simp [renE] at h; subst h; exact r
  | (k, v, n) :: l, y, u, h, r => by
    simp only [renE] at h
    split at h
    · rename_i k' v' r' h1 h2 h3
      simp at h; subst h
      simp only [RelE] at r ⊢
      obtain ⟨e, es, hu, r1, r2, r3, r4⟩ := r
      exact ⟨e, es, hu, renV_back G _ _ _ h1 r1, renV_back G _ _ _ h2 r2, r3, renE_back G _ _ _ h3 r4⟩
    · simp at h

theorem renL_fwd {ρ : Nat → Option Nat} : ∀ {l l' : List HV}, renL ρ l = some l' → ∀ (i : Nat) (x : HV), l[i]? = some x → ∃ y, l'[i]? = some y ∧ renV ρ x = some y
  | [], l', h => fun i x hx => by simp at hx
  | z :: l, l', h => by
    simp only [renL] at h
    split at h
    · simp at h
    · rename_i x' h1
      split at h
      · simp at h
      · rename_i r' h2
        simp at h; subst h
        intro i x hx
        cases i with
        | zero => simp at hx; subst hx; exact ⟨x', by simp, h1⟩
        | succ i => simpa using renL_fwd h2 i x (by simpa using hx)

theorem renB_back {ρ : Nat → Option Nat} {β β2 : List Ent} (G : Back ρ β β2) {w : World} {e : Ent} {b b' : HB} (h : renB ρ b = some b') (r : BlkRel β2 w e b') : BlkRel β w e b := by
  cases b with
  | cells s cs ro opn olds =>
    simp only [renB] at h
    split at h
    · rename_i cs' h1
      simp at h; subst h
      obtain ⟨hs, cur, t, fz, r1, r2, r3, r4, r5⟩ := r
      have g1 := (renL_get h1).1
      refine ⟨hs, cur, t, fz, r1, r2, r3, by rw [← g1]; exact r4, fun i x hx => ?_⟩
      obtain ⟨y, hy, hxy⟩ := renL_fwd h1 i x hx
      obtain ⟨u, q1, q2, q3⟩ := r5 i y hy
      exact ⟨u, q1, renV_back G x y u hxy q2, by rw [← renV_one hxy]; exact q3⟩
    · simp at h
  | map es clock =>
    simp only [renB] at h
    split at h
    · rename_i es' h1
      simp at h; subst h
      obtain ⟨res, r1, r2⟩ := r
      exact ⟨res, r1, renE_back G _ _ _ h1 r2⟩
    · simp at h
  | siter s pos => simp [renB] at h; subst h; exact r
  | gint g => simp [renB] at h; subst h; exact r
  | gtab g k zs => simp [renB] at h; subst h; exact r
  | gpin g p =>
    simp only [renB] at h
    split at h
    · rename_i h' hh
      simp at h; subst h
      obtain ⟨r1, r2, r3, e', r4, r5⟩ := r
      exact ⟨r1, r2, r3, e', G _ _ _ hh r4, r5⟩
    · simp at h
  | kbox p =>
    simp only [renB] at h
    split at h
    · rename_i h' hh
      simp at h; subst h
      obtain ⟨r0, t, fz, e', r1, r2⟩ := r
      exact ⟨r0, t, fz, e', r1, G _ _ _ hh r2⟩
    · simp at h
  | loop st pend fr ps a b =>
    simp only [renB] at h
    split at h
    · rename_i fr' hh
      simp at h; subst h
      obtain ⟨rr, h1, h2, h3, h4, h5, h6, h7, h8⟩ := r
      have g1 := (renL_get hh).1
      refine ⟨rr, h1, h2, h3, h4, h5, h6, by rw [← g1]; exact h7, fun i x hx => ?_⟩
      obtain ⟨y, hy, hxy⟩ := renL_fwd hh i x hx
      obtain ⟨u, q1, q2⟩ := h8 i y hy
      exact ⟨u, q1, renV_back G x y u hxy q2⟩
    · simp at h
  | miter m since seen stepped =>
    cases m with
    | none => simp [renB] at h; subst h; exact r
    | some m =>
      simp only [renB] at h
      split at h
      · rename_i m' hh
        simp at h; subst h
        obtain ⟨r0, mb, r1, e', r2, r3⟩ := r
        exact ⟨r0, mb, r1, e', G _ _ _ hh r2, r3⟩
      · simp at h

/-! ### a state, named anew -/
/-- a value, a block under a renaming; what cannot be named is forgotten. -/
def rv (ρ : Nat → Option Nat) (x : HV) : HV := (renV ρ x).getD .undef
def rb (ρ : Nat → Option Nat) : Option HB → Option HB
  | none => none
  | some b => renB ρ b
theorem rv_rel {ρ : Nat → Option Nat} {β β2 : List Ent} (G : Goes ρ β β2) {x : HV} {u : Value} (h : Rel β x u) : Rel β2 (rv ρ x) u := by
  unfold rv
  cases hx : renV ρ x with
  | none => trivial
  | some y => exact renV_rel G x y u hx h
theorem rb_some {ρ : Nat → Option Nat} {o : Option HB} {b : HB} (h : rb ρ o = some b) : ∃ b0, o = some b0 ∧ renB ρ b0 = some b := by
  cases o with
  | none => simp [rb] at h
  | some b0 => exact ⟨b0, rfl, h⟩

/-- a renaming as a list. -/
def rho (l : List (Option Nat)) (h : Nat) : Option Nat := match l[h]? with
  | some (some i) => some i
  | _ => none
def pick1 (ρ : Nat → Option Nat) (hs : HS) : Option Nat → Option HB
  | none => none
  | some h => match hs[h]? with
    | some o => rb ρ o
    | none => none
def pickH (ρ : Nat → Option Nat) (src : List (Option Nat)) (hs : HS) : HS := src.map (pick1 ρ hs)
def pickE1 (β : List Ent) (d : Ent) : Option Nat → Ent
  | none => d
  | some h => match β[h]? with
    | some e => e
    | none => d
def pickE (n0 : Nat) (β : List Ent) (d : Ent) (src : List (Option Nat)) : List Ent := β.take n0 ++ (src.drop n0).map (pickE1 β d)

def okSrc (n0 len : Nat) (ρ : List (Option Nat)) : List (Option Nat) → Nat → Bool
  | [], _ => true
  | none :: r, i => okSrc n0 len ρ r (i + 1)
  | some h :: r, i => (Nat.blt h len && (match rho ρ h with | some j => Nat.beq j i | none => false) && (!Nat.blt i n0 || Nat.beq h i)) && okSrc n0 len ρ r (i + 1)
def okRho (src : List (Option Nat)) : List (Option Nat) → Nat → Bool
  | [], _ => true
  | none :: r, h => okRho src r (h + 1)
  | some i :: r, h => (match rho src i with | some j => Nat.beq j h | none => false) && okRho src r (h + 1)
/-- the new ones come from new ones. -/
def okNew (n0 : Nat) : List (Option Nat) → Bool
  | [] => true
  | none :: r => okNew n0 r
  | some h :: r => Nat.ble n0 h && okNew n0 r
def okR (n0 len : Nat) (src ρ : List (Option Nat)) : Bool := Nat.ble n0 len && Nat.ble n0 src.length && okSrc n0 len ρ src 0 && okRho src ρ 0
def okG (n0 len : Nat) (src ρ : List (Option Nat)) : Bool := okR n0 len src ρ && okNew n0 (src.drop n0)

theorem rho_get {l : List (Option Nat)} {h i : Nat} : rho l h = some i ↔ l[h]? = some (some i) := by
  unfold rho
  constructor
  · intro e
    split at e
    · rename_i j hj
      simp at e; subst e; exact hj
    · simp at e
  · intro e; rw [e]
theorem okSrc_get {n0 len : Nat} {ρ : List (Option Nat)} : ∀ {l : List (Option Nat)} {k : Nat}, okSrc n0 len ρ l k = true → ∀ (i h : Nat), l[i]? = some (some h) → h < len ∧ rho ρ h = some (k + i) ∧ (k + i < n0 → h = k + i)
  | [], k, _ => fun i h e => by simp at e
  | none :: r, k, H => by
    intro i h e
    cases i with
    | zero => simp at e
    | succ i =>
      have := okSrc_get (k := k + 1) (by simpa [okSrc] using H) i h (by simpa using e)
      rw [show k + (i + 1) = k + 1 + i by omega]; exact this
  | some p :: r, k, H => by
    simp only [okSrc, Bool.and_eq_true] at H
    obtain ⟨⟨⟨h1, h2⟩, h3⟩, h4⟩ := H
    intro i h e
    cases i with
    | zero =>
      simp at e; subst e
      refine ⟨by rw [Nat.blt_eq] at h1; exact h1, ?_, fun hk => ?_⟩
      · split at h2
        · rename_i j hj
          rw [hj, Nat.eq_of_beq_eq_true h2]; rfl
        · simp at h2
      · simp only [Bool.or_eq_true, Bool.not_eq_true'] at h3
        rcases h3 with h3 | h3
        · have h5 : Nat.blt k n0 = true := by rw [Nat.blt_eq]; omega
          rw [h3] at h5; simp at h5
        · simpa using h3
    | succ i =>
      have := okSrc_get h4 i h (by simpa using e)
      rw [show k + (i + 1) = k + 1 + i by omega]; exact this
theorem okRho_get {src : List (Option Nat)} : ∀ {l : List (Option Nat)} {k : Nat}, okRho src l k = true → ∀ (h i : Nat), l[h]? = some (some i) → rho src i = some (k + h)
  | [], k, _ => fun i h e => by simp at e
  | none :: r, k, H => by
    intro h i e
    cases h with
    | zero => simp at e
    | succ h =>
      have := okRho_get (k := k + 1) (by simpa [okRho] using H) h i (by simpa using e)
      rw [show k + (h + 1) = k + 1 + h by omega]; exact this
  | some p :: r, k, H => by
    simp only [okRho, Bool.and_eq_true] at H
    obtain ⟨h1, h2⟩ := H
    intro h i e
    cases h with
    | zero =>
      simp at e; subst e
      split at h1
      · rename_i j hj
        rw [hj, Nat.eq_of_beq_eq_true h1]; rfl
      · simp at h1
    | succ h =>
      have := okRho_get h2 h i (by simpa using e)
      rw [show k + (h + 1) = k + 1 + h by omega]; exact this
theorem okNew_get {n0 : Nat} : ∀ {l : List (Option Nat)}, okNew n0 l = true → ∀ (i h : Nat), l[i]? = some (some h) → n0 ≤ h
  | [], _ => fun i h e => by simp at e
  | none :: r, H => fun i h e => by
    cases i with
    | zero => simp at e
    | succ i => exact okNew_get (by simpa [okNew] using H) i h (by simpa using e)
  | some p :: r, H => fun i h e => by
    simp only [okNew, Bool.and_eq_true] at H
    cases i with
    | zero => simp at e; subst e; simpa using H.1
    | succ i => exact okNew_get H.2 i h (by simpa using e)

/-- what a renaming must be like. -/
structure RenOk (n0 len : Nat) (src ρ : List (Option Nat)) : Prop where
  le : n0 ≤ len
  le2 : n0 ≤ src.length
  src_ : ∀ (i h : Nat), src[i]? = some (some h) → h < len ∧ rho ρ h = some i ∧ (i < n0 → h = i)
  rho_ : ∀ (h i : Nat), rho ρ h = some i → src[i]? = some (some h)
theorem okR_ok {n0 len : Nat} {src ρ : List (Option Nat)} (h : okR n0 len src ρ = true) : RenOk n0 len src ρ := by
  simp only [okR, Bool.and_eq_true] at h
  obtain ⟨⟨⟨h1, h2⟩, h3⟩, h4⟩ := h
  refine ⟨by simpa using h1, by simpa using h2, fun i p e => by simpa using okSrc_get h3 i p e, fun p i e => ?_⟩
  have := okRho_get h4 p i (rho_get.1 e)
  rw [Nat.zero_add] at this
  exact rho_get.1 this

theorem pickE_get {n0 len : Nat} {src ρ : List (Option Nat)} (R : RenOk n0 len src ρ) {β : List Ent} (hb : β.length = len) {d : Ent} {i h : Nat} (hi : src[i]? = some (some h)) : (pickE n0 β d src)[i]? = β[h]? := by
  have hn : (β.take n0).length = n0 := by simp [hb, R.le]
  obtain ⟨h1, _, h3⟩ := R.src_ i h hi
  unfold pickE
  rcases Nat.lt_or_ge i n0 with hl | hl
  · rw [List.getElem?_append_left (by omega), List.getElem?_take_of_lt hl, h3 hl]
  · rw [List.getElem?_append_right (by omega), hn, List.getElem?_map, List.getElem?_drop, show n0 + (i - n0) = i by omega, hi]
    have : h < β.length := by omega
    simp [pickE1, List.getElem?_eq_getElem this]
theorem pickE_len {n0 len : Nat} {src ρ : List (Option Nat)} (R : RenOk n0 len src ρ) {β : List Ent} (hb : β.length = len) {d : Ent} {r : Nat → Option Nat} {hs : HS} : (pickE n0 β d src).length = (pickH r src hs).length := by
  have := R.le; have := R.le2
  simp [pickE, pickH]; omega
theorem pickH_get {r : Nat → Option Nat} {src : List (Option Nat)} {hs : HS} {i : Nat} {b : HB} (h : (pickH r src hs)[i]? = some (some b)) : ∃ p b0, src[i]? = some (some p) ∧ hs[p]? = some (some b0) ∧ renB r b0 = some b := by
  unfold pickH at h
  rw [List.getElem?_map, Option.map_eq_some_iff] at h
  obtain ⟨o, h1, h2⟩ := h
  cases o with
  | none => simp [pick1] at h2
  | some p =>
    simp only [pick1] at h2
    split at h2
    · rename_i o ho
      obtain ⟨b0, rfl, h3⟩ := rb_some h2
      exact ⟨p, b0, h1, ho, h3⟩
    · simp at h2

theorem Emb.pick {β : List Ent} {hs : HS} {w : World} (E : Emb β hs w) {n0 : Nat} {src ρ : List (Option Nat)} (R : RenOk n0 hs.length src ρ) (d : Ent) :
    Emb (pickE n0 β d src) (pickH (rho ρ) src hs) w ∧ Goes (rho ρ) β (pickE n0 β d src) ∧ ∀ k, Own (pickE n0 β d src) (pickH (rho ρ) src hs) k → Own β hs k := by
  have G : Goes (rho ρ) β (pickE n0 β d src) := by
    intro h h' e h1 h2
    rw [pickE_get R E.len (R.rho_ h h' h1)]
    exact h2
  have key : ∀ (i : Nat) (e : Ent) (b : HB), (pickE n0 β d src)[i]? = some e → (pickH (rho ρ) src hs)[i]? = some (some b) → ∃ p b0, src[i]? = some (some p) ∧ β[p]? = some e ∧ hs[p]? = some (some b0) ∧ renB (rho ρ) b0 = some b := by
    intro i e b h1 h2
    obtain ⟨p, b0, h3, h4, h5⟩ := pickH_get h2
    rw [pickE_get R E.len h3] at h1
    exact ⟨p, b0, h3, h1, h4, h5⟩
  refine ⟨⟨pickE_len R E.len, ?_, ?_⟩, G, ?_⟩
  · intro i e b h1 h2
    obtain ⟨p, b0, _, h4, h5, h6⟩ := key i e b h1 h2
    exact renB_rel G h6 (E.blk p e b0 h4 h5)
  · intro g i e e' b b' hne h1 h2 h3 h4 heq hro
    obtain ⟨p, c, k1, k2, k3, k4⟩ := key g e b h1 h3
    obtain ⟨q, c', l1, l2, l3, l4⟩ := key i e' b' h2 h4
    have hpq : p ≠ q := by
      rintro rfl
      have a1 := (R.src_ g p k1).2.1
      have a2 := (R.src_ i p l1).2.1
      rw [a1] at a2
      exact hne (Option.some.inj a2)
    obtain ⟨c1, c2, c3⟩ := renB_same k4
    obtain ⟨d1, d2, d3⟩ := renB_same l4
    obtain ⟨s1, s2, s3⟩ := E.sep p q e e' c c' hpq k2 l2 k3 l3 heq (by rw [← d1]; exact hro)
    refine ⟨?_, by rw [c1]; exact s2, by rw [c2, d2]; exact s3⟩
    rw [d3]
    exact List.mem_filterMap.2 ⟨p, s1, (R.src_ g p k1).2.1⟩
  · rintro k ⟨i, e, b, h1, h2, h3, h4⟩
    obtain ⟨p, b0, _, l2, l3, l4⟩ := key i e b h1 h2
    exact ⟨p, e, b0, l2, l3, by rw [← (renB_same l4).1]; exact h3, h4⟩

/-- an end, named anew: the first ones stay. -/
theorem Step.pick {β0 β : List Ent} {hs0 hs : HS} {w0 w : World} (E0 : Emb β0 hs0 w0) (S : Step β0 hs0 w0 β hs w) {src ρ : List (Option Nat)} (hr : okG hs0.length hs.length src ρ = true) :
    ∃ β2, Step β0 hs0 w0 β2 (pickH (rho ρ) src hs) w ∧ Goes (rho ρ) β β2 := by
  simp only [okG, Bool.and_eq_true] at hr
  have R := okR_ok hr.1
  obtain ⟨E2, G, O⟩ := S.emb.pick R ⟨w0.heap.size, 0, 0, 0⟩
  refine ⟨_, ⟨?_, E2, S.size, S.same, fun k hk h => S.own k hk (O k h), S.os, S.output, S.tape, ?_⟩, G⟩
  · obtain ⟨γ, hγ⟩ := S.ext
    refine ⟨(src.drop hs0.length).map (pickE1 β ⟨w0.heap.size, 0, 0, 0⟩), ?_⟩
    unfold pickE
    rw [hγ, ← E0.len]
    simp
  · intro h e hl he
    have hn : (β.take hs0.length).length = hs0.length := by simp [S.emb.len, R.le]
    unfold pickE at he
    rw [List.getElem?_append_right (by rw [hn, ← E0.len]; exact hl), hn, List.getElem?_map, Option.map_eq_some_iff] at he
    obtain ⟨o, h1, h2⟩ := he
    cases o with
    | none => simp only [pickE1] at h2; subst h2; exact .inl (Nat.le_refl _)
    | some p =>
      have hp := okNew_get hr.2 _ _ h1
      simp only [pickE1] at h2
      split at h2
      · rename_i e' he'
        subst h2
        exact S.fresh p _ (by rw [E0.len]; exact hp) he'
      · subst h2; exact .inl (Nat.le_refl _)

/-- a state, named anew within a walk: what is one's own may move to new names. -/
theorem Step.move {β : List Ent} {hs : HS} {w : World} (E : Emb β hs w) {src ρ : List (Option Nat)} (hr : okR hs.length hs.length src ρ = true) (hm : ∀ h, some h ∈ src.drop hs.length → ∃ b, hs[h]? = some (some b) ∧ b.ro = false) :
    ∃ β2, Step β hs w β2 (pickH (rho ρ) src hs) w ∧ Goes (rho ρ) β β2 := by
  have R := okR_ok hr
  obtain ⟨E2, G, O⟩ := E.pick R ⟨w.heap.size, 0, 0, 0⟩
  refine ⟨_, ⟨⟨(src.drop hs.length).map (pickE1 β ⟨w.heap.size, 0, 0, 0⟩), ?_⟩, E2, Nat.le_refl _, fun _ _ _ => rfl, fun k _ h => O k h, rfl, rfl, rfl, ?_⟩, G⟩
  · unfold pickE
    rw [List.take_of_length_le (by rw [E.len]; exact Nat.le_refl _)]
  · intro h e hl he
    have hn : (β.take hs.length).length = hs.length := by simp [E.len]
    unfold pickE at he
    rw [List.getElem?_append_right (by rw [hn, ← E.len]; exact hl), hn, List.getElem?_map, Option.map_eq_some_iff] at he
    obtain ⟨o, h1, h2⟩ := he
    cases o with
    | none => simp only [pickE1] at h2; subst h2; exact .inl (Nat.le_refl _)
    | some p =>
      obtain ⟨b, hb, hb'⟩ := hm p (List.mem_of_getElem? h1)
      simp only [pickE1] at h2
      split at h2
      · rename_i e' he'
        subst h2
        exact .inr ⟨p, _, b, he', hb, hb', rfl⟩
      · subst h2; exact .inl (Nat.le_refl _)

/-- a frame under a renaming; it may know less. -/
def LessR (ρ : Nat → Option Nat) (fr0 fr : List HV) : Prop := fr0.length = fr.length ∧ ∀ (i : Nat) (x : HV), fr0[i]? = some x → x = .undef ∨ ∃ y, fr[i]? = some y ∧ renV ρ y = some x
theorem LessR.nil {ρ : Nat → Option Nat} : LessR ρ [] [] := ⟨rfl, fun i x h => by simp at h⟩
theorem LessR.undef {ρ : Nat → Option Nat} {a b : List HV} (y : HV) (h : LessR ρ a b) : LessR ρ (.undef :: a) (y :: b) := by
  refine ⟨by simp [h.1], fun i x hx => ?_⟩
  cases i with
  | zero => simp at hx; exact .inl hx.symm
  | succ i => simpa using h.2 i x (by simpa using hx)
theorem LessR.keep {ρ : Nat → Option Nat} {a b : List HV} {x y : HV} (hxy : renV ρ y = some x) (h : LessR ρ a b) : LessR ρ (x :: a) (y :: b) := by
  refine ⟨by simp [h.1], fun i z hz => ?_⟩
  cases i with
  | zero => simp at hz; subst hz; exact .inr ⟨y, by simp, hxy⟩
  | succ i => simpa using h.2 i z (by simpa using hz)
theorem LessR.rel {ρ : Nat → Option Nat} {ds : List Deferred} {β β2 : List Ent} {fr0 fr : List HV} {a : Act} (h : LessR ρ fr0 fr) (G : Goes ρ β β2) (F : FrRel ds β fr a) : FrRel ds β2 fr0 a := by
  refine ⟨by rw [h.1, F.len], fun i x hx => ?_, F.defers⟩
  rcases h.2 i x hx with rfl | ⟨y, h2, h3⟩
  · have hlt : i < a.tmps.size := by rw [← F.len, ← h.1]; exact lt_of_get hx
    exact ⟨a.tmps[i], by simp [hlt], trivial⟩
  · obtain ⟨u, h4, h5⟩ := F.get i y h2
    exact ⟨u, h4, renV_rel G y x u h3 h5⟩

section
variable {P : Program}
/-- an end of a function, its new handles named anew. -/
theorem HC.gc {f : FuncId} {args : List HV} {hs : HS} {Q : HV → HS → Prop} (h : HC P f args hs fun v hs' => ∃ src ρ, okG hs.length hs'.length src ρ = true ∧ Q (rv (rho ρ) v) (pickH (rho ρ) src hs')) : HC P f args hs Q := by
  intro β w us E R
  refine (h β w us E R).mono ?_
  rintro e w' ⟨β', u, v, hs', he, ⟨src, ρ, hr, hq⟩, hv, S⟩
  obtain ⟨β2, S2, G⟩ := Step.pick E S hr
  exact ⟨β2, u, _, _, he, hq, rv_rel G hv, S2⟩

/-- within a walk: what is one's own moves to new names. -/
theorem HW.move {ro : Option Nat} {x : HCode} {fr fr0 : List HV} {hs : HS} {Q : HExit → List HV → HS → Prop} (src ρ : List (Option Nat)) (hr : okR hs.length hs.length src ρ = true) (hm : ∀ h, some h ∈ src.drop hs.length → ∃ b, hs[h]? = some (some b) ∧ b.ro = false)
    (hl : LessR (rho ρ) fr0 fr) (hro : ro = none) (h : HWr P ro x fr0 (pickH (rho ρ) src hs) Q) : HWr P ro x fr hs Q := by
  subst hro
  intro k c hc ds β a w rb hr0 E F
  obtain ⟨β2, S, G⟩ := Step.move E hr hm
  refine Code.wpIn_mono ?_ (h k c hc ds β2 a w rb hr0 S.emb (hl.rel G F))
  rintro e a1 w1 ⟨he, β1, fr1, hs1, h1, h2, ⟨ds1, ms1, F1, M1⟩, S1⟩
  exact ⟨he, β1, fr1, hs1, h1, h2, ⟨ds1, ms1, F1, M1⟩, S.trans S1⟩

/-- a loop, by states: a round's end is named anew. -/
theorem HW.loopG (hm : P.follows .mixedOrders = true) {ro : Option Nat} {σ : Type} {fr : List HV} {hs : HS} {Q : HExit → List HV → HS → Prop} (base : σ → List HV) (heap : σ → HS) (m : σ → Nat) (J : σ → Prop) {x : HCode} (s0 : σ) (j0 : J s0) (hh : hs = heap s0) (h0 : Less (base s0) fr)
    (round : ∀ s, J s → hwp P ro x (HThen (fun fr' hs' => ∃ s' src ρ, m s' < m s ∧ J s' ∧ okG hs.length hs'.length src ρ = true ∧ heap s' = pickH (rho ρ) src hs' ∧ LessR (rho ρ) (base s') fr') Q) (base s) (heap s)) : HWr P ro (.loop x) fr hs Q := by
  intro k c' hc ds β a w rb hr0 E F
  obtain ⟨c1, rfl, h1⟩ := cCode_loop hc
  refine wpIn_loop_ghost (fun n a w' => ∃ β' s, n = m s ∧ J s ∧ (∃ ds' ms, FrRel ds' β' (base s) a ∧ Marks w ds ds' β' (heap s) w' ms) ∧ Step β hs w β' (heap s) w') (m s0) ⟨β, s0, rfl, j0, ⟨_, _, h0.rel F, .refl⟩, by rw [← hh]; exact Step.refl E⟩ ?_
  rintro n a1 w1 ⟨β1, s, rfl, hJ, ⟨ds1, ms1, F1, M1⟩, S1⟩
  refine Code.wpIn_mono ?_ (hwp_sound hm (round s hJ) k c1 h1 ds1 β1 a1 w1 rb (hr0.ext S1.ext) S1.emb F1)
  rintro e a2 w2 ⟨he, β2, fr2, hs2, rfl, q, ⟨ds2, ms2, F2, M2⟩, S2⟩
  have M := M1.trans S1.size S2 M2
  cases he with
  | normal =>
    obtain ⟨s', src, ρ, hlt, hJ', hr, heq, hl⟩ := q
    have S12 := S1.trans S2
    obtain ⟨β3, S3, G⟩ := Step.pick E S12 hr
    have O : ∀ k, Own β3 (pickH (rho ρ) src hs2) k → k < w2.heap.size → Own β2 hs2 k := by
      rintro k ⟨i, e, b, g1, g2, g3, g4⟩ _
      obtain ⟨p, b0, l1, l2, l3⟩ := pickH_get g2
      simp only [okG, Bool.and_eq_true] at hr
      have R := okR_ok hr.1
      have hp := (R.src_ i p l1)
      have hlp : p < β2.length := by rw [S12.emb.len]; exact hp.1
      have := G p i _ hp.2.1 (List.getElem?_eq_getElem hlp)
      rw [g1] at this
      exact ⟨p, e, b0, by rw [List.getElem?_eq_getElem hlp, ← this], l2, by rw [← (renB_same l3).1]; exact g3, g4⟩
    refine ⟨m s', hlt, β3, s', rfl, hJ', ⟨ds2, _, hl.rel G F2, ⟨M.eq, M.nodup, fun D hD => ?_⟩⟩, by rw [heq]; exact S3⟩
    obtain ⟨g1, g2, g3⟩ := M.at_ D hD
    exact ⟨g1, g2, fun h => g3 (O D (by rw [← heq]; exact h) (lt_of_geta g2))⟩
  | exit id => exact ⟨.exit id, β2, fr2, hs2, rfl, q, ⟨_, _, F2, M⟩, S1.trans S2⟩
  | ret => exact ⟨.ret, β2, fr2, hs2, rfl, q, ⟨_, _, F2, M⟩, S1.trans S2⟩
end
end Go.HL
