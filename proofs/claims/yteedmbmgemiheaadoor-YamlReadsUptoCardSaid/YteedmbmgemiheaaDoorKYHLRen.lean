/-
  HL: handles that nobody reaches are let go, the others are counted anew.
-/
import Derived.Test.YteedmbmgemiheaaDoorKYHLTree
import Derived.Test.YteedmbmgemiheaaDoorKYHLFun
namespace Go.HL
open Go

mutual
def renV (ρ : Nat → Option Nat) : HV → Option HV
  | .undef => some .undef
  | .bool b => some (.bool b)
  | .int k n => some (.int k n)
  | .str s => some (.str s)
  | .ptr h o => match ρ h with
    | some h' => some (.ptr h' o)
    | none => none
  | .nilPtr => some .nilPtr
  | .slice h o n c => match ρ h with
    | some h' => some (.slice h' o n c)
    | none => none
  | .nilSlice => some .nilSlice
  | .map h => match ρ h with
    | some h' => some (.map h')
    | none => none
  | .nilMap => some .nilMap
  | .func fn a b => match renL ρ a, renL ρ b with
    | some a', some b' => some (.func fn a' b')
    | _, _ => none
  | .nilFunc => some .nilFunc
  | .iface t x => match renV ρ x with
    | some x' => some (.iface t x')
    | none => none
  | .nilIface => some .nilIface
  | .agg l => match renL ρ l with
    | some l' => some (.agg l')
    | none => none
  | .tup l => match renL ρ l with
    | some l' => some (.tup l')
    | none => none
  | .yld h => match ρ h with
    | some h' => some (.yld h')
    | none => none
def renL (ρ : Nat → Option Nat) : List HV → Option (List HV)
  | [] => some []
  | x :: r => match renV ρ x with
    | none => none
    | some x' => match renL ρ r with
      | none => none
      | some r' => some (x' :: r')
end

/-- the new account knows the same blocks. -/
def Goes (ρ : Nat → Option Nat) (β β2 : List Ent) : Prop := ∀ (h h' : Nat) (e : Ent), ρ h = some h' → β[h]? = some e → β2[h']? = some e

mutual
theorem renV_rel {ρ : Nat → Option Nat} {β β2 : List Ent} (G : Goes ρ β β2) : ∀ (x y : HV) (u : Value), renV ρ x = some y → Rel β x u → Rel β2 y u
  | .undef, y, u, h, r => by simp [renV] at h; subst h; trivial
  | .bool b, y, u, h, r => by simp [renV] at h; subst h; exact r
  | .int k n, y, u, h, r => by simp [renV] at h; subst h; exact r
  | .str s, y, u, h, r => by simp [renV] at h; subst h; exact r
  | .ptr p o, y, u, h, r => by
    simp only [renV] at h
    split at h
    · rename_i h' hh
      simp at h; subst h
      simp only [Rel] at r ⊢
      obtain ⟨e, he, hv⟩ := r
      exact ⟨e, G _ _ _ hh he, hv⟩
    · simp at h
  | .nilPtr, y, u, h, r => by simp [renV] at h; subst h; exact r
  | .slice p o n c, y, u, h, r => by
    simp only [renV] at h
    split at h
    · rename_i h' hh
      simp at h; subst h
      simp only [Rel] at r ⊢
      obtain ⟨e, a, c', he, hv⟩ := r
      exact ⟨e, a, c', G _ _ _ hh he, hv⟩
    · simp at h
  | .nilSlice, y, u, h, r => by simp [renV] at h; subst h; exact r
  | .map p, y, u, h, r => by
    simp only [renV] at h
    split at h
    · rename_i h' hh
      simp at h; subst h
      simp only [Rel] at r ⊢
      obtain ⟨e, he, hv⟩ := r
      exact ⟨e, G _ _ _ hh he, hv⟩
    · simp at h
  | .nilMap, y, u, h, r => by simp [renV] at h; subst h; exact r
  | .func fn a b, y, u, h, r => by
    simp only [renV] at h
    split at h
    · rename_i a' b' h1 h2
      simp at h; subst h
      simp only [Rel] at r ⊢
      obtain ⟨us, ws, hv, r1, r2, r3⟩ := r
      exact ⟨us, ws, hv, renL_rel G a a' _ h1 r1, renL_rel G b b' _ h2 r2, r3⟩
    · simp at h
  | .nilFunc, y, u, h, r => by simp [renV] at h; subst h; exact r
  | .iface t x, y, u, h, r => by
    simp only [renV] at h
    split at h
    · rename_i x' h1
      simp at h; subst h
      simp only [Rel] at r ⊢
      obtain ⟨w, hv, r1⟩ := r
      exact ⟨w, hv, renV_rel G x x' _ h1 r1⟩
    · simp at h
  | .nilIface, y, u, h, r => by simp [renV] at h; subst h; exact r
  | .agg l, y, u, h, r => by
    simp only [renV] at h
    split at h
    · rename_i l' h1
      simp at h; subst h
      simp only [Rel] at r ⊢
      obtain ⟨us, hv, r1⟩ := r
      exact ⟨us, hv, renL_rel G l l' _ h1 r1⟩
    · simp at h
  | .tup l, y, u, h, r => by
    simp only [renV] at h
    split at h
    · rename_i l' h1
      simp at h; subst h
      simp only [Rel] at r ⊢
      obtain ⟨us, hv, r1⟩ := r
      exact ⟨us, hv, renL_rel G l l' _ h1 r1⟩
    · simp at h
  | .yld p, y, u, h, r => by
    simp only [renV] at h
    split at h
    · rename_i h' hh
      simp at h; subst h
      simp only [Rel] at r ⊢
      obtain ⟨e, he, hv⟩ := r
      exact ⟨e, G _ _ _ hh he, hv⟩
    · simp at h
theorem renL_rel {ρ : Nat → Option Nat} {β β2 : List Ent} (G : Goes ρ β β2) : ∀ (x y : List HV) (u : List Value), renL ρ x = some y → RelL β x u → RelL β2 y u
  | [], y, u, h, r => by simp [renL] at h; subst h; exact r
  | x :: l, y, u, h, r => by
    simp only [renL] at h
    split at h
    · simp at h
    · rename_i x' h1
      split at h
      · simp at h
      · rename_i l' h2
        simp at h; subst h
        simp only [RelL] at r ⊢
        obtain ⟨v, us, hv, r1, r2⟩ := r
        exact ⟨v, us, hv, renV_rel G x x' _ h1 r1, renL_rel G l l' _ h2 r2⟩
end

theorem renV_one {ρ : Nat → Option Nat} {x y : HV} (h : renV ρ x = some y) : y.one = x.one := by
  cases x <;> simp only [renV] at h <;> (try (split at h <;> simp at h)) <;> (try simp at h) <;> subst h <;> rfl

theorem renL_get {ρ : Nat → Option Nat} : ∀ {l l' : List HV}, renL ρ l = some l' → l'.length = l.length ∧ ∀ (i : Nat) (y : HV), l'[i]? = some y → ∃ x, l[i]? = some x ∧ renV ρ x = some y
  | [], l', h => by simp [renL] at h; subst h; exact ⟨rfl, fun i y h => by simp at h⟩
  | x :: l, l', h => by
    simp only [renL] at h
    split at h
    · simp at h
    · rename_i x' h1
      split at h
      · simp at h
      · rename_i r' h2
        simp at h; subst h
        obtain ⟨g1, g2⟩ := renL_get h2
        refine ⟨by simp [g1], fun i y hy => ?_⟩
        cases i with
        | zero => simp at hy; subst hy; exact ⟨x, by simp, h1⟩
        | succ i => simpa using g2 i y (by simpa using hy)

def renE (ρ : Nat → Option Nat) : List (HV × HV × Nat) → Option (List (HV × HV × Nat))
  | [] => some []
  | (k, v, n) :: r => match renV ρ k, renV ρ v, renE ρ r with
    | some k', some v', some r' => some ((k', v', n) :: r')
    | _, _, _ => none

theorem renE_rel {ρ : Nat → Option Nat} {β β2 : List Ent} (G : Goes ρ β β2) : ∀ (x y : List (HV × HV × Nat)) (u : List MapEntry), renE ρ x = some y → RelE β x u → RelE β2 y u
  | [], y, u, h, r => by simp [renE] at h; subst h; exact r
  | (k, v, n) :: l, y, u, h, r => by
    simp only [renE] at h
    split at h
    · rename_i k' v' r' h1 h2 h3
      simp at h; subst h
      simp only [RelE] at r ⊢
      obtain ⟨e, es, hu, r1, r2, r3, r4⟩ := r
      exact ⟨e, es, hu, renV_rel G _ _ _ h1 r1, renV_rel G _ _ _ h2 r2, r3, renE_rel G _ _ _ h3 r4⟩
    · simp at h

def renB (ρ : Nat → Option Nat) : HB → Option HB
  | .cells s cs ro opn olds => match renL ρ cs with
    | some cs' => some (.cells s cs' ro opn (olds.filterMap ρ))
    | none => none
  | .map es clock => match renE ρ es with
    | some es' => some (.map es' clock)
    | none => none
  | .siter s pos => some (.siter s pos)
  | .miter none since seen stepped => some (.miter none since seen stepped)
  | .miter (some m) since seen stepped => match ρ m with
    | some m' => some (.miter (some m') since seen stepped)
    | none => none
  | .gint g => some (.gint g)
  | .gpin g h => match ρ h with
    | some h' => some (.gpin g h')
    | none => none
  | .gtab g k zs => some (.gtab g k zs)
  | .kbox h => match ρ h with
    | some h' => some (.kbox h')
    | none => none
  | .loop st pend fr ps a b => match renL ρ fr with
    | some fr' => some (.loop st pend fr' ps a b)
    | none => none

theorem renB_rel {ρ : Nat → Option Nat} {β β2 : List Ent} (G : Goes ρ β β2) {w : World} {e : Ent} {b b' : HB} (h : renB ρ b = some b') (r : BlkRel β w e b) : BlkRel β2 w e b' := by
  cases b with
  | cells s cs ro opn olds =>
    simp only [renB] at h
    split at h
    · rename_i cs' h1
      simp at h; subst h
      obtain ⟨hs, cur, t, fz, r1, r2, r3, r4, r5⟩ := r
      obtain ⟨g1, g2⟩ := renL_get h1
      refine ⟨hs, cur, t, fz, r1, r2, r3, by rw [g1]; exact r4, fun i y hy => ?_⟩
      obtain ⟨x, hx, hxy⟩ := g2 i y hy
      obtain ⟨u, q1, q2, q3⟩ := r5 i x hx
      exact ⟨u, q1, renV_rel G x y u hxy q2, by rw [renV_one hxy]; exact q3⟩
    · simp at h
  | map es clock =>
    simp only [renB] at h
    split at h
    · rename_i es' h1
      simp at h; subst h
      obtain ⟨res, r1, r2⟩ := r
      exact ⟨res, r1, renE_rel G _ _ _ h1 r2⟩
    · simp at h
  | siter s pos => simp [renB] at h; subst h; exact r
  | gint g => simp [renB] at h; subst h; exact r
  | gtab g k zs => simp [renB] at h; subst h; exact r
  | gpin g p =>
    simp only [renB] at h
    split at h
    · rename_i h' hh
      simp at h; subst h
      obtain ⟨r1, r2, r3, e', r4, r5⟩ := r
      exact ⟨r1, r2, r3, e', G _ _ _ hh r4, r5⟩
    · simp at h
  | kbox p =>
    simp only [renB] at h
    split at h
    · rename_i h' hh
      simp at h; subst h
      obtain ⟨r0, t, fz, e', r1, r2⟩ := r
      exact ⟨r0, t, fz, e', r1, G _ _ _ hh r2⟩
    · simp at h
  | loop st pend fr ps a b =>
    simp only [renB] at h
    split at h
    · rename_i fr' hh
      simp at h; subst h
      obtain ⟨rr, h1, h2, h3, h4, h5, h6, h7, h8⟩ := r
      obtain ⟨g1, g2⟩ := renL_get hh
      refine ⟨rr, h1, h2, h3, h4, h5, h6, by rw [g1]; exact h7, fun i y hy => ?_⟩
      obtain ⟨x, hx, hxy⟩ := g2 i y hy
      obtain ⟨u, q1, q2⟩ := h8 i x hx
      exact ⟨u, q1, renV_rel G x y u hxy q2⟩
    · simp at h
  | miter m since seen stepped =>
    cases m with
    | none => simp [renB] at h; subst h; exact r
    | some m =>
      simp only [renB] at h
      split at h
      · rename_i m' hh
        simp at h; subst h
        obtain ⟨r0, mb, r1, e', r2, r3⟩ := r
        exact ⟨r0, mb, r1, e', G _ _ _ hh r2, r3⟩
      · simp at h

theorem renB_same {ρ : Nat → Option Nat} {b b' : HB} (h : renB ρ b = some b') : b'.ro = b.ro ∧ b'.clen = b.clen ∧ b'.olds = b.olds.filterMap ρ := by
  cases b with
  | cells s cs ro opn olds =>
    simp only [renB] at h
    split at h
    · rename_i cs' h1
      simp at h; subst h
      exact ⟨rfl, (renL_get h1).1, rfl⟩
    · simp at h
  | map es clock =>
    simp only [renB] at h
    split at h
    · simp at h; subst h; exact ⟨rfl, rfl, rfl⟩
    · simp at h
  | siter s pos => simp [renB] at h; subst h; exact ⟨rfl, rfl, rfl⟩
  | gint g => simp [renB] at h; subst h; exact ⟨rfl, rfl, rfl⟩
  | gtab g k zs => simp [renB] at h; subst h; exact ⟨rfl, rfl, rfl⟩
  | gpin g p =>
    simp only [renB] at h
    split at h
    · simp at h; subst h; exact ⟨rfl, rfl, rfl⟩
    · simp at h
  | kbox p =>
    simp only [renB] at h
    split at h
    · simp at h; subst h; exact ⟨rfl, rfl, rfl⟩
    · simp at h
  | loop st pend fr ps a b =>
    simp only [renB] at h
    split at h
    · simp at h; subst h; exact ⟨rfl, rfl, rfl⟩
    · simp at h
  | miter m since seen stepped =>
    cases m with
    | none => simp [renB] at h; subst h; exact ⟨rfl, rfl, rfl⟩
    | some m =>
      simp only [renB] at h
      split at h
      · simp at h; subst h; exact ⟨rfl, rfl, rfl⟩
      · simp at h

/-! ### which are kept -/
/-- the kept ones: the first n0, then these. -/
def keptAt (n0 : Nat) (order : List Nat) (i : Nat) : Option Nat := if i < n0 then some i else order[i - n0]?

def posIn (l : List Nat) (h : Nat) (k : Nat) : Option Nat :=
  match l with
  | [] => none
  | x :: r => if Nat.beq x h then some k else posIn r h (k + 1)

def renOf (n0 : Nat) (order : List Nat) (h : Nat) : Option Nat := if Nat.blt h n0 then some h else posIn order h n0

theorem posIn_some : ∀ {l : List Nat} {h k j : Nat}, posIn l h k = some j → k ≤ j ∧ l[j - k]? = some h
  | [], h, k, j, hh => by simp [posIn] at hh
  | x :: r, h, k, j, hh => by
    unfold posIn at hh
    split at hh
    · rename_i hx
      simp at hh; subst hh
      have : x = h := Nat.eq_of_beq_eq_true hx
      subst this
      simp
    · obtain ⟨h1, h2⟩ := posIn_some hh
      refine ⟨by omega, ?_⟩
      rw [show j - k = (j - (k + 1)) + 1 by omega]
      simpa using h2

theorem posIn_get : ∀ {l : List Nat}, l.Nodup → ∀ {i h : Nat} (k : Nat), l[i]? = some h → posIn l h k = some (k + i)
  | [], _, i, h, k, hi => by simp at hi
  | x :: r, hn, i, h, k, hi => by
    rw [List.nodup_cons] at hn
    unfold posIn
    cases i with
    | zero =>
      simp at hi; subst hi
      rw [if_pos (Nat.beq_refl _)]; rfl
    | succ i =>
      have hi' : r[i]? = some h := by simpa using hi
      have hne : ¬ Nat.beq x h = true := fun e => by
        have := Nat.eq_of_beq_eq_true e
        subst this
        exact hn.1 (List.mem_of_getElem? hi')
      rw [if_neg hne, posIn_get hn.2 (k + 1) hi']
      congr 1; omega

/-- order is fit: each once, new, there. -/
structure Fit0 (n0 len : Nat) (order : List Nat) : Prop where
  nodup : order.Nodup
  low : ∀ h ∈ order, n0 ≤ h ∧ h < len

theorem renOf_kept {n0 len : Nat} {order : List Nat} (F : Fit0 n0 len order) {h i : Nat} : renOf n0 order h = some i ↔ keptAt n0 order i = some h := by
  unfold renOf keptAt
  constructor
  · intro hh
    split at hh
    · rename_i hl
      simp at hh; subst hh
      rw [if_pos (by simpa [Nat.blt_eq] using hl)]
    · rename_i hl
      obtain ⟨h1, h2⟩ := posIn_some hh
      rw [if_neg (by omega)]
      exact h2
  · intro hh
    split at hh
    · rename_i hl
      simp at hh; subst hh
      rw [if_pos (by simpa [Nat.blt_eq] using hl)]
    · rename_i hl
      have hm := List.mem_of_getElem? hh
      have := F.low h hm
      rw [if_neg (by rw [Nat.blt_eq]; omega), posIn_get F.nodup n0 hh]
      congr 1; omega

def renO (ρ : Nat → Option Nat) : Option HB → Option (Option HB)
  | none => some none
  | some b => match renB ρ b with
    | some b' => some (some b')
    | none => none

def renS (ρ : Nat → Option Nat) : HS → Option HS
  | [] => some []
  | b :: r => match renO ρ b with
    | none => none
    | some b' => match renS ρ r with
      | none => none
      | some r' => some (b' :: r')

theorem renS_get {ρ : Nat → Option Nat} : ∀ {l l' : HS}, renS ρ l = some l' → l'.length = l.length ∧ ∀ (i : Nat) (y : HB), l'[i]? = some (some y) → ∃ x, l[i]? = some (some x) ∧ renB ρ x = some y
  | [], l', h => by simp [renS] at h; subst h; exact ⟨rfl, fun i y h => by simp at h⟩
  | x :: l, l', h => by
    simp only [renS] at h
    split at h
    · simp at h
    · rename_i x' h1
      split at h
      · simp at h
      · rename_i r' h2
        simp at h; subst h
        obtain ⟨g1, g2⟩ := renS_get h2
        refine ⟨by simp [g1], fun i y hy => ?_⟩
        cases i with
        | zero =>
          simp at hy; subst hy
          cases x with
          | none => simp [renO] at h1
          | some b =>
            simp only [renO] at h1
            split at h1
            · rename_i b' hb
              simp at h1; subst h1
              exact ⟨b, by simp, hb⟩
            · simp at h1
        | succ i => simpa using g2 i y (by simpa using hy)

def pickS (hs : HS) (order : List Nat) : HS := order.map fun h => (hs[h]?).getD none
def pickB (β : List Ent) (order : List Nat) : List Ent := order.map fun h => (β[h]?).getD default

theorem kept_hs {hs : HS} {n0 : Nat} {order : List Nat} (hn : n0 ≤ hs.length) {i : Nat} {b : HB} (h : (hs.take n0 ++ pickS hs order)[i]? = some (some b)) : ∃ h, keptAt n0 order i = some h ∧ hs[h]? = some (some b) := by
  unfold keptAt
  have hl : (hs.take n0).length = n0 := by simp [hn]
  by_cases hi : i < n0
  · rw [List.getElem?_append_left (by omega), List.getElem?_take_of_lt hi] at h
    exact ⟨i, by rw [if_pos hi], h⟩
  · rw [List.getElem?_append_right (by omega), hl] at h
    unfold pickS at h
    rw [List.getElem?_map, Option.map_eq_some_iff] at h
    obtain ⟨p, hp, hb⟩ := h
    refine ⟨p, by rw [if_neg hi]; exact hp, ?_⟩
    cases hq : hs[p]? with
    | none => rw [hq] at hb; simp at hb
    | some o => rw [hq] at hb; simp at hb; rw [hb]

theorem kept_ent {β : List Ent} {n0 : Nat} {order : List Nat} (hn : n0 ≤ β.length) (F : Fit0 n0 β.length order) {i h : Nat} (hk : keptAt n0 order i = some h) : (β.take n0 ++ pickB β order)[i]? = β[h]? := by
  unfold keptAt at hk
  have hl : (β.take n0).length = n0 := by simp [hn]
  split at hk
  · rename_i hi
    simp at hk; subst hk
    rw [List.getElem?_append_left (by omega), List.getElem?_take_of_lt hi]
  · rename_i hi
    rw [List.getElem?_append_right (by omega), hl]
    unfold pickB
    rw [List.getElem?_map, hk]
    have := (F.low h (List.mem_of_getElem? hk)).2
    simp [List.getElem?_eq_getElem this]

theorem Step.ren {β0 β : List Ent} {hs0 hs hs2 : HS} {w0 w : World} (E0 : Emb β0 hs0 w0) (S : Step β0 hs0 w0 β hs w) {order : List Nat} (F : Fit0 hs0.length hs.length order)
    (hr : renS (renOf hs0.length order) (hs.take hs0.length ++ pickS hs order) = some hs2) :
    Step β0 hs0 w0 (β.take hs0.length ++ pickB β order) hs2 w ∧ Goes (renOf hs0.length order) β (β.take hs0.length ++ pickB β order) := by
  have hlen : hs0.length ≤ hs.length := by
    have := S.ext.length
    rw [E0.len, S.emb.len] at this
    exact this
  have hnb : hs0.length ≤ β.length := by rw [S.emb.len]; exact hlen
  have Fb : Fit0 hs0.length β.length order := by rw [S.emb.len]; exact F
  have G : Goes (renOf hs0.length order) β (β.take hs0.length ++ pickB β order) := by
    intro h h' e hρ he
    rw [kept_ent hnb Fb ((renOf_kept F).1 hρ)]
    exact he
  obtain ⟨g1, g2⟩ := renS_get hr
  have key : ∀ (i : Nat) (e : Ent) (b : HB), (β.take hs0.length ++ pickB β order)[i]? = some e → hs2[i]? = some (some b) → ∃ h b0, keptAt hs0.length order i = some h ∧ β[h]? = some e ∧ hs[h]? = some (some b0) ∧ renB (renOf hs0.length order) b0 = some b := by
    intro i e b h1 h2
    obtain ⟨b0, h3, h4⟩ := g2 i b h2
    obtain ⟨h, h5, h6⟩ := kept_hs hlen h3
    rw [kept_ent hnb Fb h5] at h1
    exact ⟨h, b0, h5, h1, h6, h4⟩
  have hbl : (β.take hs0.length ++ pickB β order).length = hs2.length := by
    rw [g1]
    simp [pickB, pickS, S.emb.len]
  have hfr : ∀ (h : Nat) (e : Ent), β0.length ≤ h → (β.take hs0.length ++ pickB β order)[h]? = some e → w0.heap.size ≤ e.blk ∨ Own β0 hs0 e.blk := by
    intro h e hl he
    have htl : (β.take hs0.length).length = hs0.length := by simp [hnb]
    rw [List.getElem?_append_right (by rw [htl, ← E0.len]; exact hl), htl] at he
    unfold pickB at he
    rw [List.getElem?_map, Option.map_eq_some_iff] at he
    obtain ⟨p, hp, he⟩ := he
    obtain ⟨l1, l2⟩ := F.low p (List.mem_of_getElem? hp)
    rw [← S.emb.len] at l2
    rw [List.getElem?_eq_getElem l2] at he
    exact S.fresh p e (by rw [E0.len]; exact l1) (by rw [List.getElem?_eq_getElem l2]; simpa using he)
  refine ⟨⟨?_, ⟨hbl, ?_, ?_⟩, S.size, S.same, ?_, S.os, S.output, S.tape, hfr⟩, G⟩
  · obtain ⟨γ, hγ⟩ := S.ext
    refine ⟨pickB β order, ?_⟩
    rw [hγ, ← E0.len]
    simp
  · intro i e b h1 h2
    obtain ⟨h, b0, _, h4, h5, h6⟩ := key i e b h1 h2
    exact renB_rel G h6 (S.emb.blk h e b0 h4 h5)
  · intro g i e e' b b' hne h1 h2 h3 h4 heq hro
    obtain ⟨p, c, k1, k2, k3, k4⟩ := key g e b h1 h3
    obtain ⟨q, d, l1, l2, l3, l4⟩ := key i e' b' h2 h4
    have hpq : p ≠ q := by
      rintro rfl
      have a1 := (renOf_kept F).2 k1
      have a2 := (renOf_kept F).2 l1
      rw [a1] at a2
      exact hne (Option.some.inj a2)
    obtain ⟨c1, c2, c3⟩ := renB_same k4
    obtain ⟨d1, d2, d3⟩ := renB_same l4
    obtain ⟨s1, s2, s3⟩ := S.emb.sep p q e e' c d hpq k2 l2 k3 l3 heq (by rw [← d1]; exact hro)
    refine ⟨?_, by rw [c1]; exact s2, by rw [c2, d2]; exact s3⟩
    rw [d3]
    exact List.mem_filterMap.2 ⟨p, s1, (renOf_kept F).2 k1⟩
  · rintro k hk ⟨i, e, b, h1, h2, h3, h4⟩
    obtain ⟨h, b0, _, l2, l3, l4⟩ := key i e b h1 h2
    exact S.own k hk ⟨h, e, b0, l2, l3, by rw [← (renB_same l4).1]; exact h3, h4⟩

/-! ### which are reached -/
mutual
def refsV : HV → List Nat
  | .ptr h _ | .slice h _ _ _ | .map h | .yld h => [h]
  | .func _ a b => refsL a ++ refsL b
  | .iface _ x => refsV x
  | .agg l | .tup l => refsL l
  | _ => []
def refsL : List HV → List Nat
  | [] => []
  | x :: r => refsV x ++ refsL r
end
def refsE : List (HV × HV × Nat) → List Nat
  | [] => []
  | (k, v, _) :: r => refsV k ++ (refsV v ++ refsE r)
def refsB : HB → List Nat
  | .cells _ cs _ _ _ => refsL cs
  | .map es _ => refsE es
  | .miter (some m) _ _ _ => [m]
  | .gpin _ h | .kbox h => [h]
  | .loop _ _ fr _ _ _ => refsL fr
  | _ => []
def refsO : Option HB → List Nat
  | some b => refsB b
  | none => []
def refsS : HS → List Nat
  | [] => []
  | b :: r => refsO b ++ refsS r

def hasN (l : List Nat) (h : Nat) : Bool :=
  match l with
  | [] => false
  | x :: r => Nat.beq x h || hasN r h
theorem hasN_false : ∀ {l : List Nat} {h : Nat}, hasN l h = false → h ∉ l
  | [], h, _ => by simp
  | x :: r, h, hh => by
    simp only [hasN, Bool.or_eq_false_iff] at hh
    rw [List.mem_cons]
    rintro (rfl | h2)
    · simp [Nat.beq_refl] at hh
    · exact hasN_false hh.2 h2

def visit (n0 : Nat) (hs : HS) : Nat → List Nat → List Nat → List Nat
  | 0, _, order => order
  | _ + 1, [], order => order
  | n + 1, h :: todo, order =>
    if Nat.blt h n0 || hasN order h then visit n0 hs n todo order
    else match hs[h]? with
      | none => visit n0 hs n todo order
      | some o => visit n0 hs n (refsO o ++ todo) (order ++ [h])

theorem visit_fit {n0 : Nat} {hs : HS} : ∀ (n : Nat) (todo order : List Nat), Fit0 n0 hs.length order → Fit0 n0 hs.length (visit n0 hs n todo order)
  | 0, _, order, F => F
  | n + 1, [], order, F => F
  | n + 1, h :: todo, order, F => by
    unfold visit
    split
    · exact visit_fit n todo order F
    · rename_i hc
      split
      · exact visit_fit n todo order F
      · rename_i o ho
        refine visit_fit n _ _ ⟨?_, ?_⟩
        · rw [List.nodup_append]
          refine ⟨F.nodup, by simp, fun a ha b hb => ?_⟩
          simp at hb; subst hb
          rintro rfl
          have hc2 : hasN order a = false := by
            cases hx : hasN order a with
            | false => rfl
            | true => simp [hx] at hc
          exact hasN_false hc2 ha
        · intro x hx
          rcases List.mem_append.1 hx with hx | hx
          · exact F.low x hx
          · simp at hx; subst hx
            have hc1 : Nat.blt x n0 = false := by
              cases hx : Nat.blt x n0 with
              | false => rfl
              | true => simp [hx] at hc
            refine ⟨?_, lt_of_get ho⟩
            rcases Nat.lt_or_ge x n0 with hl | hl
            · rw [show Nat.blt x n0 = true from by rw [Nat.blt_eq]; exact hl] at hc1; simp at hc1
            · exact hl

/-- an end of a call, its new handles counted anew. -/
def canonE (hs : HS) (r : HV × HS) : HV × HS :=
  match r.2.drop hs.length with
  | [] => r
  | _ :: _ => match visit hs.length r.2 4000 (refsV r.1 ++ refsS (r.2.take hs.length)) [] with
  | order => match renV (renOf hs.length order) r.1, renS (renOf hs.length order) (r.2.take hs.length ++ pickS r.2 order) with
    | some v, some hs2 => (v, hs2)
    | _, _ => r

theorem canon_end {β β' : List Ent} {hs hs' : HS} {w w' : World} {v : HV} {u : Value} (E : Emb β hs w) (S : Step β hs w β' hs' w') (hr : Rel β' v u) : ∃ β2, Rel β2 (canonE hs (v, hs')).1 u ∧ Step β hs w β2 (canonE hs (v, hs')).2 w' := by
  unfold canonE
  simp only
  split
  · exact ⟨β', hr, S⟩
  split
  · rename_i v2 hs2 h1 h2
    have F : Fit0 hs.length hs'.length (visit hs.length hs' 4000 (refsV v ++ refsS (hs'.take hs.length)) []) := visit_fit _ _ _ ⟨by simp, by simp⟩
    obtain ⟨S2, G⟩ := Step.ren E S F h2
    exact ⟨_, renV_rel G v v2 u h1 hr, S2⟩
  · exact ⟨β', hr, S⟩
end Go.HL
