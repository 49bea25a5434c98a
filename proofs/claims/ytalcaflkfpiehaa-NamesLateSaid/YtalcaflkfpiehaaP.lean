/-
  Texts in their order: plain lists.
-/
import Derived.Test.YtalcaflkfpiehaaHLOps
namespace Go.Proofs.Ytalcaflkfpiehaa
open Go Go.HL
namespace B
theorem bless_lt : ∀ a b : List UInt8, bless a b = true ↔ a < b
  | a, [] => by
    have : ¬ a < [] := by simp
    cases a <;> simp [bless]
  | [], b :: y => by simp [bless]
  | a :: x, b :: y => by
    rw [List.cons_lt_cons_iff, ← bless_lt x y]
    simp [bless]
theorem le_bless (a b : List UInt8) : decide (a ≤ b) = !bless b a := by
  have h : a ≤ b ↔ ¬ b < a := by rw [List.not_lt]
  rw [← bless_lt] at h
  cases hb : bless b a
  · have : a ≤ b := h.2 (by rw [hb]; simp)
    simp [this]
  · have : ¬ a ≤ b := fun hle => h.1 hle hb
    simp [this]
theorem bless_asymm : ∀ a b : List UInt8, bless a b = true → bless b a = false
  | a, [], h => by cases a <;> simp [bless] at h
  | [], b :: y, _ => by simp [bless]
  | a :: x, b :: y, h => by
    simp only [bless, Bool.or_eq_true, Bool.and_eq_true, decide_eq_true_eq, beq_iff_eq] at h
    simp only [bless, Bool.or_eq_false_iff, Bool.and_eq_false_iff, decide_eq_false_iff_not, beq_eq_false_iff_ne]
    rcases h with h | ⟨rfl, h⟩
    · refine ⟨fun h2 => ?_, .inl fun e => ?_⟩
      · rw [UInt8.lt_iff_toNat_lt] at h h2; omega
      · subst e; rw [UInt8.lt_iff_toNat_lt] at h; omega
    · exact ⟨fun h2 => by rw [UInt8.lt_iff_toNat_lt] at h2; omega, .inr (bless_asymm x y h)⟩
theorem bless_total : ∀ a b : List UInt8, bless a b = false → bless b a = false → a = b
  | [], [], _, _ => rfl
  | _ :: _, [], _, h => by simp [bless] at h
  | [], _ :: _, h, _ => by simp [bless] at h
  | a :: x, b :: y, h1, h2 => by
    simp only [bless, Bool.or_eq_false_iff, Bool.and_eq_false_iff, decide_eq_false_iff_not, beq_eq_false_iff_ne] at h1 h2
    have hab : a = b := by
      apply UInt8.toNat_inj.1
      have q1 := h1.1; have q2 := h2.1
      rw [UInt8.lt_iff_toNat_lt] at q1 q2
      omega
    subst hab
    rw [bless_total x y (h1.2.resolve_left (by simp)) (h2.2.resolve_left (by simp))]
theorem bless_trans : ∀ a b c : List UInt8, bless a b = true → bless b c = true → bless a c = true
  | [], [], _, h, _ => by simp [bless] at h
  | _ :: _, [], _, h, _ => by simp [bless] at h
  | _, _ :: _, [], _, h => by simp [bless] at h
  | [], _ :: _, _ :: _, _, _ => by simp [bless]
  | a :: x, b :: y, c :: z, h1, h2 => by
    simp only [bless, Bool.or_eq_true, Bool.and_eq_true, decide_eq_true_eq, beq_iff_eq] at h1 h2 ⊢
    rcases h1 with h1 | ⟨rfl, h1⟩
    · rcases h2 with h2 | ⟨rfl, h2⟩
      · exact .inl (by rw [UInt8.lt_iff_toNat_lt] at *; omega)
      · exact .inl h1
    · rcases h2 with h2 | ⟨rfl, h2⟩
      · exact .inl h2
      · exact .inr ⟨rfl, bless_trans x y z h1 h2⟩
def sorted (l : List (List UInt8)) : List (List UInt8) := l.mergeSort fun x y => decide (x ≤ y)
theorem sorted_perm (l : List (List UInt8)) : (sorted l).Perm l := List.mergeSort_perm _ _
theorem sorted_pair (l : List (List UInt8)) : (sorted l).Pairwise fun a b => decide (a ≤ b) = true := by
  refine List.pairwise_mergeSort (fun a b c h1 h2 => ?_) (fun a b => ?_) l
  · rw [le_bless] at *
    cases h : bless c a
    · rfl
    · exfalso
      simp at h1 h2
      cases hab : bless a b
      · have := bless_total a b hab h1
        subst this
        rw [h] at h2; simp at h2
      · have := bless_trans c a b h hab
        rw [this] at h2; simp at h2
  · rw [le_bless, le_bless]
    cases h : bless b a
    · rfl
    · rw [bless_asymm b a h]; rfl
theorem pair_get {α : Type} {R : α → α → Prop} : ∀ {l : List α}, l.Pairwise R → ∀ {i j : Nat} {x y : α}, i < j → l[i]? = some x → l[j]? = some y → R x y
  | [], _, _, _, _, _, _, h, _ => by simp at h
  | a :: l, h, 0, j + 1, x, y, _, h1, h2 => by
    simp at h1 h2; subst h1
    exact (List.pairwise_cons.1 h).1 y (List.mem_of_getElem? h2)
  | a :: l, h, i + 1, j + 1, x, y, hij, h1, h2 => by
    simp at h1 h2
    exact pair_get (List.pairwise_cons.1 h).2 (by omega) h1 h2
/-- without twins each is less than the next. -/
theorem sorted_lt {l : List (List UInt8)} (hn : l.Nodup) {i : Nat} {x y : List UInt8} (h1 : (sorted l)[i]? = some x) (h2 : (sorted l)[i + 1]? = some y) : bless x y = true := by
  have hp := pair_get (sorted_pair l) (by omega) h1 h2
  rw [le_bless] at hp
  have hnd : (sorted l).Nodup := (sorted_perm l).nodup_iff.2 hn
  have hne : x ≠ y := by
    have := pair_get hnd (by omega) h1 h2
    exact this
  cases h : bless x y
  · exfalso
    simp at hp
    exact hne (bless_total x y h hp)
  · rfl
end B
end Go.Proofs.Ytalcaflkfpiehaa
