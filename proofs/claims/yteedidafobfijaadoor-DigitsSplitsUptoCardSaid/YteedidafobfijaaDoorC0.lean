/-
  A line, cut at its spaces, and joined again: plain lists.
-/
import Derived.Lib.SplitLaws
import Derived.Lib.Join
namespace Go.Proofs.YteedidafobfijaaDoor
open Go
namespace B
/-- the pieces of a line. -/
def pcs : List UInt8 → List (List UInt8)
  | [] => [[]]
  | c :: s => if c = 32 then [] :: pcs s else match pcs s with
    | [] => [[c]]
    | p :: r => (c :: p) :: r
theorem pcs_ne : ∀ s : List UInt8, pcs s ≠ []
  | [] => by simp [pcs]
  | c :: s => by
    unfold pcs
    split
    · simp
    · split <;> simp
theorem split_pcs : ∀ s : List UInt8, Lib.splitK [32] 0 (Lib.count s [32]) s = pcs s
  | [] => by
    rw [Lib.count_miss (by simp [Lib.index])]; rfl
  | c :: s => by
    have ih := split_pcs s
    by_cases h : c = 32
    · subst h
      rw [Lib.count_cons_eq, Nat.add_comm, Lib.splitK]
      have hix : Lib.index ((32 : UInt8) :: s) [32] = 0 := by rw [Lib.index]; simp [List.isPrefixOf]
      rw [hix, if_neg (by simp), pcs, if_pos rfl]
      simp [ih]
    · rw [Lib.count_cons_ne c 32 s h, pcs, if_neg h]
      by_cases hm : Lib.index s [32] = -1
      · rw [Lib.count_miss hm] at ih ⊢
        rw [← ih]
        rfl
      · have hge := Lib.index_ge s [32]
        obtain ⟨j, hj⟩ : ∃ j : Nat, Lib.index s [32] = j := ⟨(Lib.index s [32]).toNat, by omega⟩
        have hp : ([32] : List UInt8).isPrefixOf (c :: s) = false := by simp [List.isPrefixOf, Ne.symm h]
        have hix : Lib.index (c :: s) [32] = ((j + 1 : Nat) : Int) := by rw [Lib.index, hp]; simp [hj]
        rw [Lib.count_hit (by simp) hj] at ih ⊢
        rw [Nat.add_comm, Lib.splitK, hj, if_neg (by simp)] at ih
        rw [Nat.add_comm, Lib.splitK, hix, if_neg (by simp; omega), ← ih]
        simp
theorem join_pcs : ∀ s : List UInt8, Lib.join (pcs s) [32] = s
  | [] => by simp [pcs, Lib.join_one]
  | c :: s => by
    have ih := join_pcs s
    have hne := pcs_ne s
    rw [pcs]
    cases hp : pcs s with
    | nil => exact absurd hp hne
    | cons p r =>
      rw [hp, Lib.join_cons] at ih
      split
      · rename_i h
        subst h
        rw [Lib.join_cons]
        simp [Lib.joinTail, ← ih]
      · rw [Lib.join_cons]
        simp [← ih]
theorem pcs_app {w : List UInt8} (h : ∀ c ∈ w, c ≠ 32) (r : List UInt8) : pcs (w ++ 32 :: r) = w :: pcs r := by
  induction w with
  | nil => simp [pcs]
  | cons c w ih =>
    rw [List.cons_append, pcs, if_neg (h c (by simp)), ih fun d hd => h d (by simp [hd])]
theorem pcs_one {w : List UInt8} (h : ∀ c ∈ w, c ≠ 32) : pcs w = [w] := by
  induction w with
  | nil => rfl
  | cons c w ih =>
    rw [pcs, if_neg (h c (by simp)), ih fun d hd => h d (by simp [hd])]
theorem pcs_join : ∀ ws : List (List UInt8), ws ≠ [] → (∀ w ∈ ws, ∀ c ∈ w, c ≠ 32) → pcs (Lib.join ws [32]) = ws
  | [], h, _ => absurd rfl h
  | [w], _, h => by rw [Lib.join_one]; exact pcs_one (h w (by simp))
  | w :: x :: r, _, h => by
    have ih := pcs_join (x :: r) (by simp) fun y hy => h y (by simp [hy])
    rw [Lib.join_cons] at ih ⊢
    have : w ++ Lib.joinTail [32] (x :: r) = w ++ 32 :: (x ++ Lib.joinTail [32] r) := by simp [Lib.joinTail]
    rw [this, pcs_app (h w (by simp)), ih]
end B
end Go.Proofs.YteedidafobfijaaDoor
