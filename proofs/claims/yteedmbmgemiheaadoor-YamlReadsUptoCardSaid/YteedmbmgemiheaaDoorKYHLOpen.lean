/-
  HL: arguments that were handed in, opened: bytes, numbers, texts.
-/
import Derived.Test.YteedmbmgemiheaaDoorKYHLArg
import Derived.Test.YteedmbmgemiheaaDoorKYHLByte
import Derived.Deep.Slices
import Derived.ChangeArms
import Derived.WideShapes
namespace Go.HL
open Go
section
variable {H : Type} {enc : TypeId × Value → H} {P : Program} {M : World} {base : Nat} {held : Bool} {fuel : Nat} {cs : List Value} {x : DataW H × List MemPlace}

theorem arg_int {t : TypeId} {sp : Nat → Bool} (ht : P.underlying t = some (.int .i64)) (h : DataW.trod enc P M base sp held fuel t cs = some x) : ∃ n : Int, cs = [.int .i64 n] ∧ -9223372036854775808 ≤ n ∧ n ≤ 9223372036854775807 := by
  obtain ⟨n, rfl, _, hw⟩ := DataW.trod_int ht h
  have h2 : (decide (IntKind.i64.min ≤ n) && decide (n ≤ IntKind.i64.max)) = true := hw
  rw [Bool.and_eq_true, decide_eq_true_eq, decide_eq_true_eq] at h2
  have h3 : IntKind.i64.max = 9223372036854775807 := by decide
  have h4 : IntKind.i64.min = -9223372036854775808 := by decide
  rw [h3, h4] at h2
  exact ⟨n, rfl, h2⟩
theorem arg_u8 {t : TypeId} {sp : Nat → Bool} (ht : P.underlying t = some (.int .u8)) (h : DataW.trod enc P M base sp held fuel t cs = some x) : ∃ c : UInt8, cs = [.int .u8 c.toNat] := by
  obtain ⟨n, rfl, _, hw⟩ := DataW.trod_int ht h
  have h2 : (decide (IntKind.u8.min ≤ n) && decide (n ≤ IntKind.u8.max)) = true := hw
  rw [Bool.and_eq_true, decide_eq_true_eq, decide_eq_true_eq] at h2
  have h3 : IntKind.u8.max = 255 := by decide
  have h4 : IntKind.u8.min = 0 := by decide
  rw [h3, h4] at h2
  refine ⟨UInt8.ofNat n.toNat, ?_⟩
  have : (UInt8.ofNat n.toNat).toNat = n.toNat := by
    have h5 : (UInt8.ofNat n.toNat).toNat = n.toNat % 256 := rfl
    omega
  rw [this]
  congr 2
  omega
theorem arg_str {t : TypeId} {sp : Nat → Bool} (ht : P.underlying t = some .string) (h : DataW.trod enc P M base sp held fuel t cs = some x) : ∃ b : List UInt8, cs = [.string ⟨b.toArray⟩] ∧ x.1 = .lit (.string b) := by
  obtain ⟨b, rfl, rfl, _⟩ := DataW.trod_string ht h
  exact ⟨b.data.toList, by simp, rfl⟩

end
end Go.HL
