/-
  Proved: the law SeatsNumbers returns true (a closed run, all its orders, reckoned by the kernel). No condition beyond the row's own.
-/
import Derived.Test.YtkimigoljleleaaRows
import Derived.Test.YtkimigoljleleaaF
import Derived.Test.YtkimigoljleleaaHLRow2
import Derived.Test.YtkimigoljleleaaHLTab
import Derived.HandedShaped
namespace Go.Proofs.Ytkimigoljleleaa
open Go Go.HL Go.ChangeShapes Go.WideShapes Go.ChangeAt Go.RowKit
namespace NSeatsNumbers
def X : FuncId → Option (List HV → HS → Option (HV × HS)) := fun _ => none
theorem X_ok : XOk Try.prog X := fun _ _ h => by simp [X] at h
theorem mixed : Try.prog.follows .mixedOrders = true := by kernel_rfl
theorem own : ownKnob Try.prog.godebug = none := by kernel_rfl
theorem ccok : CcOk Try.prog (cCode Try.prog []) := fun _ _ h => h
theorem laidOut : laidOutB Try.prog = true := by kernel_rfl
def tab0 : List TabE := []
theorem tok0 : TOk Try.prog (tabT tab0) := tOk_nil
def A0 : List HV := []
def H0 : HS := []
def V0 : HV := (.bool true)
def R0 : HS := []
theorem run0 : ((hcallM (cCode Try.prog []) F X (tabT tab0) 400 6 A0 H0).map fun l => l.all fun x => veEqb x (V0, R0)) = some true := by kernel_rfl
theorem lit0 : HCall Try.prog 6 A0 H0 fun v1 hs1 => v1 = V0 ∧ hs1 = R0 := hcallM_lit mixed ccok F_ok X_ok tok0 run0
def tab1 : List TabE := (6, A0, H0, V0, R0) :: tab0
theorem tok1 : TOk Try.prog (tabT tab1) := tOk_cons tok0 lit0

theorem run : ((hcallM (cCode Try.prog []) F X (tabT tab1) 400 3 [] []).map fun l => l.all fun x => HV.eqb x.1 (.bool true)) = some true := by kernel_rfl
theorem contract : HC Try.prog 3 [] [] fun v _ => v = .bool true := hcallM_bool mixed ccok F_ok X_ok tok1 rfl run

set_option maxRecDepth 100000 in
theorem lifted (os : Os) (started : os.Started) (H : Type) (enc : TypeId × Value → H) :
    ReturnsInHanded {} Try.checked os 3 .any (Rows.seatsNumbersSpec.pre6 enc Try.prog Try.f3 Rows.seatsNumbersRow.domain false) (Rows.seatsNumbersSpec.post enc Try.prog Try.f3 false true false false) := by
  refine returnsInHanded_of_change_shaped (C := Try.checked) own started (by kernel_rfl) Try.func3
    (ChangeSpec.witness6 (enc := enc) (C := Try.checked) false ⟨#[], #[], []⟩ 8 (by kernel_rfl) (by kernel_rfl) (by kernel_rfl) (by kernel_rfl)) ?_
  intro W base args ds gs before hval hW hcnd _ hsh _
  have hW' := hW
  obtain ⟨p, q, hA0, hV, rfl, hfz, hnd⟩ := hW
  have hA : DataW.TrodAll enc Try.prog W 0 (fun _ => true) true Try.f3.params.toList args.toList ds p := hA0
  rw [Try.params3] at hA
  obtain ⟨rfl, rfl, rfl⟩ := trodAll_none hA
  obtain ⟨rfl, rfl⟩ := trodVars_none hV
  refine (HC.below0 contract (w := W)).mono fun e W' ⟨he, hb⟩ => ?_
  subst he
  exact ⟨_, rfl, law_post (tb := 4) laidOut rfl Try.underlying4 (by kernel_rfl) (by kernel_rfl) hW' rfl hb⟩

theorem seatsNumbers_holds : Rows.SeatsNumbersSaid :=
  OpenClaim.holds_of_wide 3 Try.f3 rfl rfl rfl rfl rfl rfl rfl ⟨rfl, rfl, rfl, rfl, rfl⟩ rfl rfl rfl rfl rfl (by kernel_rfl) Try.func3 (by kernel_rfl)
    (of_decide_eq_true (by kernel_rfl)) (by unfold Func.isWrapper; first | (rw [if_pos (by decide +kernel)]; kernel_rfl) | (rw [if_neg (by decide +kernel)]; exact ⟨rfl, rfl⟩))
    (fun os started H enc _ => lifted os started H enc)
#print axioms seatsNumbers_holds
end NSeatsNumbers
end Go.Proofs.Ytkimigoljleleaa
