/-
  Proved: the law AnswersNames returns true (a closed run, reckoned by the kernel). No condition beyond the row's own.
-/
import Derived.Test.YthihchoccpnfeaaDoorRows
import Derived.Test.YthihchoccpnfeaaDoorF
import Derived.Test.YthihchoccpnfeaaDoorHLRow
import Derived.Test.YthihchoccpnfeaaDoorCards
import Derived.Test.YthihchoccpnfeaaDoorTie
import Derived.ProofKit
import Derived.LaidMore
import Derived.OpenShut
import Derived.Stop.Joined
import Derived.SevenTiedAt
namespace Go.Proofs.YthihchoccpnfeaaDoor
open Go Go.HL Go.ChangeShapes Go.WideShapes Go.ChangeAt Go.RowKit Go.WideMaps Go.WideElems
namespace NAnswersNames
def X : FuncId → Option (List HV → HS → Option (HV × HS)) := fun _ => none
theorem X_ok : XOk Tryd.prog X := fun _ _ h => by simp [X] at h
theorem mixed : Tryd.prog.follows .mixedOrders = true := by kernel_rfl
theorem own : ownKnob Tryd.prog.godebug = none := by kernel_rfl
theorem laidOut : laidOutB Tryd.prog = true := by kernel_rfl
theorem run : ((hcall F X 400 7 [] []).map fun x => HV.eqb x.1 (.bool true)) = some true := by kernel_rfl
theorem contract : HC Tryd.prog 7 [] [] fun v _ => v = .bool true := hcall_bool mixed F_ok X_ok rfl run
theorem door_met (os : Os) (args : Array Value) : laidMetH Tryd.prog Rows.answersNamesRow.laid ((World.doorLaid Tryd.prog 4000 os).forCall (fun _ _ => 0) ⟨#[], args, []⟩).memory :=
  laidMetH_of_parts3 (fuel := 8) (laidMet_of_run' 8 (by kernel_rfl) (by kernel_rfl)) (by kernel_rfl) (by kernel_rfl)

set_option maxRecDepth 100000 in
theorem lifted (os : Os) (started : os.Started) (H : Type) (enc : TypeId × Value → H) :
    ReturnsInHanded {} Tryd.checked os 7 .any (fun w args => (Rows.answersNamesSpec.pre enc Tryd.prog Tryd.f7 [] false w args ∧ laidMetH Tryd.prog Rows.answersNamesRow.laid w) ∧ sizedMet enc Tryd.prog Tryd.f7 (OpenSpec.ofChange Rows.answersNamesSpec) false w args)
      (Rows.answersNamesSpec.post enc Tryd.prog Tryd.f7 false true false false) := by
  refine returnsInHanded_of_change_and (C := Tryd.checked) (X := fun w _ => laidMetH Tryd.prog Rows.answersNamesRow.laid w) (fun _ _ _ hh h => h.of_heap hh) own started (by kernel_rfl) Tryd.func7
    (ChangeSpec.witness_shaped (enc := enc) (C := Tryd.checked) (os := os) (X := fun w _ => laidMetH Tryd.prog Rows.answersNamesRow.laid w) false (World.doorLaid Tryd.prog 4000 os) #[] 8 rfl (World.shaped_of_RefB (by kernel_rfl) (by kernel_rfl)) (by kernel_rfl) (by kernel_rfl) (by kernel_rfl) (door_met os _)) ?_
  intro W base args ds gs before hval hW _ _ _ _
  have hW' := hW
  obtain ⟨p, q, hA0, hV, rfl, hfz, hnd⟩ := hW
  have hA : DataW.TrodAll enc Tryd.prog W 0 (fun _ => true) true Tryd.f7.params.toList args.toList ds p := hA0
  rw [Tryd.params7] at hA
  obtain ⟨rfl, rfl, rfl⟩ := trodAll_none hA
  obtain ⟨rfl, rfl⟩ := trodVars_none hV
  refine (HC.below0 contract (w := W)).mono fun e W' ⟨he, hb⟩ => ?_
  subst he
  exact ⟨_, rfl, law_post (tb := 4) laidOut rfl Tryd.underlying4 (by kernel_rfl) (by kernel_rfl) hW' rfl hb⟩

theorem answersNames_holds : Rows.AnswersNamesSaid :=
  OpenClaim.holds_of_wide 7 Tryd.f7 rfl rfl rfl rfl rfl rfl rfl ⟨rfl, rfl, rfl, rfl, rfl⟩ rfl rfl rfl rfl rfl (by kernel_rfl) Tryd.func7 (by kernel_rfl)
    (of_decide_eq_true (by kernel_rfl)) (by unfold Func.isWrapper; first | (rw [if_pos (by decide +kernel)]; kernel_rfl) | (rw [if_neg (by decide +kernel)]; exact ⟨rfl, rfl⟩))
    (fun os started H enc _ => lifted os started H enc)
theorem answersNames_card : Rows.AnswersNamesCardSaid :=
  Claim7.holds_tied_plain_at .later [] [.data, .data, .data] true (true, "3be225ab453c6466d7f63442660e50a7e36c9de0142be2d08a6cdb186564816d") false
    answersNames_holds (fun _ h => by cases h) (by kernel_rfl) (fun _ h => by cases h) answersNames_row_tie rfl ⟨rfl, rfl⟩ (by kernel_rfl) rfl
    (fun f fn hf hfn => by
      obtain rfl : f = 7 := Option.some.inj ((show Tryd.prog.funcNamed "stint/stintlaw08.AnswersNames" = some 7 by kernel_rfl).symm.trans hf) |>.symm
      obtain rfl : fn = Tryd.f7 := (Option.some.inj (Tryd.func7.symm.trans hfn)).symm
      exact ⟨by kernel_rfl, fun j t ht => by
        rw [Tryd.params7] at ht
        simp at ht⟩)
    (by kernel_rfl)
#print axioms answersNames_card
end NAnswersNames
end Go.Proofs.YthihchoccpnfeaaDoor
