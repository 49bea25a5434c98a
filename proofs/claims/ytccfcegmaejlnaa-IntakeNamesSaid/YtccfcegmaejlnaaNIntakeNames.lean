/-
  Proved: the law IntakeNames (stintlaw06) returns true. No condition.
-/
import Derived.Test.YtccfcegmaejlnaaRows
import Derived.Test.YtccfcegmaejlnaaF
import Derived.Test.YtccfcegmaejlnaaS
import Derived.Test.YtccfcegmaejlnaaHLRow
import Derived.HandedShaped
namespace Go.Proofs.Ytccfcegmaejlnaa
open Go Go.HL Go.ChangeShapes Go.WideShapes Go.ChangeAt Go.RowKit Go.Shelf
namespace NIntakeNames
theorem mixed : Try.prog.follows .mixedOrders = true := by kernel_rfl
theorem own : ownKnob Try.prog.godebug = none := by kernel_rfl
theorem laidOut : laidOutB Try.prog = true := by kernel_rfl
theorem run : ((hcall F X 400 7 [] [some (.gint 0)]).map fun x => HV.eqb x.1 (.bool true)) = some true := by kernel_rfl
theorem contract : HC Try.prog 7 [] [some (.gint 0)] fun v _ => v = .bool true := hcall_bool mixed F_ok X_ok rfl run

set_option maxRecDepth 100000 in
theorem lifted (os : Os) (started : os.Started) (H : Type) (enc : TypeId × Value → H) :
    ReturnsInHanded {} Try.checked os 7 .any (Rows.intakeNamesSpec.pre6 enc Try.prog Try.f7 Rows.intakeNamesRow.domain false) (Rows.intakeNamesSpec.post enc Try.prog Try.f7 false true false false) := by
  refine returnsInHanded_of_change_shaped (C := Try.checked) own started (by kernel_rfl) Try.func7
    (ChangeSpec.witness6 (enc := enc) (C := Try.checked) false ⟨#[], #[], []⟩ 8 (by kernel_rfl) (by kernel_rfl) (by kernel_rfl) (by kernel_rfl)) ?_
  intro W base args ds gs before hval hW hcnd _ hsh _
  have hW' := hW
  obtain ⟨p, q, hA0, hV, rfl, hfz, hnd⟩ := hW
  have hA : DataW.TrodAll enc Try.prog W 0 (fun _ => true) true Try.f7.params.toList args.toList ds p := hA0
  rw [Try.params7] at hA
  obtain ⟨rfl, rfl, rfl⟩ := trodAll_none hA
  obtain ⟨rfl, rfl⟩ := trodVars_none hV
  obtain ⟨m, hm⟩ := Try.laysM185.s1_3 W hsh
  have hE : Emb [⟨0, 0, 1, 1⟩] [some (.gint 0)] W := emb_gint hm
  refine (HC.below hE (us := []) (by simp [RelL]) (fun i c h => ?_) contract).mono fun e W' ⟨he, hb⟩ => ?_
  · have hi : i = 0 := by have := lt_of_get h; simp at this; omega
    subst hi
    simp at h; subst h; rfl
  subst he
  exact ⟨_, rfl, law_post (tb := 4) laidOut rfl Try.underlying4 (by kernel_rfl) (by kernel_rfl) hW' rfl hb⟩

theorem intakeNames_holds : Rows.IntakeNamesSaid :=
  OpenClaim.holds_of_wide 7 Try.f7 rfl rfl rfl rfl rfl rfl rfl ⟨rfl, rfl, rfl, rfl, rfl⟩ rfl rfl rfl rfl rfl (by kernel_rfl) Try.func7 (by kernel_rfl)
    (of_decide_eq_true (by kernel_rfl)) (by unfold Func.isWrapper; first | (rw [if_pos (by decide +kernel)]; kernel_rfl) | (rw [if_neg (by decide +kernel)]; exact ⟨rfl, rfl⟩))
    (fun os started H enc _ => lifted os started H enc)
#print axioms intakeNames_holds
end NIntakeNames
end Go.Proofs.Ytccfcegmaejlnaa
