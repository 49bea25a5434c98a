/-
  Proved: the law YardNames returns true (a closed run, all its orders, reckoned by the kernel). No condition beyond the row's own.
-/
import Derived.Test.YtajommomdpcmeaaRows
import Derived.Test.YtajommomdpcmeaaF
import Derived.Test.YtajommomdpcmeaaHLRow2
import Derived.Test.YtajommomdpcmeaaHLNon
import Derived.HandedShaped
import Derived.Test.YtajommomdpcmeaaS
namespace Go.Proofs.Ytajommomdpcmeaa
open Go Go.HL Go.ChangeShapes Go.WideShapes Go.ChangeAt Go.RowKit Go.Shelf
namespace NYardNames
theorem mixed : Try.prog.follows .mixedOrders = true := by kernel_rfl
theorem own : ownKnob Try.prog.godebug = none := by kernel_rfl
theorem laidOut : laidOutB Try.prog = true := by kernel_rfl
theorem run : ((hcallN F X 400 3 [] []).map fun l => l.all fun x => HV.eqb x.1 (.bool true)) = some true := by kernel_rfl
theorem contract : HC Try.prog 3 [] [] fun v _ => v = .bool true := hcallN_bool mixed F_ok X_ok rfl run

set_option maxRecDepth 100000 in
theorem lifted (os : Os) (started : os.Started) (H : Type) (enc : TypeId × Value → H) :
    ReturnsInHanded {} Try.checked os 3 .any (Rows.yardNamesSpec.pre6 enc Try.prog Try.f3 Rows.yardNamesRow.domain false) (Rows.yardNamesSpec.post enc Try.prog Try.f3 false true false false) := by
  refine returnsInHanded_of_change_shaped (C := Try.checked) own started (by kernel_rfl) Try.func3
    (ChangeSpec.witness6 (enc := enc) (C := Try.checked) false ⟨#[], #[], []⟩ 8 (by kernel_rfl) (by kernel_rfl) (by kernel_rfl) (by kernel_rfl)) ?_
  intro W base args ds gs before hval hW hcnd _ hsh _
  have hW' := hW
  obtain ⟨p, q, hA0, hV, rfl, hfz, hnd⟩ := hW
  have hA : DataW.TrodAll enc Try.prog W 0 (fun _ => true) true Try.f3.params.toList args.toList ds p := hA0
  rw [Try.params3] at hA
  obtain ⟨rfl, rfl, rfl⟩ := trodAll_none hA
  obtain ⟨rfl, rfl⟩ := trodVars_none hV
  refine (HC.below0 contract (w := W)).mono fun e W' ⟨he, hb⟩ => ?_
  subst he
  exact ⟨_, rfl, law_post (tb := 4) laidOut rfl Try.underlying4 (by kernel_rfl) (by kernel_rfl) hW' rfl hb⟩

theorem yardNames_holds : Rows.YardNamesSaid :=
  OpenClaim.holds_of_wide 3 Try.f3 rfl rfl rfl rfl rfl rfl rfl ⟨rfl, rfl, rfl, rfl, rfl⟩ rfl rfl rfl rfl rfl (by kernel_rfl) Try.func3 (by kernel_rfl)
    (of_decide_eq_true (by kernel_rfl)) (by unfold Func.isWrapper; first | (rw [if_pos (by decide +kernel)]; kernel_rfl) | (rw [if_neg (by decide +kernel)]; exact ⟨rfl, rfl⟩))
    (fun os started H enc _ => lifted os started H enc)
#print axioms yardNames_holds
end NYardNames
end Go.Proofs.Ytajommomdpcmeaa
