/-
  Proved: the law NamesNames (stintlaw05) returns true. No condition.
-/
import Derived.Test.YtalcaflkfpiehaaRows
import Derived.Test.YtalcaflkfpiehaaF
import Derived.Test.YtalcaflkfpiehaaHLRow
namespace Go.Proofs.Ytalcaflkfpiehaa
open Go Go.HL Go.ChangeShapes Go.WideShapes Go.ChangeAt Go.RowKit

def X : FuncId → Option (List HV → HS → Option (HV × HS))
  | 57 => some xIndexByte
  | 43 => some xMapClone
  | _ => none

theorem X_ok : XOk Try.prog X := by
  intro f g h
  unfold X at h
  split at h
  · simp at h; subst h; exact fun args hs v hs' h => xIndexByte_sound Try.func57 (by kernel_rfl) (by kernel_rfl) (by kernel_rfl) (by kernel_rfl) h
  · simp at h; subst h; exact fun args hs v hs' h => xMapClone_sound Try.func43 (by kernel_rfl) (by kernel_rfl) (by kernel_rfl) (by kernel_rfl) h
  · simp at h

theorem mixed : Try.prog.follows .mixedOrders = true := by kernel_rfl
theorem own : ownKnob Try.prog.godebug = none := by kernel_rfl
theorem laidOut : laidOutB Try.prog = true := by kernel_rfl

theorem run4 : ((hcall F X 200 4 [] []).map fun x => HV.eqb x.1 (.bool true)) = some true := by kernel_rfl

theorem contract4 : HC Try.prog 4 [] [] fun v _ => v = .bool true := hcall_bool mixed F_ok X_ok rfl run4

set_option maxRecDepth 100000 in
theorem names_lifted (os : Os) (started : os.Started) (H : Type) (enc : TypeId × Value → H) :
    ReturnsInHanded {} Try.checked os 4 .any (Rows.namesNamesSpec.pre6 enc Try.prog Try.f4 Rows.namesNamesRow.domain false) (Rows.namesNamesSpec.post enc Try.prog Try.f4 false true false false) := by
  refine returnsInHanded_of_change (C := Try.checked) own started (by kernel_rfl) Try.func4
    (ChangeSpec.witness6 (enc := enc) (C := Try.checked) false ⟨#[], #[], []⟩ 8 (by kernel_rfl) (by kernel_rfl) (by kernel_rfl) (by kernel_rfl)) ?_
  intro W base args ds gs before hval hW hcnd _
  have hW' := hW
  obtain ⟨p, q, hA0, hV, rfl, hfz, hnd⟩ := hW
  have hA : DataW.TrodAll enc Try.prog W 0 (fun _ => true) true Try.f4.params.toList args.toList ds p := hA0
  rw [Try.params4] at hA
  obtain ⟨rfl, rfl, rfl⟩ := trodAll_none hA
  obtain ⟨rfl, rfl⟩ := trodVars_none hV
  refine (HC.below0 contract4 (w := W)).mono fun e W' ⟨he, hb⟩ => ?_
  subst he
  exact ⟨_, rfl, law_post (tb := 4) laidOut rfl Try.underlying4 (by kernel_rfl) (by kernel_rfl) hW' rfl hb⟩

theorem names_names : Rows.NamesNamesSaid :=
  OpenClaim.holds_of_wide 4 Try.f4 rfl rfl rfl rfl rfl rfl rfl ⟨rfl, rfl, rfl, rfl, rfl⟩ rfl rfl rfl rfl rfl (by kernel_rfl) Try.func4 (by kernel_rfl)
    (of_decide_eq_true (by kernel_rfl)) (by unfold Func.isWrapper; first | (rw [if_pos (by decide +kernel)]; kernel_rfl) | (rw [if_neg (by decide +kernel)]; exact ⟨rfl, rfl⟩))
    (fun os started H enc _ => names_lifted os started H enc)
#print axioms names_names
end Go.Proofs.Ytalcaflkfpiehaa
