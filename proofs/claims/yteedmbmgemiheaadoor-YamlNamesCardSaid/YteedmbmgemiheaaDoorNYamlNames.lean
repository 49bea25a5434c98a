/-
  Proved: the law YamlNames returns true (a closed run, all its orders, reckoned by the kernel). No condition beyond the row's own.
-/
import Derived.Test.YteedmbmgemiheaaDoorRows
import Derived.Test.YteedmbmgemiheaaDoorF
import Derived.Test.YteedmbmgemiheaaDoorHLRow2
import Derived.Test.YteedmbmgemiheaaDoorHLNon
import Derived.Test.YteedmbmgemiheaaDoorS
import Derived.HandedShaped
import Derived.Test.YteedmbmgemiheaaDoorCards
import Derived.Test.YteedmbmgemiheaaDoorTie
import Derived.ProofKit
import Derived.LaidMore
import Derived.OpenShut
import Derived.Stop.Joined
import Derived.SevenTiedAt
import Derived.Lay
namespace Go.Proofs.YteedmbmgemiheaaDoor
open Go Go.HL Go.ChangeShapes Go.WideShapes Go.ChangeAt Go.RowKit Go.Shelf Go.WideMaps Go.WideElems
namespace NYamlNames
theorem mixed : Tryd.prog.follows .mixedOrders = true := by kernel_rfl
theorem own : ownKnob Tryd.prog.godebug = none := by kernel_rfl
theorem laidOut : laidOutB Tryd.prog = true := by kernel_rfl
theorem run : ((hcallN F X 400 7 [] [some (.gint 1)]).map fun l => l.all fun x => HV.eqb x.1 (.bool true)) = some true := by kernel_rfl
theorem contract : HC Tryd.prog 7 [] [some (.gint 1)] fun v _ => v = .bool true := hcallN_bool mixed F_ok X_ok rfl run
theorem door_met (os : Os) (args : Array Value) : laidMetH Tryd.prog Rows.yamlNamesRow.laid ((World.doorLaid Tryd.prog 4000 os).forCall (fun _ _ => 0) ⟨#[], args, []⟩).memory :=
  laidMetH_of_parts3 (fuel := 8) (laidMet_of_run' 8 (by kernel_rfl) (by kernel_rfl)) (by kernel_rfl) (by kernel_rfl)

set_option maxRecDepth 100000 in
theorem lifted (os : Os) (started : os.Started) (H : Type) (enc : TypeId × Value → H) :
    ReturnsInHanded {} Tryd.checked os 7 .any (fun w args => (Rows.yamlNamesSpec.pre enc Tryd.prog Tryd.f7 [] false w args ∧ laidMetH Tryd.prog Rows.yamlNamesRow.laid w) ∧ sizedMet enc Tryd.prog Tryd.f7 (OpenSpec.ofChange Rows.yamlNamesSpec) false w args)
      (Rows.yamlNamesSpec.post enc Tryd.prog Tryd.f7 false true false false) := by
  refine returnsIn_and_shaped (C := Tryd.checked) (X := fun w _ => laidMetH Tryd.prog Rows.yamlNamesRow.laid w) (fun _ _ _ hh h => h.of_heap hh) own started (by kernel_rfl) Tryd.func7
    (ChangeSpec.witness_shaped (enc := enc) (C := Tryd.checked) (os := os) (X := fun w _ => laidMetH Tryd.prog Rows.yamlNamesRow.laid w) false (World.doorLaid Tryd.prog 4000 os) #[] 8 rfl (World.shaped_of_RefB (by kernel_rfl) (by kernel_rfl)) (by kernel_rfl) (by kernel_rfl) (by kernel_rfl) (door_met os _)) ?_
  intro W base args ds gs before hval hW hL hsh
  have hW' := hW
  obtain ⟨p, q, hA0, hV, rfl, hfz, hnd⟩ := hW
  have hA : DataW.TrodAll enc Tryd.prog W 0 (fun _ => true) true Tryd.f7.params.toList args.toList ds p := hA0
  rw [Tryd.params7] at hA
  obtain ⟨rfl, rfl, rfl⟩ := trodAll_none hA
  obtain ⟨rfl, rfl⟩ := trodVars_none hV
  obtain ⟨m, hm⟩ := Tryd.laysM219.s1_3 W hsh
  have hE : Emb [⟨1, 0, 1, 1⟩] [some (.gint 1)] W := emb_gint hm
  refine (HC.below hE (us := []) (by simp [RelL]) (fun i c h => ?_) contract).mono fun e W' ⟨he, hb⟩ => ?_
  · have hi : i = 0 := by have := lt_of_get h; simp at this; omega
    subst hi
    simp at h; subst h; rfl
  subst he
  exact ⟨_, rfl, law_post (tb := 4) laidOut rfl Tryd.underlying4 (by kernel_rfl) (by kernel_rfl) hW' rfl hb⟩

theorem yamlNames_holds : Rows.YamlNamesSaid :=
  OpenClaim.holds_of_wide 7 Tryd.f7 rfl rfl rfl rfl rfl rfl rfl ⟨rfl, rfl, rfl, rfl, rfl⟩ rfl rfl rfl rfl rfl (by kernel_rfl) Tryd.func7 (by kernel_rfl)
    (of_decide_eq_true (by kernel_rfl)) (by unfold Func.isWrapper; first | (rw [if_pos (by decide +kernel)]; kernel_rfl) | (rw [if_neg (by decide +kernel)]; exact ⟨rfl, rfl⟩))
    (fun os started H enc _ => lifted os started H enc)
theorem yamlNames_card : Rows.YamlNamesCardSaid :=
  Claim7.holds_tied_plain_at .later [] [.sentinel] true (true, "d08854fe5e4089f9c9f4bbe6c46061fac761bbf127c3d385ddd82ff88e8becc9") false
    yamlNames_holds (fun _ h => by cases h) (by kernel_rfl) (fun _ h => by cases h) yamlNames_row_tie rfl ⟨rfl, rfl⟩ (by kernel_rfl) rfl
    (fun f fn hf hfn => by
      obtain rfl : f = 7 := Option.some.inj ((show Tryd.prog.funcNamed "stint/stintlaw09.YamlNames" = some 7 by kernel_rfl).symm.trans hf) |>.symm
      obtain rfl : fn = Tryd.f7 := (Option.some.inj (Tryd.func7.symm.trans hfn)).symm
      exact ⟨by kernel_rfl, fun j t ht => by
        rw [Tryd.params7] at ht
        simp at ht⟩)
    (by kernel_rfl)
#print axioms yamlNames_card
end NYamlNames
end Go.Proofs.YteedmbmgemiheaaDoor
