/-
  Proved: the law IntakeBounds (stintlaw06) returns true at every number and every script. No condition.
-/
import Derived.Test.YtccfcegmaejlnaaRows
import Derived.Test.YtccfcegmaejlnaaM
import Derived.Test.YtccfcegmaejlnaaA
import Derived.Test.YtccfcegmaejlnaaHLRow
import Derived.HandedShaped
import Derived.SizedLaws
import Derived.Deep.Slices
namespace Go.Proofs.Ytccfcegmaejlnaa
open Go Go.HL Go.ChangeShapes Go.WideShapes Go.ChangeAt Go.RowKit Go.Shelf
set_option maxRecDepth 100000
set_option linter.unusedSimpArgs false

theorem bounds_lifted (os : Os) (started : os.Started) (H : Type) (enc : TypeId × Value → H) :
    ReturnsInHanded {} Try.checked os 6 .any (Rows.intakeBoundsSpec.pre6 enc Try.prog Try.f6 Rows.intakeBoundsRow.domain false) (Rows.intakeBoundsSpec.post enc Try.prog Try.f6 false true false false) := by
  refine returnsInHanded_of_change_shaped (C := Try.checked) own started (by kernel_rfl) Try.func6
    (ChangeSpec.witness6 (enc := enc) (C := Try.checked) false ⟨#[], #[.int .i64 0, .slice none 0 0], []⟩ 8 (by kernel_rfl) (by kernel_rfl) (by kernel_rfl) (by kernel_rfl)) ?_
  intro M base args ds gs before hval0 hW _ hsz0 hsh _
  have hval : ∀ (j : Nat) t v, Try.f6.params[j]? = some t → args[j]? = some v → Value.okWide Try.prog M .any base t v := hval0
  have hsz : (DataW.weightsEach Try.prog (Try.f6.params.toList ++ Rows.intakeBoundsSpec.plain.varTypes Try.prog) (ds ++ gs)).all (· ≤ reachBytes) = true := hsz0
  have hW' := hW
  obtain ⟨p, q, hA0, hV, rfl, hfz, hnd⟩ := hW
  have hA : DataW.TrodAll enc Try.prog M 0 (fun _ => true) true Try.f6.params.toList args.toList ds p := hA0
  rw [Try.params6] at hA hval hsz
  obtain ⟨v0, v1, d0, d1, p0, p1, rfl, rfl, rfl, h0, h1⟩ := trodAll_two hA
  obtain ⟨rfl, rfl⟩ := trodVars_none hV
  obtain ⟨fu0, hf0⟩ := h0
  obtain ⟨fu1, hf1⟩ := h1
  obtain ⟨mi, hm⟩ := Try.laysM185.s1_3 M hsh
  have hE : Emb [⟨0, 0, 1, 1⟩] [some (.gint 0)] M := emb_gint hm
  have hro0 : AllRo [some (.gint 0)] := fun i b h => by
    have hi : i = 0 := by have := lt_of_get h; simp at this; omega
    subst hi
    simp at h; subst h; rfl
  have hwt : ∀ n ∈ d1.weights Try.prog 22, n ≤ reachBytes := fun n hn => by
    have := List.all_eq_true.1 hsz n (DataW.weights_mem_each (j := 1) (t := 22) (d := d1) rfl (by simp) n hn)
    simpa using this
  obtain ⟨β', hs', sv, A, x1, ⟨g, x2⟩, x3, x4, x5, x6⟩ := acts_of hf1 (okWide_slice Try.underlying22 (hval 1 22 v1 rfl rfl)) hwt hE hro0 (by simp)
  obtain ⟨mx, e0, _⟩ := arg_int Try.underlying3 hf0
  obtain ⟨k0, rfl⟩ : ∃ k, v0 = .int .i64 k := by
    obtain ⟨k, rfl, _⟩ := okWide_int Try.underlying3 (hval 0 3 v0 rfl rfl)
    exact ⟨k, rfl⟩
  have hG : ∀ hs, Sat hs [HL.base hs'] → hs[0]? = some (some (HB.gint 0)) := fun hs h => h.base_get (by rw [x2]; rfl)
  refine (HC.below (us := [.int .i64 k0, v1]) x3 (by simp only [RelL]; exact ⟨_, _, rfl, rfl, _, _, rfl, x5, rfl⟩) x4 (law6 (Sat.base_of hs') hG (fun hs h => x6.base h) k0)).mono fun e M' ⟨he, hb⟩ => ?_
  subst he
  exact ⟨_, rfl, law_post (s := Rows.intakeBoundsSpec) (tb := 4) laidOut rfl Try.underlying4 (by kernel_rfl) (by kernel_rfl) hW' rfl hb⟩

theorem intakeBounds_holds : Rows.IntakeBoundsSaid :=
  OpenClaim.holds_of_wide 6 Try.f6 rfl rfl rfl rfl rfl rfl rfl ⟨rfl, rfl, rfl, rfl, rfl⟩ rfl rfl rfl rfl rfl (by kernel_rfl) Try.func6 (by kernel_rfl)
    (of_decide_eq_true (by kernel_rfl)) (by unfold Func.isWrapper; first | (rw [if_pos (by decide +kernel)]; kernel_rfl) | (rw [if_neg (by decide +kernel)]; exact ⟨rfl, rfl⟩))
    (fun os started H enc _ => bounds_lifted os started H enc)
#print axioms intakeBounds_holds
end Go.Proofs.Ytccfcegmaejlnaa
