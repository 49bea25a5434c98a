/-
  Proved: the law NamesValid (stintlaw05) returns true at every text. No condition.
-/
import Derived.Test.YtalcaflkfpiehaaRows
import Derived.Test.YtalcaflkfpiehaaV3
import Derived.Test.YtalcaflkfpiehaaHLRow
namespace Go.Proofs.Ytalcaflkfpiehaa
open Go Go.HL Go.ChangeShapes Go.WideShapes Go.ChangeAt Go.ChangeMaps Go.RowKit
namespace V
set_option maxRecDepth 100000
set_option linter.unusedSimpArgs false

theorem own : ownKnob Try.prog.godebug = none := by kernel_rfl
theorem laidOut : laidOutB Try.prog = true := by kernel_rfl
theorem ok8 : okF Try.prog 8 := ⟨_, Try.func8, by kernel_rfl, by kernel_rfl⟩
theorem ok9 : okF Try.prog 9 := ⟨_, Try.func9, by kernel_rfl, by kernel_rfl⟩
theorem ok10 : okF Try.prog 10 := ⟨_, Try.func10, by kernel_rfl, by kernel_rfl⟩
theorem run8 : ((hcall F X 200 8 [] []).map fun x => HV.eqb x.1 (.bool true)) = some true := by kernel_rfl
theorem shown8 : HC Try.prog 8 [] [] fun v hs' => v = .bool true ∧ hs' = [] := HC.frame (R := fun v => v = .bool true) rfl (fun v h => by subst h; rfl) (hcall_bool mixed F_ok X_ok rfl run8)
theorem valid9' (s : List UInt8) : HC Try.prog 9 [.str s] [] fun v hs' => v = .bool (validL s) ∧ hs' = [] := HC.frame (R := fun v => v = .bool (validL s)) rfl (fun v h => by subst h; rfl) (valid9 s)
theorem ref10' (s : List UInt8) : HC Try.prog 10 [.str s] [] fun v hs' => v = .bool (validL s) ∧ hs' = [] := HC.frame (R := fun v => v = .bool (validL s)) rfl (fun v h => by subst h; rfl) (ref10 s)
theorem eqbool (b : Bool) : hbin .eql (some .bool) (.bool b) (.bool b) = some (.bool true) := by cases b <;> rfl

theorem law3 (s : List UInt8) : HC Try.prog 3 [.str s] [] fun v _ => v = .bool true := by
  refine HC.body Try.func3 c3 ?_
  refine HW.seq (HW.region (HL.op rfl (HL.nil ?_)))
  try simp only [killFr, List.foldl, put, frame0, h3, List.length, List.replicate, Nat.sub, List.append, List.set, HX.ev, List.getElem?_cons_succ, List.getElem?_cons_zero, Option.getD_some, HAppend.hAppend, Append.append]
  refine HW.seq (HW.region ?_)
  refine HL.call (g := 8) (xs := []) rfl (HC.call ok8 shown8 ?_)
  rintro v hs' ⟨rfl, rfl⟩
  try simp only [killFr, List.foldl, put, frame0, h3, List.length, List.replicate, Nat.sub, List.append, List.set, HX.ev, List.getElem?_cons_succ, List.getElem?_cons_zero, Option.getD_some, HAppend.hAppend, Append.append]
  refine HL.op rfl ?_
  try simp only [killFr, List.foldl, put, frame0, h3, List.length, List.replicate, Nat.sub, List.append, List.set, HX.ev, List.getElem?_cons_succ, List.getElem?_cons_zero, Option.getD_some, HAppend.hAppend, Append.append]
  refine HL.opIf rfl rfl ?_
  try simp only [killFr, List.foldl, put, frame0, h3, List.length, List.replicate, Nat.sub, List.append, List.set, HX.ev, List.getElem?_cons_succ, List.getElem?_cons_zero, Option.getD_some, HAppend.hAppend, Append.append]
  refine HL.callIf rfl (g := 9) (xs := [.str s]) rfl (HC.call ok9 (valid9' s) ?_)
  rintro v hs' ⟨rfl, rfl⟩
  try simp only [killFr, List.foldl, put, frame0, h3, List.length, List.replicate, Nat.sub, List.append, List.set, HX.ev, List.getElem?_cons_succ, List.getElem?_cons_zero, Option.getD_some, HAppend.hAppend, Append.append]
  refine HL.opIf rfl rfl ?_
  try simp only [killFr, List.foldl, put, frame0, h3, List.length, List.replicate, Nat.sub, List.append, List.set, HX.ev, List.getElem?_cons_succ, List.getElem?_cons_zero, Option.getD_some, HAppend.hAppend, Append.append]
  refine HL.callIf rfl (g := 10) (xs := [.str s]) rfl (HC.call ok10 (ref10' s) ?_)
  rintro v hs' ⟨rfl, rfl⟩
  try simp only [killFr, List.foldl, put, frame0, h3, List.length, List.replicate, Nat.sub, List.append, List.set, HX.ev, List.getElem?_cons_succ, List.getElem?_cons_zero, Option.getD_some, HAppend.hAppend, Append.append]
  refine HL.opIf (v := .bool true) rfl (congrArg (same []) (eqbool _)) ?_
  try simp only [killFr, List.foldl, put, frame0, h3, List.length, List.replicate, Nat.sub, List.append, List.set, HX.ev, List.getElem?_cons_succ, List.getElem?_cons_zero, Option.getD_some, HAppend.hAppend, Append.append]
  refine HL.op (pickT rfl rfl) ?_
  try simp only [killFr, List.foldl, put, frame0, h3, List.length, List.replicate, Nat.sub, List.append, List.set, HX.ev, List.getElem?_cons_succ, List.getElem?_cons_zero, Option.getD_some, HAppend.hAppend, Append.append]
  refine HL.op rfl (HL.nil ?_)
  try simp only [killFr, List.foldl, put, frame0, h3, List.length, List.replicate, Nat.sub, List.append, List.set, HX.ev, List.getElem?_cons_succ, List.getElem?_cons_zero, Option.getD_some, HAppend.hAppend, Append.append]
  refine HW.ret ?_
  exact ⟨rfl, _, rfl, rfl⟩

theorem valid_lifted (os : Os) (started : os.Started) (H : Type) (enc : TypeId × Value → H) :
    ReturnsInHanded {} Try.checked os 3 .any (Rows.namesValidSpec.pre6 enc Try.prog Try.f3 Rows.namesValidRow.domain false) (Rows.namesValidSpec.post enc Try.prog Try.f3 false true false false) := by
  refine returnsInHanded_of_change (C := Try.checked) own started (by kernel_rfl) Try.func3
    (ChangeSpec.witness6 (enc := enc) (C := Try.checked) false ⟨#[], #[.string .empty], []⟩ 8 (by kernel_rfl) (by kernel_rfl) (by kernel_rfl) (by kernel_rfl)) ?_
  intro W base args ds gs before hval0 hW hcnd _
  have hval : ∀ (j : Nat) t v, Try.f3.params[j]? = some t → args[j]? = some v → Value.okWide Try.prog W .any base t v := hval0
  have hW' := hW
  obtain ⟨p, q, hA0, hV, rfl, hfz, hnd⟩ := hW
  have hA : DataW.TrodAll enc Try.prog W 0 (fun _ => true) true Try.f3.params.toList args.toList ds p := hA0
  rw [Try.params3] at hA hval
  obtain ⟨v0, d0, rfl, rfl, h0⟩ := trodAll_one hA
  obtain ⟨s, rfl, rfl, rfl, hs⟩ := open_string Try.underlying9 (hval 0 9 v0 rfl rfl) h0
  obtain ⟨rfl, rfl⟩ := trodVars_none hV
  have hR : RelL [] [HV.str s.data.toList] [Value.string s] := by
    simp only [RelL, Rel]
    exact ⟨_, [], rfl, by simp, rfl⟩
  refine (HC.below (emb_nil W) hR (fun i c h => by simp at h) (law3 s.data.toList)).mono fun e W' ⟨he, hb⟩ => ?_
  subst he
  exact ⟨_, rfl, law_post (tb := 4) laidOut rfl Try.underlying4 (by kernel_rfl) (by kernel_rfl) hW' rfl hb⟩

theorem namesValid_holds : Rows.NamesValidSaid :=
  OpenClaim.holds_of_wide 3 Try.f3 rfl rfl rfl rfl rfl rfl rfl ⟨rfl, rfl, rfl, rfl, rfl⟩ rfl rfl rfl rfl rfl (by kernel_rfl) Try.func3 (by kernel_rfl)
    (of_decide_eq_true (by kernel_rfl)) (by unfold Func.isWrapper; first | (rw [if_pos (by decide +kernel)]; kernel_rfl) | (rw [if_neg (by decide +kernel)]; exact ⟨rfl, rfl⟩))
    (fun os started H enc _ => valid_lifted os started H enc)
#print axioms namesValid_holds
end V
end Go.Proofs.Ytalcaflkfpiehaa
