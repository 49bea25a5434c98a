/-
  Proved: the law AnswersWrite (stintlaw08) returns true at every two replies (the tied card).
-/
import Derived.Test.YthihchoccpnfeaaDoorRows
import Derived.Test.YthihchoccpnfeaaDoorP3
import Derived.Test.YthihchoccpnfeaaDoorR
import Derived.Test.YthihchoccpnfeaaDoorHLOpen
import Derived.Test.YthihchoccpnfeaaDoorHLRow
import Derived.Test.YthihchoccpnfeaaDoorCards
import Derived.Test.YthihchoccpnfeaaDoorTie
import Derived.ProofKit
import Derived.Lib.LaidTab
import Derived.Stop.LaidErr
import Derived.MakeChecks
import Derived.LaidMore
import Derived.OpenShut
import Derived.Stop.Joined
import Derived.SevenTiedAt
import Derived.SizedLaws
namespace Go.Proofs.YthihchoccpnfeaaDoor
open Go Go.HL Go.ChangeShapes Go.WideShapes Go.ChangeAt Go.ChangeMaps Go.RowKit Go.WideMaps Go.WideElems Go.Shelf
namespace K
open A
set_option maxRecDepth 100000
set_option maxHeartbeats 4000000
set_option linter.unusedSimpArgs false
/-- a reply that was handed in. -/
theorem reply_of2 {H : Type} {enc : TypeId × Value → H} {M : World} {fuel : Nat} {cs : List Value} {x : DataW H × List MemPlace} (h : DataW.trod enc Tryd.prog M 0 (fun _ => true) true fuel 24 cs = some x) {β : List Ent} {hs : HS} (E : Emb β hs M) (hro : AllRo hs)
    {z : Nat} {zc : List HV} {zo zn : Bool} {zl : List Nat} (hz : hs[z]? = some (some (.cells 1 zc zo zn zl))) (hw : ∀ n ∈ x.1.weights Tryd.prog 24, n ≤ reachBytes) :
    ∃ (β' : List Ent) (hs' : HS) (v : HV) (k id num : Int) (t b : List UInt8), Ext β β' ∧ (∃ g, hs' = hs ++ g) ∧ Emb β' hs' M ∧ AllRo hs' ∧ RelL β' [.int .i64 k, .int .i64 id, .int .i64 num, .str t, v] cs ∧ SlAt hs' v (bcells b) ∧ b.length ≤ 140737488351232 ∧
      (-9223372036854775808 ≤ id ∧ id ≤ 9223372036854775807) ∧ (-9223372036854775808 ≤ num ∧ num ≤ 9223372036854775807) ∧ t.length ≤ 140737488351232 := by
  obtain ⟨xs, n', rfl, rfl, hl, hxl, hf⟩ := DataW.trod_struct Tryd.underlying24 h
  have c24 : Tryd.prog.cellsOf 24 = 5 := by kernel_rfl
  have c3 : Tryd.prog.cellsOf 3 = 1 := by kernel_rfl
  have c9 : Tryd.prog.cellsOf 9 = 1 := by kernel_rfl
  have c22 : Tryd.prog.cellsOf 22 = 1 := by kernel_rfl
  have c5 : Tryd.prog.cellsOf 5 = 1 := by kernel_rfl
  rw [c24] at hl
  obtain ⟨a, b, c, d, e, rfl⟩ : ∃ a b c d e, cs = [a, b, c, d, e] := by
    match cs, hl with
    | [a, b, c, d, e], _ => exact ⟨a, b, c, d, e, rfl⟩
  obtain ⟨y0, y1, y2, y3, y4, rfl⟩ : ∃ a b c d e, xs = [a, b, c, d, e] := by
    match xs, hxl with
    | [a, b, c, d, e], _ => exact ⟨a, b, c, d, e, rfl⟩
  have f0 : DataW.trod enc Tryd.prog M 0 (fun _ => true) true n' 3 (([a, b, c, d, e].drop 0).take (Tryd.prog.cellsOf 3)) = some y0 := hf 0 _ rfl
  have f1 : DataW.trod enc Tryd.prog M 0 (fun _ => true) true n' 3 (([a, b, c, d, e].drop 1).take (Tryd.prog.cellsOf 3)) = some y1 := hf 1 _ rfl
  have f2 : DataW.trod enc Tryd.prog M 0 (fun _ => true) true n' 3 (([a, b, c, d, e].drop 2).take (Tryd.prog.cellsOf 3)) = some y2 := hf 2 _ rfl
  have f3 : DataW.trod enc Tryd.prog M 0 (fun _ => true) true n' 9 (([a, b, c, d, e].drop 3).take (Tryd.prog.cellsOf 9)) = some y3 := hf 3 _ rfl
  have f4 : DataW.trod enc Tryd.prog M 0 (fun _ => true) true n' 22 (([a, b, c, d, e].drop 4).take (Tryd.prog.cellsOf 22)) = some y4 := hf 4 _ rfl
  rw [c3] at f0 f1 f2
  rw [c9] at f3
  rw [c22] at f4
  simp only [List.drop_zero, List.drop_succ_cons, List.take_succ_cons, List.take_zero] at f0 f1 f2 f3 f4
  obtain ⟨k, e0, _⟩ := arg_int Tryd.underlying3 f0
  obtain ⟨id, e1, hid⟩ := arg_int Tryd.underlying3 f1
  obtain ⟨num, e2, hnum⟩ := arg_int Tryd.underlying3 f2
  obtain ⟨t, e3, e3'⟩ := arg_str Tryd.underlying9 f3
  simp at e0 e1 e2 e3
  subst e0 e1 e2 e3
  have tl : t.length ≤ 140737488351232 := hw _ (by
    simp only [DataW.weights, Tryd.underlying24, List.map_cons, List.map_nil]
    refine DataW.weights_mem_each (j := 3) (t := 9) (d := y3.1) (by kernel_rfl) rfl _ ?_
    rw [e3']; simp [DataW.weights])
  obtain ⟨β', hs', v, bb, x1, x2, x3, x4, x5, x6, x7, x8⟩ := arg_bytes Tryd.underlying22 Tryd.underlying5 c5 f4 E hro hz
  have bl : bb.length ≤ 140737488351232 := by
    rcases x8 with rfl | ⟨el, sp, e4, e5⟩
    · simp
    · have := hw ((el.length + sp.length) * Tryd.prog.bytesOf 5) (by
        simp only [DataW.weights, Tryd.underlying24, List.map_cons, List.map_nil]
        refine DataW.weights_mem_each (j := 4) (t := 22) (d := y4.1) (by kernel_rfl) rfl _ ?_
        rw [e4]; simp [DataW.weights, Tryd.underlying22])
      have b5 : Tryd.prog.bytesOf 5 = 1 := by kernel_rfl
      rw [b5] at this
      have hr : reachBytes = 140737488351232 := rfl
      omega
  refine ⟨β', hs', v, k, id, num, t, bb, x1, x2, x3, x4, ?_, x6, bl, hid, hnum, tl⟩
  simp only [RelL] at x5 ⊢
  obtain ⟨u, us, h1, h2, rfl⟩ := x5
  simp at h1; subst h1
  exact ⟨_, _, rfl, rfl, _, _, rfl, rfl, _, _, rfl, rfl, _, _, rfl, rfl, _, _, rfl, h2, rfl⟩

theorem pow_of_laidR {W : World} (h : laidMetH Tryd.prog Rows.answersWriteRow.laid W) : Lib.TabIs Tryd.prog W "internal/strconv.uint64pow10" .u64 Lib.pow10Tab := by
  rw [MakeChecks.laidMetH_plain _ _ _ (by kernel_rfl)] at h
  have h2 : laidMet Tryd.prog [("internal/strconv.uint64pow10", Lib.tabData .u64 Lib.pow10Tab)] W := h.tail.tail
  exact Lib.tabIs_of_head (g := 1) (by kernel_rfl) (by kernel_rfl) Tryd.underlying113 Tryd.underlying106 (by kernel_rfl) (by kernel_rfl) h2
theorem door_met (os : Os) (args : Array Value) : laidMetH Tryd.prog Rows.answersWriteRow.laid ((World.doorLaid Tryd.prog 4000 os).forCall (fun _ _ => 0) ⟨#[], args, []⟩).memory :=
  laidMetH_of_parts3 (fuel := 8) (laidMet_of_run' 8 (by kernel_rfl) (by kernel_rfl)) (by kernel_rfl) (by kernel_rfl)

theorem write_lifted (os : Os) (started : os.Started) (H : Type) (enc : TypeId × Value → H) :
    ReturnsInHanded {} Tryd.checked os 3 .any (fun w args => (Rows.answersWriteSpec.pre enc Tryd.prog Tryd.f3 [] false w args ∧ laidMetH Tryd.prog Rows.answersWriteRow.laid w) ∧ sizedMet enc Tryd.prog Tryd.f3 (OpenSpec.ofChange Rows.answersWriteSpec) false w args)
      (Rows.answersWriteSpec.post enc Tryd.prog Tryd.f3 false true false false) := by
  refine returnsInHanded_of_change_and (C := Tryd.checked) (X := fun w _ => laidMetH Tryd.prog Rows.answersWriteRow.laid w) (fun _ _ _ hh h => h.of_heap hh) own started (by kernel_rfl) Tryd.func3
    (ChangeSpec.witness_shaped (enc := enc) (C := Tryd.checked) (os := os) (X := fun w _ => laidMetH Tryd.prog Rows.answersWriteRow.laid w) false (World.doorLaid Tryd.prog 4000 os) #[.agg #[.int .i64 0, .int .i64 0, .int .i64 0, .string ⟨#[]⟩, .slice none 0 0], .agg #[.int .i64 0, .int .i64 0, .int .i64 0, .string ⟨#[]⟩, .slice none 0 0]] 8 rfl
      (World.shaped_of_RefB (by kernel_rfl) (by kernel_rfl)) (by kernel_rfl) (by kernel_rfl) (by kernel_rfl) (door_met os _)) ?_
  intro W base args ds gs before hval0 hW _ hsz0 hL _
  have hval : ∀ (j : Nat) t v, Tryd.f3.params[j]? = some t → args[j]? = some v → Value.okWide Tryd.prog W .any base t v := hval0
  have hW' := hW
  obtain ⟨p, q, hA0, hV, rfl, hfz, hnd⟩ := hW
  have hA : DataW.TrodAll enc Tryd.prog W 0 (fun _ => true) true Tryd.f3.params.toList args.toList ds p := hA0
  rw [Tryd.params3] at hA hval
  obtain ⟨v0, v1, d0, d1, p0, p1, rfl, rfl, rfl, h0, h1⟩ := trodAll_two hA
  obtain ⟨rfl, rfl⟩ := trodVars_none hV
  have hsz : (DataW.weightsEach Tryd.prog (Tryd.f3.params.toList ++ Rows.answersWriteSpec.plain.varTypes Tryd.prog) ([d0, d1] ++ [])).all (· ≤ reachBytes) = true := hsz0
  rw [Tryd.params3] at hsz
  have hwt : ∀ (j : Nat) (d : DataW H), [d0, d1][j]? = some d → ∀ n ∈ d.weights Tryd.prog 24, n ≤ reachBytes := fun j d hd n hn => by
    have hj : j < 2 := lt_of_get hd
    have := List.all_eq_true.1 hsz n (DataW.weights_mem_each (j := j) (t := 24) (d := d) (by rcases (show j = 0 ∨ j = 1 by omega) with rfl | rfl <;> rfl) (by simpa using hd) n hn)
    simpa using this
  obtain ⟨us0, rfl, _⟩ := okWide_struct Tryd.underlying24 (hval 0 24 v0 rfl rfl)
  obtain ⟨us1, rfl, _⟩ := okWide_struct Tryd.underlying24 (hval 1 24 v1 rfl rfl)
  obtain ⟨fu0, hf0⟩ := h0
  obtain ⟨fu1, hf1⟩ := h1
  have E0 : Emb _ hs1 W := emb_tab3 (g := 1) (by kernel_rfl) (pow_of_laidR hL)
  obtain ⟨β1, g1, a, k, id, num, t, x, ext1, ⟨q1, hg1⟩, E1, ro1', R1, S1, l1, i1, n1, t1⟩ := reply_of2 hf0 E0 ro1 (z := 0) rfl (hwt 0 d0 rfl)
  have hz1 : g1[0]? = some (some (.cells 1 (Lib.pow10Tab.map (HV.int .u64)) true false [])) := by rw [hg1]; rfl
  obtain ⟨β2, g2, b, k', id', num', t', y, ext2, ⟨q2, hg2⟩, E2, ro2', R2, S2, l2, i2, n2, t2⟩ := reply_of2 hf1 E1 ro1' (z := 0) hz1 (hwt 1 d1 rfl)
  have hR : RelL β2 [.agg [.int .i64 k, .int .i64 id, .int .i64 num, .str t, a], .agg [.int .i64 k', .int .i64 id', .int .i64 num', .str t', b]] [.agg us0, .agg us1] := by
    simp only [RelL]
    exact ⟨_, _, rfl, ⟨us0, rfl, R1.mono ext2 _ _⟩, _, _, rfl, ⟨us1, rfl, R2⟩, rfl⟩
  have S1' : SlAt g2 a (bcells x) := by rw [hg2]; exact S1.mono ⟨_, rfl⟩
  have ht : ∀ L, hasTab (g2 ++ L) 1 .u64 Lib.pow10Tab = true := fun L => by
    rw [hg2, hg1, List.append_assoc, List.append_assoc]
    exact tab_hs1 _
  refine (HC.below E2 hR ro2' (law3 (k := k) (id := id) (num := num) (t := t) (k' := k') (id' := id') (num' := num') (t' := t') ⟨S1', i1, n1, t1⟩ ⟨S2, i2, n2, t2⟩ l1 ht)).mono fun e W' ⟨he, hb⟩ => ?_
  subst he
  exact ⟨_, rfl, law_post (s := Rows.answersWriteSpec) (tb := 4) laidOut rfl Tryd.underlying4 (by kernel_rfl) (by kernel_rfl) hW' rfl hb⟩

theorem answersWrite_holds : Rows.AnswersWriteSaid :=
  OpenClaim.holds_of_wide 3 Tryd.f3 rfl rfl rfl rfl rfl rfl rfl ⟨rfl, rfl, rfl, rfl, rfl⟩ rfl rfl rfl rfl rfl (by kernel_rfl) Tryd.func3 (by kernel_rfl)
    (of_decide_eq_true (by kernel_rfl)) (by unfold Func.isWrapper; first | (rw [if_pos (by decide +kernel)]; kernel_rfl) | (rw [if_neg (by decide +kernel)]; exact ⟨rfl, rfl⟩))
    (fun os started H enc _ => write_lifted os started H enc)
theorem answersWrite_card : Rows.AnswersWriteCardSaid :=
  Claim7.holds_tied_plain_at .later [] [.data, .data, .data] true (true, "3be225ab453c6466d7f63442660e50a7e36c9de0142be2d08a6cdb186564816d") false
    answersWrite_holds (fun _ h => by cases h) (by kernel_rfl) (fun _ h => by cases h) answersWrite_row_tie rfl ⟨rfl, rfl⟩ (by kernel_rfl) rfl
    (fun f fn hf hfn => by
      obtain rfl : f = 3 := Option.some.inj ((show Tryd.prog.funcNamed "stint/stintlaw08.AnswersWrite" = some 3 by kernel_rfl).symm.trans hf) |>.symm
      obtain rfl : fn = Tryd.f3 := (Option.some.inj (Tryd.func3.symm.trans hfn)).symm
      exact ⟨by kernel_rfl, fun j t ht => by
        rw [Tryd.params3] at ht
        have hm : t ∈ [24, 24] := by simpa using Array.mem_of_getElem? ht
        have hall : ([24, 24].all fun u => !Tryd.prog.wantsStandIn u) = true := by kernel_rfl
        exact (show Tryd.prog.wantsStandIn t = false by simpa using List.all_eq_true.1 hall t hm)⟩)
    (by kernel_rfl)
#print axioms answersWrite_card
end K
end Go.Proofs.YthihchoccpnfeaaDoor
