/-
  Proved: the law AnswersUnlike (stintlaw08) returns true at every two replies (the tied card).
-/
import Derived.Test.YthihchoccpnfeaaDoorRows
import Derived.Test.YthihchoccpnfeaaDoorG
import Derived.Test.YthihchoccpnfeaaDoorHLOpen
import Derived.Test.YthihchoccpnfeaaDoorHLRow
import Derived.Test.YthihchoccpnfeaaDoorCards
import Derived.Test.YthihchoccpnfeaaDoorTie
import Derived.ProofKit
import Derived.Lib.LaidTab
import Derived.Stop.LaidErr
import Derived.MakeChecks
import Derived.LaidMore
import Derived.OpenShut
import Derived.Stop.Joined
import Derived.SevenTiedAt
import Derived.SizedLaws
namespace Go.Proofs.YthihchoccpnfeaaDoor
open Go Go.HL Go.ChangeShapes Go.WideShapes Go.ChangeAt Go.ChangeMaps Go.RowKit Go.WideMaps Go.WideElems Go.Shelf
namespace A
set_option maxRecDepth 100000
set_option maxHeartbeats 4000000
set_option linter.unusedSimpArgs false
theorem own : ownKnob Tryd.prog.godebug = none := by kernel_rfl
theorem laidOut : laidOutB Tryd.prog = true := by kernel_rfl
def hs1 : HS := [some (.cells 1 (Lib.pow10Tab.map (HV.int .u64)) true false []), some (.gpin 1 0), some (.gtab 1 .u64 Lib.pow10Tab)]
theorem emb_tab3 {P : Program} {w : World} {name : String} {k : IntKind} {zs : List Int} {g : Nat} (hg : P.globalNamed name = some g) (h : Lib.TabIs P w name k zs) :
    Emb [⟨g, 0, zs.length, 1⟩, ⟨g, 0, 1, 1⟩, ⟨g, 0, 1, 1⟩] [some (.cells 1 (zs.map (HV.int k)) true false []), some (.gpin g 0), some (.gtab g k zs)] w := by
  have hb : ∃ t fz, w.heap[g]? = some (.cells (zs.map fun z => Value.int k z).toArray t fz) := by
    unfold Lib.TabIs at h
    simp only [World.var?, hg, Option.bind_some] at h
    split at h
    · rename_i cs t fz hc
      simp at h; subst h
      exact ⟨t, fz, by simpa using hc⟩
    · simp at h
  obtain ⟨t, fz, hb⟩ := hb
  refine ⟨rfl, fun i e b h1 h2 => ?_, fun i j e e' b b' _ _ _ _ h4 _ hro => ?_⟩
  · have hi : i = 0 ∨ i = 1 ∨ i = 2 := by have := lt_of_get h1; simp at this; omega
    rcases hi with rfl | rfl | rfl
    · simp at h1 h2; subst h1 h2
      refine ⟨rfl, _, t, fz, hb, fun h => by simp at h, by simp, by simp, fun i x hx => ?_⟩
      rw [List.getElem?_map, Option.map_eq_some_iff] at hx
      obtain ⟨z, hz, rfl⟩ := hx
      exact ⟨.int k z, by simp [hz], rfl, rfl⟩
    · simp at h1 h2; subst h1 h2
      exact ⟨rfl, rfl, ⟨_, hb⟩, _, rfl, rfl, rfl⟩
    · simp at h1 h2; subst h1 h2
      exact ⟨rfl, rfl, t, fz, hb⟩
  · have hj : j = 0 ∨ j = 1 ∨ j = 2 := by have := lt_of_get h4; simp at this; omega
    rcases hj with rfl | rfl | rfl
    · simp at h4; subst h4; simp [HB.ro] at hro
    · simp at h4; subst h4; simp [HB.ro] at hro
    · simp at h4; subst h4; simp [HB.ro] at hro
theorem ro1 : AllRo hs1 := by
  intro i b h
  have hi : i = 0 ∨ i = 1 ∨ i = 2 := by have := lt_of_get h; simp [hs1] at this; omega
  rcases hi with rfl | rfl | rfl <;> (simp [hs1] at h; subst h; rfl)
theorem tab_hs1 (L : HS) : hasTab (hs1 ++ L) 1 .u64 Lib.pow10Tab = true := by simp [hs1, hasTab]

/-- a reply that was handed in. -/
theorem reply_of {H : Type} {enc : TypeId × Value → H} {M : World} {fuel : Nat} {cs : List Value} {x : DataW H × List MemPlace} (h : DataW.trod enc Tryd.prog M 0 (fun _ => true) true fuel 24 cs = some x) {β : List Ent} {hs : HS} (E : Emb β hs M) (hro : AllRo hs)
    {z : Nat} {zc : List HV} {zo zn : Bool} {zl : List Nat} (hz : hs[z]? = some (some (.cells 1 zc zo zn zl))) (hw : ∀ n ∈ x.1.weights Tryd.prog 24, n ≤ reachBytes) :
    ∃ (β' : List Ent) (hs' : HS) (v : HV) (k id num : Int) (t b : List UInt8), Ext β β' ∧ (∃ g, hs' = hs ++ g) ∧ Emb β' hs' M ∧ AllRo hs' ∧ RelL β' [.int .i64 k, .int .i64 id, .int .i64 num, .str t, v] cs ∧ SlAt hs' v (bcells b) ∧ b.length ≤ 9223372036854775807 ∧
      (-9223372036854775808 ≤ id ∧ id ≤ 9223372036854775807) ∧ (-9223372036854775808 ≤ num ∧ num ≤ 9223372036854775807) ∧ t.length ≤ 140737488351232 := by
  obtain ⟨xs, n', rfl, rfl, hl, hxl, hf⟩ := DataW.trod_struct Tryd.underlying24 h
  have c24 : Tryd.prog.cellsOf 24 = 5 := by kernel_rfl
  have c3 : Tryd.prog.cellsOf 3 = 1 := by kernel_rfl
  have c9 : Tryd.prog.cellsOf 9 = 1 := by kernel_rfl
  have c22 : Tryd.prog.cellsOf 22 = 1 := by kernel_rfl
  have c5 : Tryd.prog.cellsOf 5 = 1 := by kernel_rfl
  rw [c24] at hl
  obtain ⟨a, b, c, d, e, rfl⟩ : ∃ a b c d e, cs = [a, b, c, d, e] := by
    match cs, hl with
    | [a, b, c, d, e], _ => exact ⟨a, b, c, d, e, rfl⟩
  obtain ⟨y0, y1, y2, y3, y4, rfl⟩ : ∃ a b c d e, xs = [a, b, c, d, e] := by
    match xs, hxl with
    | [a, b, c, d, e], _ => exact ⟨a, b, c, d, e, rfl⟩
  have f0 : DataW.trod enc Tryd.prog M 0 (fun _ => true) true n' 3 (([a, b, c, d, e].drop 0).take (Tryd.prog.cellsOf 3)) = some y0 := hf 0 _ rfl
  have f1 : DataW.trod enc Tryd.prog M 0 (fun _ => true) true n' 3 (([a, b, c, d, e].drop 1).take (Tryd.prog.cellsOf 3)) = some y1 := hf 1 _ rfl
  have f2 : DataW.trod enc Tryd.prog M 0 (fun _ => true) true n' 3 (([a, b, c, d, e].drop 2).take (Tryd.prog.cellsOf 3)) = some y2 := hf 2 _ rfl
  have f3 : DataW.trod enc Tryd.prog M 0 (fun _ => true) true n' 9 (([a, b, c, d, e].drop 3).take (Tryd.prog.cellsOf 9)) = some y3 := hf 3 _ rfl
  have f4 : DataW.trod enc Tryd.prog M 0 (fun _ => true) true n' 22 (([a, b, c, d, e].drop 4).take (Tryd.prog.cellsOf 22)) = some y4 := hf 4 _ rfl
  rw [c3] at f0 f1 f2
  rw [c9] at f3
  rw [c22] at f4
  simp only [List.drop_zero, List.drop_succ_cons, List.take_succ_cons, List.take_zero] at f0 f1 f2 f3 f4
  obtain ⟨k, e0, _⟩ := arg_int Tryd.underlying3 f0
  obtain ⟨id, e1, hid⟩ := arg_int Tryd.underlying3 f1
  obtain ⟨num, e2, hnum⟩ := arg_int Tryd.underlying3 f2
  obtain ⟨t, e3, e3'⟩ := arg_str Tryd.underlying9 f3
  simp at e0 e1 e2 e3
  subst e0 e1 e2 e3
  have tl : t.length ≤ 140737488351232 := hw _ (by
    simp only [DataW.weights, Tryd.underlying24, List.map_cons, List.map_nil]
    refine DataW.weights_mem_each (j := 3) (t := 9) (d := y3.1) (by kernel_rfl) rfl _ ?_
    rw [e3']; simp [DataW.weights])
  obtain ⟨β', hs', v, bb, x1, x2, x3, x4, x5, x6, x7, _⟩ := arg_bytes Tryd.underlying22 Tryd.underlying5 c5 f4 E hro hz
  refine ⟨β', hs', v, k, id, num, t, bb, x1, x2, x3, x4, ?_, x6, x7, hid, hnum, tl⟩
  simp only [RelL] at x5 ⊢
  obtain ⟨u, us, h1, h2, rfl⟩ := x5
  simp at h1; subst h1
  exact ⟨_, _, rfl, rfl, _, _, rfl, rfl, _, _, rfl, rfl, _, _, rfl, rfl, _, _, rfl, h2, rfl⟩

theorem pow_of_laidR {W : World} (h : laidMetH Tryd.prog Rows.answersUnlikeRow.laid W) : Lib.TabIs Tryd.prog W "internal/strconv.uint64pow10" .u64 Lib.pow10Tab := by
  rw [MakeChecks.laidMetH_plain _ _ _ (by kernel_rfl)] at h
  have h2 : laidMet Tryd.prog [("internal/strconv.uint64pow10", Lib.tabData .u64 Lib.pow10Tab)] W := h.tail.tail
  exact Lib.tabIs_of_head (g := 1) (by kernel_rfl) (by kernel_rfl) Tryd.underlying113 Tryd.underlying106 (by kernel_rfl) (by kernel_rfl) h2
theorem door_met (os : Os) (args : Array Value) : laidMetH Tryd.prog Rows.answersUnlikeRow.laid ((World.doorLaid Tryd.prog 4000 os).forCall (fun _ _ => 0) ⟨#[], args, []⟩).memory :=
  laidMetH_of_parts3 (fuel := 8) (laidMet_of_run' 8 (by kernel_rfl) (by kernel_rfl)) (by kernel_rfl) (by kernel_rfl)

theorem unlike_lifted (os : Os) (started : os.Started) (H : Type) (enc : TypeId × Value → H) :
    ReturnsInHanded {} Tryd.checked os 6 .any (fun w args => (Rows.answersUnlikeSpec.pre enc Tryd.prog Tryd.f6 [] false w args ∧ laidMetH Tryd.prog Rows.answersUnlikeRow.laid w) ∧ sizedMet enc Tryd.prog Tryd.f6 (OpenSpec.ofChange Rows.answersUnlikeSpec) false w args)
      (Rows.answersUnlikeSpec.post enc Tryd.prog Tryd.f6 false true false false) := by
  refine returnsInHanded_of_change_and (C := Tryd.checked) (X := fun w _ => laidMetH Tryd.prog Rows.answersUnlikeRow.laid w) (fun _ _ _ hh h => h.of_heap hh) own started (by kernel_rfl) Tryd.func6
    (ChangeSpec.witness_shaped (enc := enc) (C := Tryd.checked) (os := os) (X := fun w _ => laidMetH Tryd.prog Rows.answersUnlikeRow.laid w) false (World.doorLaid Tryd.prog 4000 os) #[.agg #[.int .i64 0, .int .i64 0, .int .i64 0, .string ⟨#[]⟩, .slice none 0 0], .agg #[.int .i64 0, .int .i64 0, .int .i64 0, .string ⟨#[]⟩, .slice none 0 0]] 8 rfl
      (World.shaped_of_RefB (by kernel_rfl) (by kernel_rfl)) (by kernel_rfl) (by kernel_rfl) (by kernel_rfl) (door_met os _)) ?_
  intro W base args ds gs before hval0 hW _ hsz0 hL _
  have hval : ∀ (j : Nat) t v, Tryd.f6.params[j]? = some t → args[j]? = some v → Value.okWide Tryd.prog W .any base t v := hval0
  have hW' := hW
  obtain ⟨p, q, hA0, hV, rfl, hfz, hnd⟩ := hW
  have hA : DataW.TrodAll enc Tryd.prog W 0 (fun _ => true) true Tryd.f6.params.toList args.toList ds p := hA0
  rw [Tryd.params6] at hA hval
  obtain ⟨v0, v1, d0, d1, p0, p1, rfl, rfl, rfl, h0, h1⟩ := trodAll_two hA
  obtain ⟨rfl, rfl⟩ := trodVars_none hV
  have hsz : (DataW.weightsEach Tryd.prog (Tryd.f6.params.toList ++ Rows.answersUnlikeSpec.plain.varTypes Tryd.prog) ([d0, d1] ++ [])).all (· ≤ reachBytes) = true := hsz0
  rw [Tryd.params6] at hsz
  have hwt : ∀ (j : Nat) (d : DataW H), [d0, d1][j]? = some d → ∀ n ∈ d.weights Tryd.prog 24, n ≤ reachBytes := fun j d hd n hn => by
    have hj : j < 2 := lt_of_get hd
    have := List.all_eq_true.1 hsz n (DataW.weights_mem_each (j := j) (t := 24) (d := d) (by rcases (show j = 0 ∨ j = 1 by omega) with rfl | rfl <;> rfl) (by simpa using hd) n hn)
    simpa using this
  obtain ⟨us0, rfl, _⟩ := okWide_struct Tryd.underlying24 (hval 0 24 v0 rfl rfl)
  obtain ⟨us1, rfl, _⟩ := okWide_struct Tryd.underlying24 (hval 1 24 v1 rfl rfl)
  obtain ⟨fu0, hf0⟩ := h0
  obtain ⟨fu1, hf1⟩ := h1
  have E0 : Emb _ hs1 W := emb_tab3 (g := 1) (by kernel_rfl) (pow_of_laidR hL)
  obtain ⟨β1, g1, a, k, id, num, t, x, ext1, ⟨q1, hg1⟩, E1, ro1', R1, S1, l1, i1, n1, t1⟩ := reply_of hf0 E0 ro1 (z := 0) rfl (hwt 0 d0 rfl)
  have hz1 : g1[0]? = some (some (.cells 1 (Lib.pow10Tab.map (HV.int .u64)) true false [])) := by rw [hg1]; rfl
  obtain ⟨β2, g2, b, k', id', num', t', y, ext2, ⟨q2, hg2⟩, E2, ro2', R2, S2, l2, i2, n2, t2⟩ := reply_of hf1 E1 ro1' (z := 0) hz1 (hwt 1 d1 rfl)
  have hR : RelL β2 [.agg [.int .i64 k, .int .i64 id, .int .i64 num, .str t, a], .agg [.int .i64 k', .int .i64 id', .int .i64 num', .str t', b]] [.agg us0, .agg us1] := by
    simp only [RelL]
    exact ⟨_, _, rfl, ⟨us0, rfl, R1.mono ext2 _ _⟩, _, _, rfl, ⟨us1, rfl, R2⟩, rfl⟩
  have S1' : SlAt g2 a (bcells x) := by rw [hg2]; exact S1.mono ⟨_, rfl⟩
  have ht : ∀ L, hasTab (g2 ++ L) 1 .u64 Lib.pow10Tab = true := fun L => by
    rw [hg2, hg1, List.append_assoc, List.append_assoc]
    exact tab_hs1 _
  refine (HC.below E2 hR ro2' (law6 S1' S2 (by omega) (by omega) ht k id num k' id' num' t t' i1 n1 i2 n2 t1 t2)).mono fun e W' ⟨he, hb⟩ => ?_
  subst he
  exact ⟨_, rfl, law_post (s := Rows.answersUnlikeSpec) (tb := 4) laidOut rfl Tryd.underlying4 (by kernel_rfl) (by kernel_rfl) hW' rfl hb⟩

theorem answersUnlike_holds : Rows.AnswersUnlikeSaid :=
  OpenClaim.holds_of_wide 6 Tryd.f6 rfl rfl rfl rfl rfl rfl rfl ⟨rfl, rfl, rfl, rfl, rfl⟩ rfl rfl rfl rfl rfl (by kernel_rfl) Tryd.func6 (by kernel_rfl)
    (of_decide_eq_true (by kernel_rfl)) (by unfold Func.isWrapper; first | (rw [if_pos (by decide +kernel)]; kernel_rfl) | (rw [if_neg (by decide +kernel)]; exact ⟨rfl, rfl⟩))
    (fun os started H enc _ => unlike_lifted os started H enc)
theorem answersUnlike_card : Rows.AnswersUnlikeCardSaid :=
  Claim7.holds_tied_plain_at .later [] [.data, .data, .data] true (true, "3be225ab453c6466d7f63442660e50a7e36c9de0142be2d08a6cdb186564816d") false
    answersUnlike_holds (fun _ h => by cases h) (by kernel_rfl) (fun _ h => by cases h) answersUnlike_row_tie rfl ⟨rfl, rfl⟩ (by kernel_rfl) rfl
    (fun f fn hf hfn => by
      obtain rfl : f = 6 := Option.some.inj ((show Tryd.prog.funcNamed "stint/stintlaw08.AnswersUnlike" = some 6 by kernel_rfl).symm.trans hf) |>.symm
      obtain rfl : fn = Tryd.f6 := (Option.some.inj (Tryd.func6.symm.trans hfn)).symm
      exact ⟨by kernel_rfl, fun j t ht => by
        rw [Tryd.params6] at ht
        have hm : t ∈ [24, 24] := by simpa using Array.mem_of_getElem? ht
        have hall : ([24, 24].all fun u => !Tryd.prog.wantsStandIn u) = true := by kernel_rfl
        exact (show Tryd.prog.wantsStandIn t = false by simpa using List.all_eq_true.1 hall t hm)⟩)
    (by kernel_rfl)
#print axioms answersUnlike_card
end A
end Go.Proofs.YthihchoccpnfeaaDoor
