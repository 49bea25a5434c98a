/-
  stintlaw08: what is lent: copied, lent, lentReply, still.
  stintlaw08.held in use: what was handed out is kept; what Put hands out.
-/
import Derived.Test.YthihchoccpnfeaaDoorH2
import Derived.Test.YthihchoccpnfeaaDoorK3
import Derived.Test.YthihchoccpnfeaaDoorG
namespace Go.Proofs.YthihchoccpnfeaaDoor
open Go Go.HL Go.Shelf V
namespace K
open A
set_option maxRecDepth 100000
set_option maxHeartbeats 40000000
set_option linter.unusedSimpArgs false
theorem ok10 : okF Tryd.prog 10 := ⟨_, Tryd.func10, by kernel_rfl, by kernel_rfl⟩
theorem ok15 : okF Tryd.prog 15 := ⟨_, Tryd.func15, by kernel_rfl, by kernel_rfl⟩
theorem ok34 : okF Tryd.prog 34 := ⟨_, Tryd.func34, by kernel_rfl, by kernel_rfl⟩
theorem a3 : hbin .add none (.int .i64 3) (.int .i64 1) = some (.int .i64 4) := rfl
theorem a4 : hbin .add none (.int .i64 4) (.int .i64 1) = some (.int .i64 5) := rfl
theorem a5 : hbin .add none (.int .i64 5) (.int .i64 1) = some (.int .i64 6) := rfl
theorem a6 : hbin .add none (.int .i64 6) (.int .i64 1) = some (.int .i64 7) := rfl
theorem a7 : hbin .add none (.int .i64 7) (.int .i64 1) = some (.int .i64 8) := rfl
theorem n0 : decide ((0 : Int) < 8) = true := rfl
theorem n1 : decide ((1 : Int) < 8) = true := rfl
theorem n2 : decide ((2 : Int) < 8) = true := rfl
theorem n3 : decide ((3 : Int) < 8) = true := rfl
theorem n4 : decide ((4 : Int) < 8) = true := rfl
theorem n5 : decide ((5 : Int) < 8) = true := rfl
theorem n6 : decide ((6 : Int) < 8) = true := rfl
theorem n7 : decide ((7 : Int) < 8) = true := rfl
theorem n8 : decide ((8 : Int) < 8) = false := rfl
/-- the marks behind what is lent. -/
def marks : List UInt8 := [165, 165, 165, 165, 165, 165, 165, 165]
theorem bs0 (g : HS) : hbuildSlice g 1 0 [] [] = some (.slice g.length 0 0 (some 0), g ++ [some (.cells 1 (bcells []) false false [])]) := rfl
theorem bs165 (g : HS) : hbuildSlice g 1 1 [.int .u8 0] [(0, 1, .int .u8 165)] = some (.slice g.length 0 1 (some 1), g ++ [some (.cells 1 (bcells [165]) false false [])]) := rfl
def apF (g : HS) (h : Nat) (t : Option (Nat × List HV)) : Option (HV × HS) := match t with
  | some (m, ns) => if m = 0 then some (.slice h 0 0 (some 0), g) else if roomFor (0 + m) 1 = true ∧ 0 + m ≤ maxLen then some (.slice g.length 0 m none, g ++ [some (.cells 1 ns false true [])]) else none
  | none => none
theorem va_apF {g : HS} {h : Nat} {y : HV} : happend g 1 1 (.slice h 0 0 (some 0)) y = apF g h (takeCells g 1 y) := by
  cases ht : takeCells g 1 y with
  | none => unfold happend; rw [ht]; rfl
  | some p =>
    obtain ⟨m, ns⟩ := p
    unfold happend apF
    rw [ht]
    simp only
    by_cases h0 : m = 0
    · rw [if_pos h0, if_pos h0]
    · rw [if_neg h0, if_neg h0, if_neg (show ¬ (0 + m ≤ 0) by omega)]
      have hk : takeCells g 1 (.slice h 0 0 (some 0)) = some (0, []) := by unfold takeCells; simp
      rw [hk]
      simp only [List.nil_append, Nat.zero_add]
theorem apF_b {g : HS} {h m : Nat} {w : List UInt8} (hm : m = w.length) (h0 : m ≠ 0) (hb : m ≤ 140737488355328) : apF g h (some (m, bcells w)) = some (.slice g.length 0 m none, g ++ [some (.cells 1 (bcells w) false true [])]) := by
  have hmax : maxLen = 9223372036854775807 := rfl
  unfold apF
  simp only
  rw [if_neg h0, if_pos ⟨roomFor_of (by omega), by omega⟩]
theorem apF_0 {g : HS} {h : Nat} {ns : List HV} : apF g h (some (0, ns)) = some (.slice h 0 0 (some 0), g) := rfl

theorem leafS {hs L : HS} {j len : Nat} {w Y : List UInt8} {olds : List Nat} (hL : L[j]? = some (some (.cells 1 (bcells w) false true olds))) (ho : ∀ q ∈ olds, ∃ i, q = hs.length + i ∧ i ≠ j) (hw : Y = w) (hlen : len = w.length) :
    ∃ L' offs, hs ++ L = hs ++ L' ∧ okOffs L'.length offs = true ∧ rv (relRho hs.length offs) (.slice (hs.length + j) 0 len none) = .slice hs.length 0 Y.length none ∧ hs ++ HL.pickT hs.length offs L' = hs ++ [some (.cells 1 (bcells Y) false true [])] := by
  subst hw hlen
  obtain ⟨t1, t2, t3⟩ := tailB (hs := hs) (len := Y.length) hL ho
  refine ⟨L, [j], rfl, t1, ?_, by rw [t3]⟩
  have hp : relRho hs.length [j] (hs.length + j) = some hs.length := by rw [relRho_off]; simp [posIn]
  simp [rv, renV, hp]

theorem cp18e {hs : HS} {v : HV} (hb : ∀ L, takeCells (hs ++ L) 1 v = some (0, [])) : HC Tryd.prog 18 [v] hs fun r hs' => r = .slice hs.length 0 0 (some 0) ∧ hs' = hs ++ [some (.cells 1 (bcells []) false false [])] := by
  refine HC.wp mixed Tryd.func18 c18 ?_
  simp -implicitDefEqProofs (disch := first | omega | decide | exact rfl | exact Nat.le_of_ble_eq_true rfl | assumption | (simp only [List.length_append, List.length_cons, List.length_nil, List.drop_zero, List.length_drop] <;> omega)) only [vwp_skip, vwp_ret, vwp_exit, vwp_lab, vwp_seq, vwp_cond, vwp_block, vwp_scope, vwp_region, vwp_draw, vwp_loop, vwp_range, vcnd_tt, vcnd_ff, vthen_normal, vthen_ret, vthen_exit, vblock_normal, vblock_ret, vblock_exit, vreg_nil, vreg_cons, vhl_nil, vhl_op, vhl_guard, vguard_tt, vguard_ff, vguard_tf, vguard_ft, vguard_no, vact_op, vop_some, vput_some, vput_none, vsame_sm, vunit_sm, vget_nil, vget_cons, vget_some,
    vo_mv, vo_bin, vo_un, vo_ext, vo_len, vo_idxS, vo_idxStr, vo_load, vo_pick, vo_append, vo_bslice, evp, vo_nilc, vo_faddr, vo_store, vo_sliceSl, vo_sliceStr, vo_cInt, vo_copy, vo_mkSlice, vo_box, vo_build, vo_b2s, vb2s_sl, vb2s_nil, vcInt, vnil_ptr, vo_mkMap, vo_mkfn, vo_lookup, vo_mapUpd, vo_del, vdel_some, vo_rangeMap, vo_entry, vfaddr_ptr, beq_self_eq_true, eq_self, decide_true, decide_false, vb_lss, vb_leq, vb_gtr, vb_geq, vb_eql, vb_neq, vb_seql, vb_sneq, vb_beql, vb_bneq, vun_not, vlen_str, vlen_sl, vlen_nil, vext_tup, HX.ev, List.length_cons, List.length_nil, List.append_nil, List.nil_append, List.cons_append, List.set_cons_succ, List.set_cons_zero, List.getElem?_cons_succ, List.getElem?_cons_zero, Option.getD_some, Option.map_some, Option.map_none, List.map_cons, List.map_nil, if_true, Bool.not_true, Bool.not_false, Bool.false_eq_true, if_false, va_load, va_ld, va_loadA, va_ldA, va_store, va_st1, va_stn, va_kill0, va_killS, va_box1, va_boxA, get_base, get_base0, set_base, set_base0, List.length_append, Nat.reduceAdd, Nat.zero_add, List.append_assoc, vo_s2b, vo_minmax, va_min2, va_max2, va_minl, List.drop_zero, List.drop_succ_cons, List.take_succ_cons, List.take_zero, vdr_nil, vdr_cons, vdr_op, vdr_some, vdr_loud, vdr_lsome, HOp.looks, vholds_cons, vholds_nil, implies_true, true_and, and_true, vres_tmp, vres_tmp2, vres_none, vres_cell1, vres_k, vres_cell2, vres_k2, vend_ret, vend_normal, vex_some, vdr_guard, vdg_tt, vdg_ff, vdg_tf, vdg_ft, vdg_no, vo_pick, va_s2b, va_takeS, va_takeN, va_app, va_apB, va_ap0, vsadd, Nat.reduceEqDiff, va_sOk, va_sOkN, va_sOk1, va_slLo, va_slHi, va_slBoth, va_slLoC, va_slHiC, va_slBothC, va_nilHi, va_nilLo, va_nilNone, h18, bs0, va_apF, hb, apF_0, frame0, List.replicate, Nat.sub]
theorem cp18n {hs : HS} {v : HV} {b : List UInt8} (hb : ∀ L, takeCells (hs ++ L) 1 v = some (b.length, bcells b)) (hbl : b.length ≤ 140737488351232) (h0 : b.length ≠ 0) : HC Tryd.prog 18 [v] hs fun r hs' => r = .slice hs.length 0 b.length none ∧ hs' = hs ++ [some (.cells 1 (bcells b) false true [])] := by
  refine HC.tail ?_
  refine HC.wp mixed Tryd.func18 c18 ?_
  simp -implicitDefEqProofs (disch := first | omega | decide | exact rfl | exact Nat.le_of_ble_eq_true rfl | assumption | (simp only [List.length_append, List.length_cons, List.length_nil, List.drop_zero, List.length_drop] <;> omega)) only [vwp_skip, vwp_ret, vwp_exit, vwp_lab, vwp_seq, vwp_cond, vwp_block, vwp_scope, vwp_region, vwp_draw, vwp_loop, vwp_range, vcnd_tt, vcnd_ff, vthen_normal, vthen_ret, vthen_exit, vblock_normal, vblock_ret, vblock_exit, vreg_nil, vreg_cons, vhl_nil, vhl_op, vhl_guard, vguard_tt, vguard_ff, vguard_tf, vguard_ft, vguard_no, vact_op, vop_some, vput_some, vput_none, vsame_sm, vunit_sm, vget_nil, vget_cons, vget_some,
    vo_mv, vo_bin, vo_un, vo_ext, vo_len, vo_idxS, vo_idxStr, vo_load, vo_pick, vo_append, vo_bslice, evp, vo_nilc, vo_faddr, vo_store, vo_sliceSl, vo_sliceStr, vo_cInt, vo_copy, vo_mkSlice, vo_box, vo_build, vo_b2s, vb2s_sl, vb2s_nil, vcInt, vnil_ptr, vo_mkMap, vo_mkfn, vo_lookup, vo_mapUpd, vo_del, vdel_some, vo_rangeMap, vo_entry, vfaddr_ptr, beq_self_eq_true, eq_self, decide_true, decide_false, vb_lss, vb_leq, vb_gtr, vb_geq, vb_eql, vb_neq, vb_seql, vb_sneq, vb_beql, vb_bneq, vun_not, vlen_str, vlen_sl, vlen_nil, vext_tup, HX.ev, List.length_cons, List.length_nil, List.append_nil, List.nil_append, List.cons_append, List.set_cons_succ, List.set_cons_zero, List.getElem?_cons_succ, List.getElem?_cons_zero, Option.getD_some, Option.map_some, Option.map_none, List.map_cons, List.map_nil, if_true, Bool.not_true, Bool.not_false, Bool.false_eq_true, if_false, va_load, va_ld, va_loadA, va_ldA, va_store, va_st1, va_stn, va_kill0, va_killS, va_box1, va_boxA, get_base, get_base0, set_base, set_base0, List.length_append, Nat.reduceAdd, Nat.zero_add, List.append_assoc, vo_s2b, vo_minmax, va_min2, va_max2, va_minl, List.drop_zero, List.drop_succ_cons, List.take_succ_cons, List.take_zero, vdr_nil, vdr_cons, vdr_op, vdr_some, vdr_loud, vdr_lsome, HOp.looks, vholds_cons, vholds_nil, implies_true, true_and, and_true, vres_tmp, vres_tmp2, vres_none, vres_cell1, vres_k, vres_cell2, vres_k2, vend_ret, vend_normal, vex_some, vdr_guard, vdg_tt, vdg_ff, vdg_tf, vdg_ft, vdg_no, vo_pick, va_s2b, va_takeS, va_takeN, va_app, va_apB, va_ap0, vsadd, Nat.reduceEqDiff, va_sOk, va_sOkN, va_sOk1, va_slLo, va_slHi, va_slBoth, va_slLoC, va_slHiC, va_slBothC, va_nilHi, va_nilLo, va_nilNone, h18, bs0, va_apF, hb, apF_b, frame0, List.replicate, Nat.sub]
  refine leafS (j := 1) rfl ?_ rfl rfl
  simp
theorem lent34e {hs : HS} {v : HV} (hb : ∀ L, takeCells (hs ++ L) 1 v = some (0, [])) :
    HC Tryd.prog 34 [v] hs fun r hs' => r = .slice hs.length 0 marks.length none ∧ hs' = hs ++ [some (.cells 1 (bcells marks) false true [])] := by
  refine HC.tail ?_
  refine HC.wp mixed Tryd.func34 c34 ?_
  simp -implicitDefEqProofs (disch := first | omega | decide | exact rfl | exact Nat.le_of_ble_eq_true rfl | assumption | (simp only [List.length_append, List.length_cons, List.length_nil, List.drop_zero, List.length_drop] <;> omega)) only [vwp_skip, vwp_ret, vwp_exit, vwp_lab, vwp_seq, vwp_cond, vwp_block, vwp_scope, vwp_region, vwp_draw, vwp_loop, vwp_range, vcnd_tt, vcnd_ff, vthen_normal, vthen_ret, vthen_exit, vblock_normal, vblock_ret, vblock_exit, vreg_nil, vreg_cons, vhl_nil, vhl_op, vhl_guard, vguard_tt, vguard_ff, vguard_tf, vguard_ft, vguard_no, vact_op, vop_some, vput_some, vput_none, vsame_sm, vunit_sm, vget_nil, vget_cons, vget_some,
    vo_mv, vo_bin, vo_un, vo_ext, vo_len, vo_idxS, vo_idxStr, vo_load, vo_pick, vo_append, vo_bslice, evp, vo_nilc, vo_faddr, vo_store, vo_sliceSl, vo_sliceStr, vo_cInt, vo_copy, vo_mkSlice, vo_box, vo_build, vo_b2s, vb2s_sl, vb2s_nil, vcInt, vnil_ptr, vo_mkMap, vo_mkfn, vo_lookup, vo_mapUpd, vo_del, vdel_some, vo_rangeMap, vo_entry, vfaddr_ptr, beq_self_eq_true, eq_self, decide_true, decide_false, vb_lss, vb_leq, vb_gtr, vb_geq, vb_eql, vb_neq, vb_seql, vb_sneq, vb_beql, vb_bneq, vun_not, vlen_str, vlen_sl, vlen_nil, vext_tup, HX.ev, List.length_cons, List.length_nil, List.append_nil, List.nil_append, List.cons_append, List.set_cons_succ, List.set_cons_zero, List.getElem?_cons_succ, List.getElem?_cons_zero, Option.getD_some, Option.map_some, Option.map_none, List.map_cons, List.map_nil, if_true, Bool.not_true, Bool.not_false, Bool.false_eq_true, if_false, va_load, va_ld, va_loadA, va_ldA, va_store, va_st1, va_stn, va_kill0, va_killS, va_box1, va_boxA, get_base, get_base0, set_base, set_base0, List.length_append, Nat.reduceAdd, Nat.zero_add, List.append_assoc, vo_s2b, vo_minmax, va_min2, va_max2, va_minl, List.drop_zero, List.drop_succ_cons, List.take_succ_cons, List.take_zero, vdr_nil, vdr_cons, vdr_op, vdr_some, vdr_loud, vdr_lsome, HOp.looks, vholds_cons, vholds_nil, implies_true, true_and, and_true, vres_tmp, vres_tmp2, vres_none, vres_cell1, vres_k, vres_cell2, vres_k2, vend_ret, vend_normal, vex_some, vdr_guard, vdg_tt, vdg_ff, vdg_tf, vdg_ft, vdg_no, vo_pick, va_s2b, va_takeS, va_takeN, va_app, va_apB, va_ap0, vsadd, Nat.reduceEqDiff, va_sOk, va_sOkN, va_sOk1, va_slLo, va_slHi, va_slBoth, va_slLoC, va_slHiC, va_slBothC, va_nilHi, va_nilLo, va_nilNone, h34, frame0, List.replicate, Nat.sub]
  refine vcall_of H.ok18 rfl (cp18e hb) ?_
  rintro _ _ ⟨rfl, rfl⟩
  repeat' first
    | simp -implicitDefEqProofs (disch := first | omega | decide | exact rfl | exact Nat.le_of_ble_eq_true rfl | assumption | (simp only [List.length_append, List.length_cons, List.length_nil, List.drop_zero, List.length_drop] <;> omega)) only [vwp_skip, vwp_ret, vwp_exit, vwp_lab, vwp_seq, vwp_cond, vwp_block, vwp_scope, vwp_region, vwp_draw, vwp_loop, vwp_range, vcnd_tt, vcnd_ff, vthen_normal, vthen_ret, vthen_exit, vblock_normal, vblock_ret, vblock_exit, vreg_nil, vreg_cons, vhl_nil, vhl_op, vhl_guard, vguard_tt, vguard_ff, vguard_tf, vguard_ft, vguard_no, vact_op, vop_some, vput_some, vput_none, vsame_sm, vunit_sm, vget_nil, vget_cons, vget_some,
    vo_mv, vo_bin, vo_un, vo_ext, vo_len, vo_idxS, vo_idxStr, vo_load, vo_pick, vo_append, vo_bslice, evp, vo_nilc, vo_faddr, vo_store, vo_sliceSl, vo_sliceStr, vo_cInt, vo_copy, vo_mkSlice, vo_box, vo_build, vo_b2s, vb2s_sl, vb2s_nil, vcInt, vnil_ptr, vo_mkMap, vo_mkfn, vo_lookup, vo_mapUpd, vo_del, vdel_some, vo_rangeMap, vo_entry, vfaddr_ptr, beq_self_eq_true, eq_self, decide_true, decide_false, vb_lss, vb_leq, vb_gtr, vb_geq, vb_eql, vb_neq, vb_seql, vb_sneq, vb_beql, vb_bneq, vun_not, vlen_str, vlen_sl, vlen_nil, vext_tup, HX.ev, List.length_cons, List.length_nil, List.append_nil, List.nil_append, List.cons_append, List.set_cons_succ, List.set_cons_zero, List.getElem?_cons_succ, List.getElem?_cons_zero, Option.getD_some, Option.map_some, Option.map_none, List.map_cons, List.map_nil, if_true, Bool.not_true, Bool.not_false, Bool.false_eq_true, if_false, va_load, va_ld, va_loadA, va_ldA, va_store, va_st1, va_stn, va_kill0, va_killS, va_box1, va_boxA, get_base, get_base0, set_base, set_base0, List.length_append, Nat.reduceAdd, Nat.zero_add, List.append_assoc, vo_s2b, vo_minmax, va_min2, va_max2, va_minl, List.drop_zero, List.drop_succ_cons, List.take_succ_cons, List.take_zero, vdr_nil, vdr_cons, vdr_op, vdr_some, vdr_loud, vdr_lsome, HOp.looks, vholds_cons, vholds_nil, implies_true, true_and, and_true, vres_tmp, vres_tmp2, vres_none, vres_cell1, vres_k, vres_cell2, vres_k2, vend_ret, vend_normal, vex_some, vdr_guard, vdg_tt, vdg_ff, vdg_tf, vdg_ft, vdg_no, vo_pick, va_s2b, va_takeS, va_takeN, va_app, va_apB, va_ap0, vsadd, Nat.reduceEqDiff, va_sOk, va_sOkN, va_sOk1, va_slLo, va_slHi, va_slBoth, va_slLoC, va_slHiC, va_slBothC, va_nilHi, va_nilLo, va_nilNone, lr_succ, bs165, take_k, tkB, va_apF, apF_b, a0, a1, a2, a3, a4, a5, a6, a7, n0, n1, n2, n3, n4, n5, n6, n7, n8, *]
    | refine condK_cases (fun h => ?_) (fun h => ?_)
    | refine guardK_cases (fun h => ?_) (fun h => ?_)
    | refine dgK_cases (fun h => ?_) (fun h => ?_)
    | refine hwp_draw mixed rfl ?_
    | refine HW.rounds mixed 9 ?_

  refine leafS (j := 16) rfl ?_ ?_ ?_
  · simp
  · rfl
  · rfl
theorem lent34n {hs : HS} {v : HV} {b : List UInt8} (hb : ∀ L, takeCells (hs ++ L) 1 v = some (b.length, bcells b)) (hbl : b.length ≤ 140737488351232) (h0 : b.length ≠ 0) :
    HC Tryd.prog 34 [v] hs fun r hs' => r = .slice hs.length 0 (b ++ marks).length none ∧ hs' = hs ++ [some (.cells 1 (bcells (b ++ marks)) false true [])] := by
  refine HC.tail ?_
  refine HC.wp mixed Tryd.func34 c34 ?_
  simp -implicitDefEqProofs (disch := first | omega | decide | exact rfl | exact Nat.le_of_ble_eq_true rfl | assumption | (simp only [List.length_append, List.length_cons, List.length_nil, List.drop_zero, List.length_drop] <;> omega)) only [vwp_skip, vwp_ret, vwp_exit, vwp_lab, vwp_seq, vwp_cond, vwp_block, vwp_scope, vwp_region, vwp_draw, vwp_loop, vwp_range, vcnd_tt, vcnd_ff, vthen_normal, vthen_ret, vthen_exit, vblock_normal, vblock_ret, vblock_exit, vreg_nil, vreg_cons, vhl_nil, vhl_op, vhl_guard, vguard_tt, vguard_ff, vguard_tf, vguard_ft, vguard_no, vact_op, vop_some, vput_some, vput_none, vsame_sm, vunit_sm, vget_nil, vget_cons, vget_some,
    vo_mv, vo_bin, vo_un, vo_ext, vo_len, vo_idxS, vo_idxStr, vo_load, vo_pick, vo_append, vo_bslice, evp, vo_nilc, vo_faddr, vo_store, vo_sliceSl, vo_sliceStr, vo_cInt, vo_copy, vo_mkSlice, vo_box, vo_build, vo_b2s, vb2s_sl, vb2s_nil, vcInt, vnil_ptr, vo_mkMap, vo_mkfn, vo_lookup, vo_mapUpd, vo_del, vdel_some, vo_rangeMap, vo_entry, vfaddr_ptr, beq_self_eq_true, eq_self, decide_true, decide_false, vb_lss, vb_leq, vb_gtr, vb_geq, vb_eql, vb_neq, vb_seql, vb_sneq, vb_beql, vb_bneq, vun_not, vlen_str, vlen_sl, vlen_nil, vext_tup, HX.ev, List.length_cons, List.length_nil, List.append_nil, List.nil_append, List.cons_append, List.set_cons_succ, List.set_cons_zero, List.getElem?_cons_succ, List.getElem?_cons_zero, Option.getD_some, Option.map_some, Option.map_none, List.map_cons, List.map_nil, if_true, Bool.not_true, Bool.not_false, Bool.false_eq_true, if_false, va_load, va_ld, va_loadA, va_ldA, va_store, va_st1, va_stn, va_kill0, va_killS, va_box1, va_boxA, get_base, get_base0, set_base, set_base0, List.length_append, Nat.reduceAdd, Nat.zero_add, List.append_assoc, vo_s2b, vo_minmax, va_min2, va_max2, va_minl, List.drop_zero, List.drop_succ_cons, List.take_succ_cons, List.take_zero, vdr_nil, vdr_cons, vdr_op, vdr_some, vdr_loud, vdr_lsome, HOp.looks, vholds_cons, vholds_nil, implies_true, true_and, and_true, vres_tmp, vres_tmp2, vres_none, vres_cell1, vres_k, vres_cell2, vres_k2, vend_ret, vend_normal, vex_some, vdr_guard, vdg_tt, vdg_ff, vdg_tf, vdg_ft, vdg_no, vo_pick, va_s2b, va_takeS, va_takeN, va_app, va_apB, va_ap0, vsadd, Nat.reduceEqDiff, va_sOk, va_sOkN, va_sOk1, va_slLo, va_slHi, va_slBoth, va_slLoC, va_slHiC, va_slBothC, va_nilHi, va_nilLo, va_nilNone, h34, frame0, List.replicate, Nat.sub]
  refine vcall_of H.ok18 rfl (cp18n hb hbl h0) ?_
  rintro _ _ ⟨rfl, rfl⟩
  repeat' first
    | simp -implicitDefEqProofs (disch := first | omega | decide | exact rfl | exact Nat.le_of_ble_eq_true rfl | assumption | (simp only [List.length_append, List.length_cons, List.length_nil, List.drop_zero, List.length_drop] <;> omega)) only [vwp_skip, vwp_ret, vwp_exit, vwp_lab, vwp_seq, vwp_cond, vwp_block, vwp_scope, vwp_region, vwp_draw, vwp_loop, vwp_range, vcnd_tt, vcnd_ff, vthen_normal, vthen_ret, vthen_exit, vblock_normal, vblock_ret, vblock_exit, vreg_nil, vreg_cons, vhl_nil, vhl_op, vhl_guard, vguard_tt, vguard_ff, vguard_tf, vguard_ft, vguard_no, vact_op, vop_some, vput_some, vput_none, vsame_sm, vunit_sm, vget_nil, vget_cons, vget_some,
    vo_mv, vo_bin, vo_un, vo_ext, vo_len, vo_idxS, vo_idxStr, vo_load, vo_pick, vo_append, vo_bslice, evp, vo_nilc, vo_faddr, vo_store, vo_sliceSl, vo_sliceStr, vo_cInt, vo_copy, vo_mkSlice, vo_box, vo_build, vo_b2s, vb2s_sl, vb2s_nil, vcInt, vnil_ptr, vo_mkMap, vo_mkfn, vo_lookup, vo_mapUpd, vo_del, vdel_some, vo_rangeMap, vo_entry, vfaddr_ptr, beq_self_eq_true, eq_self, decide_true, decide_false, vb_lss, vb_leq, vb_gtr, vb_geq, vb_eql, vb_neq, vb_seql, vb_sneq, vb_beql, vb_bneq, vun_not, vlen_str, vlen_sl, vlen_nil, vext_tup, HX.ev, List.length_cons, List.length_nil, List.append_nil, List.nil_append, List.cons_append, List.set_cons_succ, List.set_cons_zero, List.getElem?_cons_succ, List.getElem?_cons_zero, Option.getD_some, Option.map_some, Option.map_none, List.map_cons, List.map_nil, if_true, Bool.not_true, Bool.not_false, Bool.false_eq_true, if_false, va_load, va_ld, va_loadA, va_ldA, va_store, va_st1, va_stn, va_kill0, va_killS, va_box1, va_boxA, get_base, get_base0, set_base, set_base0, List.length_append, Nat.reduceAdd, Nat.zero_add, List.append_assoc, vo_s2b, vo_minmax, va_min2, va_max2, va_minl, List.drop_zero, List.drop_succ_cons, List.take_succ_cons, List.take_zero, vdr_nil, vdr_cons, vdr_op, vdr_some, vdr_loud, vdr_lsome, HOp.looks, vholds_cons, vholds_nil, implies_true, true_and, and_true, vres_tmp, vres_tmp2, vres_none, vres_cell1, vres_k, vres_cell2, vres_k2, vend_ret, vend_normal, vex_some, vdr_guard, vdg_tt, vdg_ff, vdg_tf, vdg_ft, vdg_no, vo_pick, va_s2b, va_takeS, va_takeN, va_app, va_apB, va_ap0, vsadd, Nat.reduceEqDiff, va_sOk, va_sOkN, va_sOk1, va_slLo, va_slHi, va_slBoth, va_slLoC, va_slHiC, va_slBothC, va_nilHi, va_nilLo, va_nilNone, lr_succ, bs165, take_k, tkB, va_apF, apF_b, a0, a1, a2, a3, a4, a5, a6, a7, n0, n1, n2, n3, n4, n5, n6, n7, n8, *]
    | refine condK_cases (fun h => ?_) (fun h => ?_)
    | refine guardK_cases (fun h => ?_) (fun h => ?_)
    | refine dgK_cases (fun h => ?_) (fun h => ?_)
    | refine hwp_draw mixed rfl ?_
    | refine HW.rounds mixed 9 ?_

  rw [show b.length + marks.length = (b ++ marks).length from List.length_append.symm]
  refine leafS (j := 16) rfl ?_ ?_ ?_
  · simp
  · simp [marks]
  · simp only [List.length_append, List.length_cons, List.length_nil]
theorem lent34 {hs : HS} {v : HV} {b : List UInt8} (hb : ∀ L, takeCells (hs ++ L) 1 v = some (b.length, bcells b)) (hbl : b.length ≤ 140737488351232) :
    HC Tryd.prog 34 [v] hs fun r hs' => r = .slice hs.length 0 (b.length + 8) none ∧ hs' = hs ++ [some (.cells 1 (bcells (b ++ marks)) false true [])] := by
  by_cases h0 : b.length = 0
  · obtain rfl := List.eq_nil_of_length_eq_zero h0
    exact lent34e hb
  · have h := lent34n hb hbl h0
    rw [List.length_append] at h
    exact h
theorem cells_sl {h o l : Nat} {c : Option Nat} : (HV.slice h o l c).cells = [HV.slice h o l c] := rfl
theorem one_sl {h o l : Nat} {c : Option Nat} : (HV.slice h o l c).one = true := rfl
theorem lentReply10 {hs : HS} {bv : HV} {b : List UInt8} (h1 : bv.one = true) (h2 : bv.cells = [bv]) (hl : ∀ g, hlenK g .slice bv = some (.int .i64 (b.length : Nat))) (hb : ∀ L, takeCells (hs ++ L) 1 bv = some (b.length, bcells b)) (hbl : b.length ≤ 140737488351232) (k id num : Int) (t : List UInt8) :
    HC Tryd.prog 10 [.agg [.int .i64 k, .int .i64 id, .int .i64 num, .str t, bv]] hs fun r hs' => r = .tup [.agg [.int .i64 k, .int .i64 id, .int .i64 num, .str t, .slice hs.length 0 b.length none], .slice hs.length 0 (b.length + 8) none] ∧ hs' = hs ++ [some (.cells 1 (bcells (b ++ marks)) false true [])] := by
  refine HC.tail ?_
  have hbo : hbox hs (.agg [.int .i64 k, .int .i64 id, .int .i64 num, .str t, bv]) = some (.ptr hs.length 0, hs ++ [some (.cells 1 [.int .i64 k, .int .i64 id, .int .i64 num, .str t, bv] false false [])]) := va_boxA (by simp only [List.all_cons, List.all_nil, h1]; rfl)
  have hbo2 : ∀ g, hbox g (.agg [.int .i64 0, .int .i64 0, .int .i64 0, .str [], .nilSlice]) = some (.ptr g.length 0, g ++ [some (.cells 1 [.int .i64 0, .int .i64 0, .int .i64 0, .str [], .nilSlice] false false [])]) := fun g => rfl
  have p := fun L : HS => lent34 (hs := hs ++ L) (fun L' => by rw [List.append_assoc]; exact hb (L ++ L')) hbl
  refine HC.wp mixed Tryd.func10 c10 ?_
  simp -implicitDefEqProofs (disch := first | omega | decide | exact rfl | exact Nat.le_of_ble_eq_true rfl | assumption | (simp only [List.length_append, List.length_cons, List.length_nil, List.drop_zero, List.length_drop] <;> omega)) only [vwp_skip, vwp_ret, vwp_exit, vwp_lab, vwp_seq, vwp_cond, vwp_block, vwp_scope, vwp_region, vwp_draw, vwp_loop, vwp_range, vcnd_tt, vcnd_ff, vthen_normal, vthen_ret, vthen_exit, vblock_normal, vblock_ret, vblock_exit, vreg_nil, vreg_cons, vhl_nil, vhl_op, vhl_guard, vguard_tt, vguard_ff, vguard_tf, vguard_ft, vguard_no, vact_op, vop_some, vput_some, vput_none, vsame_sm, vunit_sm, vget_nil, vget_cons, vget_some,
    vo_mv, vo_bin, vo_un, vo_ext, vo_len, vo_idxS, vo_idxStr, vo_load, vo_pick, vo_append, vo_bslice, evp, vo_nilc, vo_faddr, vo_store, vo_sliceSl, vo_sliceStr, vo_cInt, vo_copy, vo_mkSlice, vo_box, vo_build, vo_b2s, vb2s_sl, vb2s_nil, vcInt, vnil_ptr, vo_mkMap, vo_mkfn, vo_lookup, vo_mapUpd, vo_del, vdel_some, vo_rangeMap, vo_entry, vfaddr_ptr, beq_self_eq_true, eq_self, decide_true, decide_false, vb_lss, vb_leq, vb_gtr, vb_geq, vb_eql, vb_neq, vb_seql, vb_sneq, vb_beql, vb_bneq, vun_not, vlen_str, vlen_sl, vlen_nil, vext_tup, HX.ev, List.length_cons, List.length_nil, List.append_nil, List.nil_append, List.cons_append, List.set_cons_succ, List.set_cons_zero, List.getElem?_cons_succ, List.getElem?_cons_zero, Option.getD_some, Option.map_some, Option.map_none, List.map_cons, List.map_nil, if_true, Bool.not_true, Bool.not_false, Bool.false_eq_true, if_false, va_load, va_ld, va_loadA, va_ldA, va_store, va_st1, va_stn, va_kill0, va_killS, va_box1, va_boxA, get_base, get_base0, set_base, set_base0, List.length_append, Nat.reduceAdd, Nat.zero_add, List.append_assoc, vo_s2b, vo_minmax, va_min2, va_max2, va_minl, List.drop_zero, List.drop_succ_cons, List.take_succ_cons, List.take_zero, vdr_nil, vdr_cons, vdr_op, vdr_some, vdr_loud, vdr_lsome, HOp.looks, vholds_cons, vholds_nil, implies_true, true_and, and_true, vres_tmp, vres_tmp2, vres_none, vres_cell1, vres_k, vres_cell2, vres_k2, vend_ret, vend_normal, vex_some, vdr_guard, vdg_tt, vdg_ff, vdg_tf, vdg_ft, vdg_no, vo_pick, va_s2b, va_takeS, va_takeN, va_app, va_apB, va_ap0, vsadd, Nat.reduceEqDiff, va_sOk, va_sOkN, va_sOk1, va_slLo, va_slHi, va_slBoth, va_slLoC, va_slHiC, va_slBothC, va_nilHi, va_nilLo, va_nilNone, h10, hbo, hbo2, frame0, List.replicate, Nat.sub]
  clear hbo hbo2
  have agok : ∀ h : Nat, [HV.int .i64 k, .int .i64 id, .int .i64 num, .str t, .slice h 0 b.length none].all HV.one = true := fun h => rfl
  repeat' first
    | simp -implicitDefEqProofs (disch := first | omega | decide | exact rfl | exact Nat.le_of_ble_eq_true rfl | assumption | (simp only [List.length_append, List.length_cons, List.length_nil, List.drop_zero, List.length_drop] <;> omega) | exact cells_sl | exact one_sl | exact agok _) only [vwp_skip, vwp_ret, vwp_exit, vwp_lab, vwp_seq, vwp_cond, vwp_block, vwp_scope, vwp_region, vwp_draw, vwp_loop, vwp_range, vcnd_tt, vcnd_ff, vthen_normal, vthen_ret, vthen_exit, vblock_normal, vblock_ret, vblock_exit, vreg_nil, vreg_cons, vhl_nil, vhl_op, vhl_guard, vguard_tt, vguard_ff, vguard_tf, vguard_ft, vguard_no, vact_op, vop_some, vput_some, vput_none, vsame_sm, vunit_sm, vget_nil, vget_cons, vget_some,
    vo_mv, vo_bin, vo_un, vo_ext, vo_len, vo_idxS, vo_idxStr, vo_load, vo_pick, vo_append, vo_bslice, evp, vo_nilc, vo_faddr, vo_store, vo_sliceSl, vo_sliceStr, vo_cInt, vo_copy, vo_mkSlice, vo_box, vo_build, vo_b2s, vb2s_sl, vb2s_nil, vcInt, vnil_ptr, vo_mkMap, vo_mkfn, vo_lookup, vo_mapUpd, vo_del, vdel_some, vo_rangeMap, vo_entry, vfaddr_ptr, beq_self_eq_true, eq_self, decide_true, decide_false, vb_lss, vb_leq, vb_gtr, vb_geq, vb_eql, vb_neq, vb_seql, vb_sneq, vb_beql, vb_bneq, vun_not, vlen_str, vlen_sl, vlen_nil, vext_tup, HX.ev, List.length_cons, List.length_nil, List.append_nil, List.nil_append, List.cons_append, List.set_cons_succ, List.set_cons_zero, List.getElem?_cons_succ, List.getElem?_cons_zero, Option.getD_some, Option.map_some, Option.map_none, List.map_cons, List.map_nil, if_true, Bool.not_true, Bool.not_false, Bool.false_eq_true, if_false, va_load, va_ld, va_loadA, va_ldA, va_store, va_st1, va_stn, va_kill0, va_killS, va_box1, va_boxA, get_base, get_base0, set_base, set_base0, List.length_append, Nat.reduceAdd, Nat.zero_add, List.append_assoc, vo_s2b, vo_minmax, va_min2, va_max2, va_minl, List.drop_zero, List.drop_succ_cons, List.take_succ_cons, List.take_zero, vdr_nil, vdr_cons, vdr_op, vdr_some, vdr_loud, vdr_lsome, HOp.looks, vholds_cons, vholds_nil, implies_true, true_and, and_true, vres_tmp, vres_tmp2, vres_none, vres_cell1, vres_k, vres_cell2, vres_k2, vend_ret, vend_normal, vex_some, vdr_guard, vdg_tt, vdg_ff, vdg_tf, vdg_ft, vdg_no, vo_pick, va_s2b, va_takeS, va_takeN, va_app, va_apB, va_ap0, vsadd, Nat.reduceEqDiff, va_sOk, va_sOkN, va_sOk1, va_slLo, va_slHi, va_slBoth, va_slLoC, va_slHiC, va_slBothC, va_nilHi, va_nilLo, va_nilNone, overw, List.length_cons, List.cons_append, *]
    | refine condK_cases (fun h => ?_) (fun h => ?_)
    | refine guardK_cases (fun h => ?_) (fun h => ?_)
    | refine dgK_cases (fun h => ?_) (fun h => ?_)
    | (refine vcall_of ok34 rfl (p _) ?_; rintro _ _ ⟨rfl, rfl⟩)
    | (refine vdr_call ok34 rfl (p _) ?_; rintro _ _ ⟨rfl, rfl⟩)
    | refine hwp_draw mixed rfl ?_

  have tb := tailB (hs := hs) (len := b.length) (L := [some (.cells 1 [HV.int .i64 k, .int .i64 id, .int .i64 num, .str t, .slice (List.length hs + 2) 0 b.length none] false false []), some (.cells 1 [HV.int .i64 k, .int .i64 id, .int .i64 num, .str t, .slice (List.length hs + 2) 0 b.length none] false false []), some (.cells 1 (bcells (b ++ marks)) false true [])]) (j := 2) rfl (by simp)
  refine ⟨_, [2], rfl, tb.1, ?_, by rw [tb.2.2]⟩
  have hp : relRho hs.length [2] (hs.length + 2) = some hs.length := by rw [relRho_off]; simp [posIn]
  simp [rv, renV, renL, hp]
theorem marks_get {b : List UInt8} {i : Nat} (h1 : b.length ≤ i) (h2 : i < b.length + 8) : (bcells (b ++ marks))[i]? = some (.int .u8 165) := by
  unfold bcells
  rw [List.getElem?_map, List.getElem?_append_right h1]
  have : i - b.length < 8 := by omega
  have hm : ∀ j : Nat, j < 8 → marks[j]? = some 165 := by decide
  rw [hm _ this]; rfl
theorem still15 {hs : HS} {p : Nat} {v : HV} {b : List UInt8} (hp : hs[p]? = some (some (.cells 1 (bcells (b ++ marks)) false true []))) (hv : SlAt hs v (bcells b)) (hbl : b.length ≤ 140737488351232) :
    HC Tryd.prog 15 [.slice p 0 (b.length + 8) none, v] hs fun r hs' => r = .bool true ∧ hs' = hs := by
  have hm8 : (b ++ marks).length = b.length + 8 := by simp [marks]
  have s1 := A.row_at hp (n := b.length) (by omega)
  rw [List.take_left] at s1
  have s2 := A.row_at hp (n := (b ++ marks).length) (Nat.le_refl _)
  rw [List.take_of_length_le (Nat.le_refl _), hm8] at s2
  have lv := hv.len
  rw [bcells_length] at lv
  have la := s2.len
  rw [bcells_length, hm8] at la
  have ct : hslice (.slice p 0 (b.length + 8) none) none (some (.int .i64 (b.length : Nat))) none = some (.slice p 0 b.length none) := va_slHi (by omega)
  have eqb : (b == b) = true := by simp
  refine HC.wp mixed Tryd.func15 c15 ?_
  simp -implicitDefEqProofs (disch := first | omega | decide) only [vwp_skip, vwp_ret, vwp_exit, vwp_lab, vwp_seq, vwp_cond, vwp_block, vwp_scope, vwp_region, vwp_draw, vwp_loop, vwp_range, vcnd_tt, vcnd_ff, vthen_normal, vthen_ret, vthen_exit, vblock_normal, vblock_ret, vblock_exit, vreg_nil, vreg_cons, vhl_nil, vhl_op, vhl_guard, vguard_tt, vguard_ff, vguard_tf, vguard_ft, vguard_no, vact_op, vop_some, vput_some, vput_none, vsame_sm, vunit_sm, vget_nil, vget_cons, vget_some,
    vo_mv, vo_bin, vo_un, vo_ext, vo_len, vo_idxS, vo_idxStr, vo_load, vo_pick, vo_append, vo_bslice, evp, vo_nilc, vo_faddr, vo_store, vo_sliceSl, vo_sliceStr, vo_cInt, vo_copy, vo_mkSlice, vo_box, vo_build, vo_b2s, vb2s_sl, vb2s_nil, vcInt, vnil_ptr, vo_mkMap, vo_mkfn, vo_lookup, vo_mapUpd, vo_del, vdel_some, vo_rangeMap, vo_entry, vfaddr_ptr, beq_self_eq_true, eq_self, decide_true, decide_false, vb_lss, vb_leq, vb_gtr, vb_geq, vb_eql, vb_neq, vb_seql, vb_sneq, vb_beql, vb_bneq, vun_not, vlen_str, vlen_sl, vlen_nil, vext_tup, HX.ev, List.length_cons, List.length_nil, List.append_nil, List.nil_append, List.cons_append, List.set_cons_succ, List.set_cons_zero, List.getElem?_cons_succ, List.getElem?_cons_zero, Option.getD_some, Option.map_some, Option.map_none, List.map_cons, List.map_nil, if_true, Bool.not_true, Bool.not_false, Bool.false_eq_true, if_false, h15, lv, ct, s2.sOk, frame0, List.replicate, Nat.sub]
  refine vcall_of ok14 rfl (same14 s1 hv (by omega) (by omega)) ?_
  rintro _ hs ⟨rfl, rfl⟩
  simp -implicitDefEqProofs (disch := first | omega | decide) only [vwp_skip, vwp_ret, vwp_exit, vwp_lab, vwp_seq, vwp_cond, vwp_block, vwp_scope, vwp_region, vwp_draw, vwp_loop, vwp_range, vcnd_tt, vcnd_ff, vthen_normal, vthen_ret, vthen_exit, vblock_normal, vblock_ret, vblock_exit, vreg_nil, vreg_cons, vhl_nil, vhl_op, vhl_guard, vguard_tt, vguard_ff, vguard_tf, vguard_ft, vguard_no, vact_op, vop_some, vput_some, vput_none, vsame_sm, vunit_sm, vget_nil, vget_cons, vget_some,
    vo_mv, vo_bin, vo_un, vo_ext, vo_len, vo_idxS, vo_idxStr, vo_load, vo_pick, vo_append, vo_bslice, evp, vo_nilc, vo_faddr, vo_store, vo_sliceSl, vo_sliceStr, vo_cInt, vo_copy, vo_mkSlice, vo_box, vo_build, vo_b2s, vb2s_sl, vb2s_nil, vcInt, vnil_ptr, vo_mkMap, vo_mkfn, vo_lookup, vo_mapUpd, vo_del, vdel_some, vo_rangeMap, vo_entry, vfaddr_ptr, beq_self_eq_true, eq_self, decide_true, decide_false, vb_lss, vb_leq, vb_gtr, vb_geq, vb_eql, vb_neq, vb_seql, vb_sneq, vb_beql, vb_bneq, vun_not, vlen_str, vlen_sl, vlen_nil, vext_tup, HX.ev, List.length_cons, List.length_nil, List.append_nil, List.nil_append, List.cons_append, List.set_cons_succ, List.set_cons_zero, List.getElem?_cons_succ, List.getElem?_cons_zero, Option.getD_some, Option.map_some, Option.map_none, List.map_cons, List.map_nil, if_true, Bool.not_true, Bool.not_false, Bool.false_eq_true, if_false, eqb]
  refine HW.loopS (σ := Nat) mixed (fun s => (.slice p 0 (b.length + 8) none :: v :: .undef :: .undef :: .bool false :: .int .i64 (b.length : Nat) :: .int .i64 (s : Nat) :: .undef :: .undef :: .undef :: .undef :: .undef :: .undef :: .undef :: .undef :: .undef :: .undef :: .undef :: .undef :: .undef :: .undef :: .undef :: .undef :: .undef :: .undef :: .undef :: .undef :: [])) (fun _ => hs) (fun s => b.length + 8 - s) (fun s => b.length ≤ s ∧ s ≤ b.length + 8) b.length ⟨by omega, by omega⟩ rfl (by (repeat first | exact Less.nil | refine Less.undef _ ?_ | refine Less.keep _ ?_)) ?_
  rintro i ⟨i1, i2⟩
  by_cases h : i < b.length + 8
  · have hlt : decide ((i : Int) < ((b.length + 8 : Nat) : Int)) = true := by simp; omega
    obtain ⟨q, hq1, hq2⟩ := s2.idx (marks_get i1 h) .i64
    have d165 : decide (¬ (165 : Int) = 165) = false := by decide
    simp -implicitDefEqProofs (disch := first | omega | decide) only [vwp_skip, vwp_ret, vwp_exit, vwp_lab, vwp_seq, vwp_cond, vwp_block, vwp_scope, vwp_region, vwp_draw, vwp_loop, vwp_range, vcnd_tt, vcnd_ff, vthen_normal, vthen_ret, vthen_exit, vblock_normal, vblock_ret, vblock_exit, vreg_nil, vreg_cons, vhl_nil, vhl_op, vhl_guard, vguard_tt, vguard_ff, vguard_tf, vguard_ft, vguard_no, vact_op, vop_some, vput_some, vput_none, vsame_sm, vunit_sm, vget_nil, vget_cons, vget_some,
    vo_mv, vo_bin, vo_un, vo_ext, vo_len, vo_idxS, vo_idxStr, vo_load, vo_pick, vo_append, vo_bslice, evp, vo_nilc, vo_faddr, vo_store, vo_sliceSl, vo_sliceStr, vo_cInt, vo_copy, vo_mkSlice, vo_box, vo_build, vo_b2s, vb2s_sl, vb2s_nil, vcInt, vnil_ptr, vo_mkMap, vo_mkfn, vo_lookup, vo_mapUpd, vo_del, vdel_some, vo_rangeMap, vo_entry, vfaddr_ptr, beq_self_eq_true, eq_self, decide_true, decide_false, vb_lss, vb_leq, vb_gtr, vb_geq, vb_eql, vb_neq, vb_seql, vb_sneq, vb_beql, vb_bneq, vun_not, vlen_str, vlen_sl, vlen_nil, vext_tup, HX.ev, List.length_cons, List.length_nil, List.append_nil, List.nil_append, List.cons_append, List.set_cons_succ, List.set_cons_zero, List.getElem?_cons_succ, List.getElem?_cons_zero, Option.getD_some, Option.map_some, Option.map_none, List.map_cons, List.map_nil, if_true, Bool.not_true, Bool.not_false, Bool.false_eq_true, if_false, la, hlt, s2.sOk, hq1, hq2, d165, vadd1]
    exact ⟨i + 1, by omega, ⟨by omega, by omega⟩, trivial, by (repeat first | exact Less.nil | refine Less.undef _ ?_ | refine Less.keep _ ?_)⟩
  · obtain rfl : i = b.length + 8 := by omega
    have hlt : decide (((b.length + 8 : Nat) : Int) < ((b.length + 8 : Nat) : Int)) = false := by simp
    simp -implicitDefEqProofs (disch := first | omega | decide) only [vwp_skip, vwp_ret, vwp_exit, vwp_lab, vwp_seq, vwp_cond, vwp_block, vwp_scope, vwp_region, vwp_draw, vwp_loop, vwp_range, vcnd_tt, vcnd_ff, vthen_normal, vthen_ret, vthen_exit, vblock_normal, vblock_ret, vblock_exit, vreg_nil, vreg_cons, vhl_nil, vhl_op, vhl_guard, vguard_tt, vguard_ff, vguard_tf, vguard_ft, vguard_no, vact_op, vop_some, vput_some, vput_none, vsame_sm, vunit_sm, vget_nil, vget_cons, vget_some,
    vo_mv, vo_bin, vo_un, vo_ext, vo_len, vo_idxS, vo_idxStr, vo_load, vo_pick, vo_append, vo_bslice, evp, vo_nilc, vo_faddr, vo_store, vo_sliceSl, vo_sliceStr, vo_cInt, vo_copy, vo_mkSlice, vo_box, vo_build, vo_b2s, vb2s_sl, vb2s_nil, vcInt, vnil_ptr, vo_mkMap, vo_mkfn, vo_lookup, vo_mapUpd, vo_del, vdel_some, vo_rangeMap, vo_entry, vfaddr_ptr, beq_self_eq_true, eq_self, decide_true, decide_false, vb_lss, vb_leq, vb_gtr, vb_geq, vb_eql, vb_neq, vb_seql, vb_sneq, vb_beql, vb_bneq, vun_not, vlen_str, vlen_sl, vlen_nil, vext_tup, HX.ev, List.length_cons, List.length_nil, List.append_nil, List.nil_append, List.cons_append, List.set_cons_succ, List.set_cons_zero, List.getElem?_cons_succ, List.getElem?_cons_zero, Option.getD_some, Option.map_some, Option.map_none, List.map_cons, List.map_nil, if_true, Bool.not_true, Bool.not_false, Bool.false_eq_true, if_false, la, hlt]
    exact ⟨rfl, _, rfl, rfl, trivial⟩
end K
end Go.Proofs.YthihchoccpnfeaaDoor
namespace Go.Proofs.YthihchoccpnfeaaDoor
open Go Go.HL Go.Shelf V
namespace K
open A H
set_option maxRecDepth 100000
set_option maxHeartbeats 40000000
set_option linter.unusedSimpArgs false
structure Kp (n m b : Nat) (g : HS) (hB : Nat) (C : List Two) (vo vw : HV) : Prop where
  bk : Bk isByte n g hB C [] 0 C.length vo vw
  fit : Fit b C
  full : ∀ (j : Nat) (x : Two), C[j]? = some x → Full g x
  geo : ∀ h ∈ hd vo, m ≤ h
  gew : ∀ h ∈ hd vw, m ≤ h
  gex : ∀ x ∈ C, (∀ h ∈ hd x.out, m ≤ h) ∧ ∀ h ∈ hd x.want, m ≤ h
  ln : m ≤ g.length ∧ n ≤ m ∧ hB < m
/-- the rows below are as they were. -/
def Sm (m hB : Nat) (g g' : HS) : Prop := g.length ≤ g'.length ∧ ∀ i, i < m → i ≠ hB → g'[i]? = g[i]?
theorem Sm.refl (m hB : Nat) (g : HS) : Sm m hB g g := ⟨Nat.le_refl _, fun _ _ _ => rfl⟩
theorem Sm.trans {m hB : Nat} {a b c : HS} (h : Sm m hB a b) (h' : Sm m hB b c) : Sm m hB a c := ⟨Nat.le_trans h.1 h'.1, fun i h1 h2 => (h'.2 i h1 h2).trans (h.2 i h1 h2)⟩
theorem Sm.of {m hB : Nat} {a b : HS} (h : Keeps a.length a b) (hm : m ≤ a.length) : Sm m hB a b := ⟨h.1, fun i h1 _ => h.2 i (by omega)⟩
variable {n m b : Nat} {g : HS} {hB : Nat} {C : List Two} {vo vw : HV}
theorem Kp.start (hn : n ≤ hB) (hm : hB < m) (hg : m ≤ g.length) (hb : g[hB]? = some (some (.cells 1 [.nilSlice, .nilSlice] false false []))) : Kp n m b g hB [] .nilSlice .nilSlice := by
  refine ⟨⟨hb, OwnSl.nil n g 1, OwnSl.nil n g 1, by simp, by simp, ⟨fun h => 0, rfl, by simp [hd], by simp [hd], by simp⟩, hn, by simp [hd], by simp [hd], by simp⟩, by intro x hx; simp at hx, by simp, by simp [hd], by simp [hd], by simp, hg, by omega, hm⟩
theorem Kp.same (K : Kp n m b g hB C vo vw) {g' : HS} (hl : g.length ≤ g'.length) (h : ∀ i, i < g.length → m ≤ i ∨ i = hB → g'[i]? = g[i]?) : Kp n m b g' hB C vo vw := by
  obtain ⟨B, h2, h3, h4, h5, h6, h7⟩ := K
  obtain ⟨l1, l2, l3, l4⟩ := B.lens
  have e1 : ∀ x ∈ C, (∀ i ∈ hd x.out, g'[i]? = g[i]?) ∧ ∀ i ∈ hd x.want, g'[i]? = g[i]? := fun x hx => ⟨fun i hi => h i ((l4 x hx).1 i hi) (.inl ((h6 x hx).1 i hi)), fun i hi => h i ((l4 x hx).2 i hi) (.inl ((h6 x hx).2 i hi))⟩
  refine ⟨⟨by rw [h hB l1 (.inr rfl)]; exact B.box, B.out.same fun i hi => h i (l2 i hi) (.inl (h4 i hi)), B.want.same fun i hi => h i (l3 i hi) (.inl (h5 i hi)), fun x hx => ?_, fun j x hx g1 g2 => ?_, B.sep, B.low⟩, h2, fun j x hx => ?_, h4, h5, h6, by omega, h7.2⟩
  · obtain ⟨r1, r2, r3, r4⟩ := B.rd x hx
    exact ⟨r1.same (e1 x hx).1, r2.same (e1 x hx).2, r3, r4⟩
  · obtain ⟨r1, r2⟩ := B.own j x hx g1 g2
    have hx' := List.mem_of_getElem? hx
    exact ⟨r1.same (e1 x hx').1, r2.same (e1 x hx').2⟩
  · have hx' := List.mem_of_getElem? hx
    rcases h3 j x hx with h | ⟨q, h⟩ | ⟨q, h, cs, ro, olds, hq⟩
    · exact .inl h
    · exact .inr (.inl ⟨q, h⟩)
    · exact .inr (.inr ⟨q, h, cs, ro, olds, by rw [(e1 x hx').1 q (by rw [h]; simp [hd])]; exact hq⟩)
theorem Kp.grow (K : Kp n m b g hB C vo vw) {g' : HS} (h : Keeps g.length g g') : Kp n m b g' hB C vo vw := K.same h.1 fun i hi _ => h.2 i hi

/-- what Put hands out. -/
def Out (g g2 : HS) (l : HV) (c : List UInt8) : Prop := Keeps g.length g g2 ∧ ((l = .nilSlice ∧ c = []) ∨ ∃ h, l = .slice h 0 c.length none ∧ g.length ≤ h ∧ g2[h]? = some (some (.cells 1 (bcells c) false true [])))
theorem Out.wr {g g2 : HS} {l : HV} {c : List UInt8} (h : Out g g2 l c) : Wr g2 l (bcells c) := by
  rcases h.2 with ⟨rfl, rfl⟩ | ⟨q, rfl, _, h2⟩
  · exact .inl ⟨rfl, rfl⟩
  · exact .inr ⟨q, none, true, by rw [bcells_length], h2⟩
theorem Out.grow {g g2 g3 : HS} {l : HV} {c : List UInt8} (h : Out g g2 l c) (k : Keeps g2.length g2 g3) : Out g g3 l c := by
  refine ⟨h.1.trans (k.less h.1.1), ?_⟩
  rcases h.2 with h2 | ⟨q, e, h1, h2⟩
  · exact .inl h2
  · exact .inr ⟨q, e, h1, k.get (lt_of_get h2) h2⟩
theorem Out.from {g0 g g2 : HS} {l : HV} {c : List UInt8} (h : Out g g2 l c) (k : Keeps g0.length g0 g) : Out g0 g2 l c := by
  refine ⟨k.trans (h.1.less k.1), ?_⟩
  rcases h.2 with h2 | ⟨q, e, h1, h2⟩
  · exact .inl h2
  · exact .inr ⟨q, e, Nat.le_trans k.1 h1, h2⟩

theorem keepK (K : Kp n m b g hB C vo vw) {g2 : HS} {l : HV} {c : List UInt8} (o : Out g g2 l c) (hc : c.length ≤ b) (hb : b < 1099511627776) (hsz : C.length < 1000) :
    HC Tryd.prog 17 [.ptr hB 0, l] g2 fun _ hs' => ∃ C' vo' vw', Kp n m b hs' hB C' vo' vw' ∧ C'.length = C.length + 1 ∧ Sm m hB g2 hs' := by
  obtain ⟨l1, l2, l3, l4⟩ := K.bk.lens
  have hw := o.wr
  have fl : ∀ h ∈ hd l, g.length ≤ h := fun h hh => by
    rcases o.2 with ⟨e, _⟩ | ⟨q, e, h1, _⟩
    · rw [e] at hh; simp [hd] at hh
    · rw [e] at hh; simp [hd] at hh; omega
  refine (keep17 g g2 K.bk (by have := K.ln; omega) o.1 hw (isByte_b c) fl (by omega) (by rw [bcells_length]; omega) (Nat.zero_le _) rfl).mono ?_
  rintro v hs' ⟨mm, vo', vw', B, k1, k2, k3, k4, k5, k6⟩
  have hln := K.ln
  have hgg := o.1.1
  have notv : ∀ i, i < g.length → (i ∉ hd vo → i ∉ hd vw → i ≠ hB → hs'[i]? = g2[i]?) := fun i hi h1 h2 h3 => k2 i (by omega) h3 h1 h2
  have same : ∀ x ∈ C, ∀ i ∈ hd x.out, hs'[i]? = g2[i]? := fun x hx i hi => by
    obtain ⟨T, t0, t1, t2, t3⟩ := K.bk.sep
    obtain ⟨j, hj⟩ := List.getElem?_of_mem hx
    have tx := (t3 j x hj).1 i hi
    exact k2 i (by have := (l4 x hx).1 i hi; omega) (fun e => by rw [e, t0] at tx; omega) (fun e => by rw [t1 i e] at tx; omega) (fun e => by rw [t2 i e] at tx; omega)
  refine ⟨C ++ [⟨l, mm, bcells c, bcells c⟩], vo', vw', ⟨by simpa using B, fun x hx => ?_, fun j x hx => ?_, fun h hh => by have := k4 h hh; omega, fun h hh => by have := k5 h hh; omega, fun x hx => ?_, by omega, hln.2⟩, by simp, k3, fun i h1 h2 => k2 i (by omega) h2 (fun e => by have := K.geo i e; omega) (fun e => by have := K.gew i e; omega)⟩
  · rcases List.mem_append.1 hx with h | h
    · exact K.fit x h
    · simp at h; subst h
      exact ⟨rfl, by simp only [bcells_length]; exact hc⟩
  · have hx' := List.mem_of_getElem? hx
    rw [List.getElem?_append] at hx
    split at hx
    · rename_i hj
      have hxC := List.mem_of_getElem? hx
      rcases K.full j x hx with h | ⟨q, h⟩ | ⟨q, h, cs, ro, olds, hq⟩
      · exact .inl h
      · exact .inr (.inl ⟨q, h⟩)
      · refine .inr (.inr ⟨q, h, cs, ro, olds, ?_⟩)
        rw [same x hxC q (by rw [h]; simp [hd]), o.1.2 q (lt_of_get hq)]
        exact hq
    · have e : x = ⟨l, mm, bcells c, bcells c⟩ := by
        have := List.mem_of_getElem? hx
        simpa using this
      subst e
      rcases o.2 with ⟨e, _⟩ | ⟨q, e, h1, h2⟩
      · exact .inl e
      · refine .inr (.inr ⟨q, by simp only [bcells_length]; exact e, bcells c, false, [], ?_⟩)
        rw [k2 q (lt_of_get h2) (by omega) (fun e => by have := l2 q e; omega) (fun e => by have := l3 q e; omega)]
        exact h2
  · rcases List.mem_append.1 hx with h | h
    · exact K.gex x h
    · simp at h; subst h
      exact ⟨fun h hh => by have := fl h hh; omega, fun h hh => by have := k6 h hh; omega⟩

/-- the bytes of Put's answer. -/
def ansF (k id num : Int) (t b : List UInt8) : List UInt8 := if checkF k id num t b.length = 0 then putF k id num t b else []
/-- a reply in memory. -/
structure Rp (g : HS) (k id num : Int) (t : List UInt8) (bv : HV) (b : List UInt8) : Prop where
  sl : SlAt g bv (bcells b)
  id_ : -9223372036854775808 ≤ id ∧ id ≤ 9223372036854775807
  num_ : -9223372036854775808 ≤ num ∧ num ≤ 9223372036854775807
  t_ : t.length ≤ 140737488351232
variable {k id num : Int} {t y : List UInt8} {bv : HV}
theorem Rp.len (R : Rp g k id num t bv y) : ∀ g, hlenK g .slice bv = some (.int .i64 (y.length : Nat)) := fun g => by
  rcases R.sl with ⟨rfl, h2⟩ | ⟨h, o, cap, cs, ro, opn, olds, rfl, _, _⟩
  · have : y.length = 0 := by rw [← bcells_length y, h2]; rfl
    rw [this]; rfl
  · rw [bcells_length]; rfl
theorem Rp.take (R : Rp g k id num t bv y) : ∀ L, takeCells (g ++ L) 1 bv = some (y.length, bcells y) := fun L => by
  have := (R.sl.mono ⟨L, rfl⟩).take
  rwa [bcells_length] at this
theorem Rp.grow (R : Rp g k id num t bv y) {g' : HS} (h : ∀ i ∈ hd bv, g'[i]? = g[i]?) : Rp g' k id num t bv y := ⟨R.sl.same h, R.id_, R.num_, R.t_⟩
theorem Rp.check (R : Rp g k id num t bv y) : HC Tryd.prog 11 [.agg [.int .i64 k, .int .i64 id, .int .i64 num, .str t, bv]] g fun v hs' => v = .int .i64 (checkF k id num t y.length) ∧ hs' = g :=
  check11 R.sl.isOne.1 R.sl.isOne.2 R.len k id num t
theorem out_of (c : Int) (Y : List UInt8) : ∀ (v : HV) (g2 : HS), (if c = 0 then v = .tup [.slice g.length 0 Y.length none, .int .i64 0] ∧ g2 = g ++ [some (.cells 1 (bcells Y) false true [])] else v = .tup [.nilSlice, .int .i64 c] ∧ g2 = g) →
    ∃ l, v = .tup [l, .int .i64 c] ∧ Out g g2 l (if c = 0 then Y else []) := by
  intro v g2 h
  by_cases hc : c = 0
  · rw [if_pos hc] at h ⊢
    obtain ⟨rfl, rfl⟩ := h
    exact ⟨_, by rw [hc], Keeps.app (Nat.le_refl _), .inr ⟨g.length, rfl, Nat.le_refl _, by simp⟩⟩
  · rw [if_neg hc] at h ⊢
    obtain ⟨rfl, rfl⟩ := h
    exact ⟨_, rfl, Keeps.refl (Nat.le_refl _), .inl ⟨rfl, rfl⟩⟩
theorem Rp.put (R : Rp g k id num t bv y) (ht : ∀ L, hasTab (g ++ L) 1 .u64 Lib.pow10Tab = true) : HC Tryd.prog 12 [.agg [.int .i64 k, .int .i64 id, .int .i64 num, .str t, bv]] g fun v g2 => ∃ l, v = .tup [l, .int .i64 (checkF k id num t y.length)] ∧ Out g g2 l (ansF k id num t y) :=
  (put12 R.sl.isOne.1 R.sl.isOne.2 R.len R.take ht k id num R.id_ R.num_ t R.t_).mono (out_of _ _)
theorem Rp.put2 (R : Rp g k id num t bv y) : HC Tryd.prog 13 [.agg [.int .i64 k, .int .i64 id, .int .i64 num, .str t, bv]] g fun v g2 => ∃ l, v = .tup [l, .int .i64 (checkF k id num t y.length)] ∧ Out g g2 l (ansF k id num t y) :=
  (put13 R.sl.isOne.1 R.sl.isOne.2 R.len R.take k id num R.id_ R.num_ t R.t_).mono (out_of _ _)
theorem ans_len (hid : id ≤ 9223372036854775807) (hnum : num ≤ 9223372036854775807) : (ansF k id num t y).length ≤ 5000000000 := by
  unfold ansF
  split
  · rename_i hc
    have mm := may_of hc
    have wl := word_len k
    have il := pr_len hid
    have nl := pr_len hnum
    have bl2 := body_len mm.b_
    have bl := pr_len (n := ((y.length : Nat) : Int)) (by omega)
    have tl : k = 2 → t.length ≤ 200 := fun hk => by
      have := mm.t_
      subst hk
      exact valid_len (by simpa [tubeB] using this)
    unfold putF
    repeat' split
    all_goals
      simp only [List.length_append, List.length_cons, List.length_nil]
      first
        | omega
        | (have := tl (by assumption); omega)
  · simp
theorem hasTab_of {hs g : HS} (ht : ∀ L, hasTab (hs ++ L) 1 .u64 Lib.pow10Tab = true) (h : ∀ i, i < hs.length → g[i]? = hs[i]?) (hl : hs.length ≤ g.length) : ∀ L, hasTab (g ++ L) 1 .u64 Lib.pow10Tab = true := by
  intro L
  have e : g = hs ++ g.drop hs.length := by
    apply List.ext_getElem?
    intro i
    by_cases hi : i < hs.length
    · rw [List.getElem?_append_left hi]; exact h i hi
    · rw [List.getElem?_append_right (by omega), List.getElem?_drop]
      congr 1; omega
  rw [e, List.append_assoc]
  exact ht _
end K
end Go.Proofs.YthihchoccpnfeaaDoor
