/-
  answers.Check: what it answers of any reply.
-/
import Derived.Test.YthihchoccpnfeaaDoorA
import Derived.Test.YthihchoccpnfeaaDoorHLOwn
namespace Go.Proofs.YthihchoccpnfeaaDoor
open Go Go.HL Go.Shelf V
namespace A
set_option maxRecDepth 100000
set_option maxHeartbeats 40000000
set_option linter.unusedSimpArgs false
theorem ok11 : okF Tryd.prog 11 := ⟨_, Tryd.func11, by kernel_rfl, by kernel_rfl⟩
/-- are a reply's fields as its kind wants them? -/
def idB (k id : Int) : Bool := if k = 3 ∨ k = 12 ∨ k = 1 then decide (1 ≤ id) && decide (id ≤ 1099511627776) else decide (id = 0)
def numB (k n : Int) : Bool := if k = 10 ∨ k = 13 then decide (0 ≤ n) && decide (n ≤ 4294967295) else decide (n = 0)
def tubeB (k : Int) (t : List UInt8) : Bool := if k = 2 then validL t else t == []
def bodyB (k : Int) (n : Nat) : Bool := if k = 3 ∨ k = 12 ∨ k = 16 then decide ((n : Int) ≤ mostI k) else decide ((n : Int) = 0)
def checkF (k id num : Int) (t : List UInt8) (n : Nat) : Int := if wordL k = [] then 80 else if idB k id && numB k num && tubeB k t && bodyB k n then 0 else 81

theorem check11 {hs : HS} {bv : HV} {n : Nat} (h1 : bv.one = true) (h2 : bv.cells = [bv]) (hl : ∀ g, hlenK g .slice bv = some (.int .i64 (n : Nat))) (k id num : Int) (t : List UInt8) :
    HC Tryd.prog 11 [.agg [.int .i64 k, .int .i64 id, .int .i64 num, .str t, bv]] hs fun v hs' => v = .int .i64 (checkF k id num t n) ∧ hs' = hs := by
  refine HC.drop (Q := fun v => v = .int .i64 (checkF k id num t n)) ?_
  have hbo : hbox hs (.agg [.int .i64 k, .int .i64 id, .int .i64 num, .str t, bv]) = some (.ptr hs.length 0, hs ++ [some (.cells 1 [.int .i64 k, .int .i64 id, .int .i64 num, .str t, bv] false false [])]) := va_boxA (by simp only [List.all_cons, List.all_nil, h1]; rfl)
  refine HC.wp mixed Tryd.func11 c11 ?_
  simp -implicitDefEqProofs (disch := first | omega | decide | rfl | exact Nat.le_of_ble_eq_true rfl | assumption) only [vwp_skip, vwp_ret, vwp_exit, vwp_lab, vwp_seq, vwp_cond, vwp_block, vwp_scope, vwp_region, vwp_draw, vwp_loop, vwp_range, vcnd_tt, vcnd_ff, vthen_normal, vthen_ret, vthen_exit, vblock_normal, vblock_ret, vblock_exit, vreg_nil, vreg_cons, vhl_nil, vhl_op, vhl_guard, vguard_tt, vguard_ff, vguard_tf, vguard_ft, vguard_no, vact_op, vop_some, vput_some, vput_none, vsame_sm, vunit_sm, vget_nil, vget_cons, vget_some,
    vo_mv, vo_bin, vo_un, vo_ext, vo_len, vo_idxS, vo_idxStr, vo_load, vo_pick, vo_append, vo_bslice, evp, vo_nilc, vo_faddr, vo_store, vo_sliceSl, vo_sliceStr, vo_cInt, vo_copy, vo_mkSlice, vo_box, vo_build, vo_b2s, vb2s_sl, vb2s_nil, vcInt, vnil_ptr, vo_mkMap, vo_mkfn, vo_lookup, vo_mapUpd, vo_del, vdel_some, vo_rangeMap, vo_entry, vfaddr_ptr, beq_self_eq_true, eq_self, decide_true, decide_false, vb_lss, vb_leq, vb_gtr, vb_geq, vb_eql, vb_neq, vb_seql, vb_sneq, vb_beql, vb_bneq, vun_not, vlen_str, vlen_sl, vlen_nil, vext_tup, HX.ev, List.length_cons, List.length_nil, List.append_nil, List.nil_append, List.cons_append, List.set_cons_succ, List.set_cons_zero, List.getElem?_cons_succ, List.getElem?_cons_zero, Option.getD_some, Option.map_some, Option.map_none, List.map_cons, List.map_nil, if_true, Bool.not_true, Bool.not_false, Bool.false_eq_true, if_false, va_load, va_ld, va_loadA, va_ldA, va_store, va_st1, va_stn, va_kill0, va_killS, va_box1, va_boxA, get_base, get_base0, set_base, set_base0, List.length_append, Nat.reduceAdd, Nat.zero_add, List.append_assoc, vo_s2b, vo_minmax, va_min2, va_max2, va_minl, List.drop_zero, List.drop_succ_cons, List.take_succ_cons, List.take_zero, vdr_nil, vdr_cons, vdr_op, vdr_some, vdr_loud, vdr_lsome, HOp.looks, vholds_cons, vholds_nil, implies_true, true_and, and_true, vres_tmp, vres_tmp2, vres_none, vres_cell1, vres_k, vres_cell2, vres_k2, vend_ret, vend_normal, vex_some, vdr_guard, vdg_tt, vdg_ff, vdg_tf, vdg_ft, vdg_no, vo_pick, h11, hbo, frame0, List.replicate, Nat.sub]
  refine vcall_of ok35 rfl (word35 k _) ?_
  rintro _ _ ⟨rfl, rfl⟩
  clear hbo
  repeat' first
    | simp -implicitDefEqProofs (disch := first | omega | decide | rfl | exact Nat.le_of_ble_eq_true rfl | assumption) only [vwp_skip, vwp_ret, vwp_exit, vwp_lab, vwp_seq, vwp_cond, vwp_block, vwp_scope, vwp_region, vwp_draw, vwp_loop, vwp_range, vcnd_tt, vcnd_ff, vthen_normal, vthen_ret, vthen_exit, vblock_normal, vblock_ret, vblock_exit, vreg_nil, vreg_cons, vhl_nil, vhl_op, vhl_guard, vguard_tt, vguard_ff, vguard_tf, vguard_ft, vguard_no, vact_op, vop_some, vput_some, vput_none, vsame_sm, vunit_sm, vget_nil, vget_cons, vget_some,
    vo_mv, vo_bin, vo_un, vo_ext, vo_len, vo_idxS, vo_idxStr, vo_load, vo_pick, vo_append, vo_bslice, evp, vo_nilc, vo_faddr, vo_store, vo_sliceSl, vo_sliceStr, vo_cInt, vo_copy, vo_mkSlice, vo_box, vo_build, vo_b2s, vb2s_sl, vb2s_nil, vcInt, vnil_ptr, vo_mkMap, vo_mkfn, vo_lookup, vo_mapUpd, vo_del, vdel_some, vo_rangeMap, vo_entry, vfaddr_ptr, beq_self_eq_true, eq_self, decide_true, decide_false, vb_lss, vb_leq, vb_gtr, vb_geq, vb_eql, vb_neq, vb_seql, vb_sneq, vb_beql, vb_bneq, vun_not, vlen_str, vlen_sl, vlen_nil, vext_tup, HX.ev, List.length_cons, List.length_nil, List.append_nil, List.nil_append, List.cons_append, List.set_cons_succ, List.set_cons_zero, List.getElem?_cons_succ, List.getElem?_cons_zero, Option.getD_some, Option.map_some, Option.map_none, List.map_cons, List.map_nil, if_true, Bool.not_true, Bool.not_false, Bool.false_eq_true, if_false, va_load, va_ld, va_loadA, va_ldA, va_store, va_st1, va_stn, va_kill0, va_killS, va_box1, va_boxA, get_base, get_base0, set_base, set_base0, List.length_append, Nat.reduceAdd, Nat.zero_add, List.append_assoc, vo_s2b, vo_minmax, va_min2, va_max2, va_minl, List.drop_zero, List.drop_succ_cons, List.take_succ_cons, List.take_zero, vdr_nil, vdr_cons, vdr_op, vdr_some, vdr_loud, vdr_lsome, HOp.looks, vholds_cons, vholds_nil, implies_true, true_and, and_true, vres_tmp, vres_tmp2, vres_none, vres_cell1, vres_k, vres_cell2, vres_k2, vend_ret, vend_normal, vex_some, vdr_guard, vdg_tt, vdg_ff, vdg_tf, vdg_ft, vdg_no, vo_pick, *]
    | refine condK_cases (fun h => ?_) (fun h => ?_)
    | refine guardK_cases (fun h => ?_) (fun h => ?_)
    | refine dgK_cases (fun h => ?_) (fun h => ?_)
    | (refine vcall_of ok36 rfl (most36 _ _) ?_; rintro _ _ ⟨rfl, rfl⟩)
    | (refine vdr_call ok36 rfl (most36 _ _) ?_; rintro _ _ ⟨rfl, rfl⟩)
    | (refine vcall_of ok37 rfl (valid37 _ _) ?_; rintro _ _ ⟨rfl, rfl⟩)
    | (refine vdr_call ok37 rfl (valid37 _ _) ?_; rintro _ _ ⟨rfl, rfl⟩)
    | refine hwp_draw mixed rfl ?_

  all_goals
    refine ⟨⟨_, rfl⟩, rfl, congrArg _ ?_⟩
    simp_all [checkF, idB, numB, tubeB, bodyB]
    try (intros; omega)
end A
end Go.Proofs.YthihchoccpnfeaaDoor
