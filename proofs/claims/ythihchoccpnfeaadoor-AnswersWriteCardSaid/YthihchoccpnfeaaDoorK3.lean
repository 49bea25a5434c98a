/-
  stintref08: the small functions and Check: what they answer.
  stintref08.Check: what it answers of any reply.
  stintref08.Put: what it answers of any reply.
-/
import Derived.Test.YthihchoccpnfeaaDoorB
import Derived.Test.YthihchoccpnfeaaDoorV5
import Derived.Test.YthihchoccpnfeaaDoorHLLoops
import Derived.Test.YthihchoccpnfeaaDoorC
namespace Go.Proofs.YthihchoccpnfeaaDoor
open Go Go.HL Go.Shelf V
namespace K
open A
set_option maxRecDepth 100000
set_option maxHeartbeats 40000000
set_option linter.unusedSimpArgs false
theorem ok13 : okF Tryd.prog 13 := ⟨_, Tryd.func13, by kernel_rfl, by kernel_rfl⟩
theorem ok39 : okF Tryd.prog 39 := ⟨_, Tryd.func39, by kernel_rfl, by kernel_rfl⟩
theorem ok40 : okF Tryd.prog 40 := ⟨_, Tryd.func40, by kernel_rfl, by kernel_rfl⟩
theorem ok41 : okF Tryd.prog 41 := ⟨_, Tryd.func41, by kernel_rfl, by kernel_rfl⟩
theorem ok42 : okF Tryd.prog 42 := ⟨_, Tryd.func42, by kernel_rfl, by kernel_rfl⟩
theorem ok43 : okF Tryd.prog 43 := ⟨_, Tryd.func43, by kernel_rfl, by kernel_rfl⟩
theorem ok44 : okF Tryd.prog 44 := ⟨_, Tryd.func44, by kernel_rfl, by kernel_rfl⟩
theorem ok54 : okF Tryd.prog 54 := ⟨_, Tryd.func54, by kernel_rfl, by kernel_rfl⟩
theorem ok55 : okF Tryd.prog 55 := ⟨_, Tryd.func55, by kernel_rfl, by kernel_rfl⟩
theorem ok56 : okF Tryd.prog 56 := ⟨_, Tryd.func56, by kernel_rfl, by kernel_rfl⟩

theorem word_runs : ((List.range 24).all fun n => match hcall F X 60 40 [.int .i64 (n : Nat)] [] with | some (v, _) => HV.eqb v (.str ((words[n]?).getD [])) | none => false) = true := by kernel_rfl
theorem word40 (k : Int) (hs : HS) : HC Tryd.prog 40 [.int .i64 k] hs fun v hs' => v = .str (wordL k) ∧ hs' = hs := by
  refine HC.frame (R := fun v => v = .str (wordL k)) (by rfl) (fun v h => by subst h; rfl) ?_
  by_cases hk : k < 1 ∨ 24 ≤ k
  · have hw : wordL k = [] := by unfold wordL; rw [if_pos hk]
    rw [hw]
    have hbu : hbuildSlice [] 1 23 (List.replicate 23 (.str [])) ((List.range 23).map fun i => (i, 1, .str ((words[i + 1]?).getD []))) = some (.slice 0 0 23 (some 23), [some (.cells 1 ((words.drop 1).map HV.str) false false [])]) := by kernel_rfl
    simp only [words, List.drop_succ_cons, List.drop_zero, List.map_cons, List.map_nil, List.replicate, List.range, List.range.loop, List.getElem?_cons_succ, List.getElem?_cons_zero, Option.getD_some, Nat.reduceAdd] at hbu
    refine HC.wp mixed Tryd.func40 c40 ?_
    rcases hk with hk | hk
    · have h1 : decide (k < 1) = true := by simpa using hk
      simp -implicitDefEqProofs (disch := first | omega | decide | exact rfl | exact Nat.le_of_ble_eq_true rfl | assumption | (simp only [List.length_append, List.length_cons, List.length_nil, List.drop_zero, List.length_drop] <;> omega)) only [vwp_skip, vwp_ret, vwp_exit, vwp_lab, vwp_seq, vwp_cond, vwp_block, vwp_scope, vwp_region, vwp_draw, vwp_loop, vwp_range, vcnd_tt, vcnd_ff, vthen_normal, vthen_ret, vthen_exit, vblock_normal, vblock_ret, vblock_exit, vreg_nil, vreg_cons, vhl_nil, vhl_op, vhl_guard, vguard_tt, vguard_ff, vguard_tf, vguard_ft, vguard_no, vact_op, vop_some, vput_some, vput_none, vsame_sm, vunit_sm, vget_nil, vget_cons, vget_some,
    vo_mv, vo_bin, vo_un, vo_ext, vo_len, vo_idxS, vo_idxStr, vo_load, vo_pick, vo_append, vo_bslice, evp, vo_nilc, vo_faddr, vo_store, vo_sliceSl, vo_sliceStr, vo_cInt, vo_copy, vo_mkSlice, vo_box, vo_build, vo_b2s, vb2s_sl, vb2s_nil, vcInt, vnil_ptr, vo_mkMap, vo_mkfn, vo_lookup, vo_mapUpd, vo_del, vdel_some, vo_rangeMap, vo_entry, vfaddr_ptr, beq_self_eq_true, eq_self, decide_true, decide_false, vb_lss, vb_leq, vb_gtr, vb_geq, vb_eql, vb_neq, vb_seql, vb_sneq, vb_beql, vb_bneq, vun_not, vlen_str, vlen_sl, vlen_nil, vext_tup, HX.ev, List.length_cons, List.length_nil, List.append_nil, List.nil_append, List.cons_append, List.set_cons_succ, List.set_cons_zero, List.getElem?_cons_succ, List.getElem?_cons_zero, Option.getD_some, Option.map_some, Option.map_none, List.map_cons, List.map_nil, if_true, Bool.not_true, Bool.not_false, Bool.false_eq_true, if_false, va_load, va_ld, va_loadA, va_ldA, va_store, va_st1, va_stn, va_kill0, va_killS, va_box1, va_boxA, get_base, get_base0, set_base, set_base0, List.length_append, Nat.reduceAdd, Nat.zero_add, List.append_assoc, vo_s2b, vo_minmax, va_min2, va_max2, va_minl, List.drop_zero, List.drop_succ_cons, List.take_succ_cons, List.take_zero, vdr_nil, vdr_cons, vdr_op, vdr_some, vdr_loud, vdr_lsome, HOp.looks, vholds_cons, vholds_nil, implies_true, true_and, and_true, vres_tmp, vres_tmp2, vres_none, vres_cell1, vres_k, vres_cell2, vres_k2, vend_ret, vend_normal, vex_some, vdr_guard, vdg_tt, vdg_ff, vdg_tf, vdg_ft, vdg_no, vo_pick, va_s2b, va_takeS, va_takeN, va_app, va_apB, va_ap0, vsadd, Nat.reduceEqDiff, va_sOk, va_sOkN, va_sOk1, va_slLo, va_slHi, va_slBoth, va_slLoC, va_slHiC, va_slBothC, va_nilHi, va_nilLo, va_nilNone, h40, hbu, h1, vo_pick, frame0, List.replicate, Nat.sub]
    · have h1 : decide (k < 1) = false := by simp; omega
      have h2 : decide (k > 23) = true := by simp; omega
      have h3 : decide (k > ((23 : Nat) : Int)) = true := by simp; omega
      simp -implicitDefEqProofs (disch := first | omega | decide | exact rfl | exact Nat.le_of_ble_eq_true rfl | assumption | (simp only [List.length_append, List.length_cons, List.length_nil, List.drop_zero, List.length_drop] <;> omega)) only [vwp_skip, vwp_ret, vwp_exit, vwp_lab, vwp_seq, vwp_cond, vwp_block, vwp_scope, vwp_region, vwp_draw, vwp_loop, vwp_range, vcnd_tt, vcnd_ff, vthen_normal, vthen_ret, vthen_exit, vblock_normal, vblock_ret, vblock_exit, vreg_nil, vreg_cons, vhl_nil, vhl_op, vhl_guard, vguard_tt, vguard_ff, vguard_tf, vguard_ft, vguard_no, vact_op, vop_some, vput_some, vput_none, vsame_sm, vunit_sm, vget_nil, vget_cons, vget_some,
    vo_mv, vo_bin, vo_un, vo_ext, vo_len, vo_idxS, vo_idxStr, vo_load, vo_pick, vo_append, vo_bslice, evp, vo_nilc, vo_faddr, vo_store, vo_sliceSl, vo_sliceStr, vo_cInt, vo_copy, vo_mkSlice, vo_box, vo_build, vo_b2s, vb2s_sl, vb2s_nil, vcInt, vnil_ptr, vo_mkMap, vo_mkfn, vo_lookup, vo_mapUpd, vo_del, vdel_some, vo_rangeMap, vo_entry, vfaddr_ptr, beq_self_eq_true, eq_self, decide_true, decide_false, vb_lss, vb_leq, vb_gtr, vb_geq, vb_eql, vb_neq, vb_seql, vb_sneq, vb_beql, vb_bneq, vun_not, vlen_str, vlen_sl, vlen_nil, vext_tup, HX.ev, List.length_cons, List.length_nil, List.append_nil, List.nil_append, List.cons_append, List.set_cons_succ, List.set_cons_zero, List.getElem?_cons_succ, List.getElem?_cons_zero, Option.getD_some, Option.map_some, Option.map_none, List.map_cons, List.map_nil, if_true, Bool.not_true, Bool.not_false, Bool.false_eq_true, if_false, va_load, va_ld, va_loadA, va_ldA, va_store, va_st1, va_stn, va_kill0, va_killS, va_box1, va_boxA, get_base, get_base0, set_base, set_base0, List.length_append, Nat.reduceAdd, Nat.zero_add, List.append_assoc, vo_s2b, vo_minmax, va_min2, va_max2, va_minl, List.drop_zero, List.drop_succ_cons, List.take_succ_cons, List.take_zero, vdr_nil, vdr_cons, vdr_op, vdr_some, vdr_loud, vdr_lsome, HOp.looks, vholds_cons, vholds_nil, implies_true, true_and, and_true, vres_tmp, vres_tmp2, vres_none, vres_cell1, vres_k, vres_cell2, vres_k2, vend_ret, vend_normal, vex_some, vdr_guard, vdg_tt, vdg_ff, vdg_tf, vdg_ft, vdg_no, vo_pick, va_s2b, va_takeS, va_takeN, va_app, va_apB, va_ap0, vsadd, Nat.reduceEqDiff, va_sOk, va_sOkN, va_sOk1, va_slLo, va_slHi, va_slBoth, va_slLoC, va_slHiC, va_slBothC, va_nilHi, va_nilLo, va_nilNone, h40, hbu, h1, h2, h3, vo_pick, frame0, List.replicate, Nat.sub]
  · have h := List.all_eq_true.1 word_runs k.toNat (by simp; omega)
    have hk' : ((k.toNat : Nat) : Int) = k := by omega
    rw [hk'] at h
    have hw : wordL k = (words[k.toNat]?).getD [] := by unfold wordL; rw [if_neg hk]
    rw [hw]
    split at h
    · rename_i v hs' hr
      have hv := HV.eqb_eq _ _ h
      subst hv
      exact (hcall_HC mixed F_ok X_ok (n := 60) rfl hr).mono fun v1 _ ⟨h1, _⟩ => h1
    · simp at h

/-- a kind's fields. -/
def fldL (k : Int) : List UInt8 := if k = 1 then [73] else if k = 2 then [84] else if k = 3 ∨ k = 12 then [73, 66] else if k = 10 ∨ k = 13 then [78] else if k = 16 then [66] else []
theorem fields41 (k : Int) (hs : HS) : HC Tryd.prog 41 [.int .i64 k] hs fun v hs' => v = .str (fldL k) ∧ hs' = hs := by
  refine HC.wp mixed Tryd.func41 c41 ?_
  simp -implicitDefEqProofs (disch := first | omega | decide | exact rfl | exact Nat.le_of_ble_eq_true rfl | assumption | (simp only [List.length_append, List.length_cons, List.length_nil, List.drop_zero, List.length_drop] <;> omega)) only [vwp_skip, vwp_ret, vwp_exit, vwp_lab, vwp_seq, vwp_cond, vwp_block, vwp_scope, vwp_region, vwp_draw, vwp_loop, vwp_range, vcnd_tt, vcnd_ff, vthen_normal, vthen_ret, vthen_exit, vblock_normal, vblock_ret, vblock_exit, vreg_nil, vreg_cons, vhl_nil, vhl_op, vhl_guard, vguard_tt, vguard_ff, vguard_tf, vguard_ft, vguard_no, vact_op, vop_some, vput_some, vput_none, vsame_sm, vunit_sm, vget_nil, vget_cons, vget_some,
    vo_mv, vo_bin, vo_un, vo_ext, vo_len, vo_idxS, vo_idxStr, vo_load, vo_pick, vo_append, vo_bslice, evp, vo_nilc, vo_faddr, vo_store, vo_sliceSl, vo_sliceStr, vo_cInt, vo_copy, vo_mkSlice, vo_box, vo_build, vo_b2s, vb2s_sl, vb2s_nil, vcInt, vnil_ptr, vo_mkMap, vo_mkfn, vo_lookup, vo_mapUpd, vo_del, vdel_some, vo_rangeMap, vo_entry, vfaddr_ptr, beq_self_eq_true, eq_self, decide_true, decide_false, vb_lss, vb_leq, vb_gtr, vb_geq, vb_eql, vb_neq, vb_seql, vb_sneq, vb_beql, vb_bneq, vun_not, vlen_str, vlen_sl, vlen_nil, vext_tup, HX.ev, List.length_cons, List.length_nil, List.append_nil, List.nil_append, List.cons_append, List.set_cons_succ, List.set_cons_zero, List.getElem?_cons_succ, List.getElem?_cons_zero, Option.getD_some, Option.map_some, Option.map_none, List.map_cons, List.map_nil, if_true, Bool.not_true, Bool.not_false, Bool.false_eq_true, if_false, va_load, va_ld, va_loadA, va_ldA, va_store, va_st1, va_stn, va_kill0, va_killS, va_box1, va_boxA, get_base, get_base0, set_base, set_base0, List.length_append, Nat.reduceAdd, Nat.zero_add, List.append_assoc, vo_s2b, vo_minmax, va_min2, va_max2, va_minl, List.drop_zero, List.drop_succ_cons, List.take_succ_cons, List.take_zero, vdr_nil, vdr_cons, vdr_op, vdr_some, vdr_loud, vdr_lsome, HOp.looks, vholds_cons, vholds_nil, implies_true, true_and, and_true, vres_tmp, vres_tmp2, vres_none, vres_cell1, vres_k, vres_cell2, vres_k2, vend_ret, vend_normal, vex_some, vdr_guard, vdg_tt, vdg_ff, vdg_tf, vdg_ft, vdg_no, vo_pick, va_s2b, va_takeS, va_takeN, va_app, va_apB, va_ap0, vsadd, Nat.reduceEqDiff, va_sOk, va_sOkN, va_sOk1, va_slLo, va_slHi, va_slBoth, va_slLoC, va_slHiC, va_slBothC, va_nilHi, va_nilLo, va_nilNone, h41, frame0, List.replicate, Nat.sub]
  repeat' first
    | simp -implicitDefEqProofs (disch := first | omega | decide | exact rfl | exact Nat.le_of_ble_eq_true rfl | assumption | (simp only [List.length_append, List.length_cons, List.length_nil, List.drop_zero, List.length_drop] <;> omega)) only [vwp_skip, vwp_ret, vwp_exit, vwp_lab, vwp_seq, vwp_cond, vwp_block, vwp_scope, vwp_region, vwp_draw, vwp_loop, vwp_range, vcnd_tt, vcnd_ff, vthen_normal, vthen_ret, vthen_exit, vblock_normal, vblock_ret, vblock_exit, vreg_nil, vreg_cons, vhl_nil, vhl_op, vhl_guard, vguard_tt, vguard_ff, vguard_tf, vguard_ft, vguard_no, vact_op, vop_some, vput_some, vput_none, vsame_sm, vunit_sm, vget_nil, vget_cons, vget_some,
    vo_mv, vo_bin, vo_un, vo_ext, vo_len, vo_idxS, vo_idxStr, vo_load, vo_pick, vo_append, vo_bslice, evp, vo_nilc, vo_faddr, vo_store, vo_sliceSl, vo_sliceStr, vo_cInt, vo_copy, vo_mkSlice, vo_box, vo_build, vo_b2s, vb2s_sl, vb2s_nil, vcInt, vnil_ptr, vo_mkMap, vo_mkfn, vo_lookup, vo_mapUpd, vo_del, vdel_some, vo_rangeMap, vo_entry, vfaddr_ptr, beq_self_eq_true, eq_self, decide_true, decide_false, vb_lss, vb_leq, vb_gtr, vb_geq, vb_eql, vb_neq, vb_seql, vb_sneq, vb_beql, vb_bneq, vun_not, vlen_str, vlen_sl, vlen_nil, vext_tup, HX.ev, List.length_cons, List.length_nil, List.append_nil, List.nil_append, List.cons_append, List.set_cons_succ, List.set_cons_zero, List.getElem?_cons_succ, List.getElem?_cons_zero, Option.getD_some, Option.map_some, Option.map_none, List.map_cons, List.map_nil, if_true, Bool.not_true, Bool.not_false, Bool.false_eq_true, if_false, va_load, va_ld, va_loadA, va_ldA, va_store, va_st1, va_stn, va_kill0, va_killS, va_box1, va_boxA, get_base, get_base0, set_base, set_base0, List.length_append, Nat.reduceAdd, Nat.zero_add, List.append_assoc, vo_s2b, vo_minmax, va_min2, va_max2, va_minl, List.drop_zero, List.drop_succ_cons, List.take_succ_cons, List.take_zero, vdr_nil, vdr_cons, vdr_op, vdr_some, vdr_loud, vdr_lsome, HOp.looks, vholds_cons, vholds_nil, implies_true, true_and, and_true, vres_tmp, vres_tmp2, vres_none, vres_cell1, vres_k, vres_cell2, vres_k2, vend_ret, vend_normal, vex_some, vdr_guard, vdg_tt, vdg_ff, vdg_tf, vdg_ft, vdg_no, vo_pick, va_s2b, va_takeS, va_takeN, va_app, va_apB, va_ap0, vsadd, Nat.reduceEqDiff, va_sOk, va_sOkN, va_sOk1, va_slLo, va_slHi, va_slBoth, va_slLoC, va_slHiC, va_slBothC, va_nilHi, va_nilLo, va_nilNone, *]
    | refine condK_cases (fun h => ?_) (fun h => ?_)
    | refine guardK_cases (fun h => ?_) (fun h => ?_)
    | refine dgK_cases (fun h => ?_) (fun h => ?_)
    | refine hwp_draw mixed rfl ?_

  all_goals
    refine congrArg HV.str ?_
    simp_all [fldL]
theorem has44 (k : Int) (c : UInt8) (hs : HS) : HC Tryd.prog 44 [.int .i64 k, .int .u8 c.toNat] hs fun v hs' => v = .bool ((fldL k).contains c) ∧ hs' = hs := by
  refine HC.wp mixed Tryd.func44 c44 ?_
  simp -implicitDefEqProofs (disch := first | omega | decide | exact rfl | exact Nat.le_of_ble_eq_true rfl | assumption | (simp only [List.length_append, List.length_cons, List.length_nil, List.drop_zero, List.length_drop] <;> omega)) only [vwp_skip, vwp_ret, vwp_exit, vwp_lab, vwp_seq, vwp_cond, vwp_block, vwp_scope, vwp_region, vwp_draw, vwp_loop, vwp_range, vcnd_tt, vcnd_ff, vthen_normal, vthen_ret, vthen_exit, vblock_normal, vblock_ret, vblock_exit, vreg_nil, vreg_cons, vhl_nil, vhl_op, vhl_guard, vguard_tt, vguard_ff, vguard_tf, vguard_ft, vguard_no, vact_op, vop_some, vput_some, vput_none, vsame_sm, vunit_sm, vget_nil, vget_cons, vget_some,
    vo_mv, vo_bin, vo_un, vo_ext, vo_len, vo_idxS, vo_idxStr, vo_load, vo_pick, vo_append, vo_bslice, evp, vo_nilc, vo_faddr, vo_store, vo_sliceSl, vo_sliceStr, vo_cInt, vo_copy, vo_mkSlice, vo_box, vo_build, vo_b2s, vb2s_sl, vb2s_nil, vcInt, vnil_ptr, vo_mkMap, vo_mkfn, vo_lookup, vo_mapUpd, vo_del, vdel_some, vo_rangeMap, vo_entry, vfaddr_ptr, beq_self_eq_true, eq_self, decide_true, decide_false, vb_lss, vb_leq, vb_gtr, vb_geq, vb_eql, vb_neq, vb_seql, vb_sneq, vb_beql, vb_bneq, vun_not, vlen_str, vlen_sl, vlen_nil, vext_tup, HX.ev, List.length_cons, List.length_nil, List.append_nil, List.nil_append, List.cons_append, List.set_cons_succ, List.set_cons_zero, List.getElem?_cons_succ, List.getElem?_cons_zero, Option.getD_some, Option.map_some, Option.map_none, List.map_cons, List.map_nil, if_true, Bool.not_true, Bool.not_false, Bool.false_eq_true, if_false, va_load, va_ld, va_loadA, va_ldA, va_store, va_st1, va_stn, va_kill0, va_killS, va_box1, va_boxA, get_base, get_base0, set_base, set_base0, List.length_append, Nat.reduceAdd, Nat.zero_add, List.append_assoc, vo_s2b, vo_minmax, va_min2, va_max2, va_minl, List.drop_zero, List.drop_succ_cons, List.take_succ_cons, List.take_zero, vdr_nil, vdr_cons, vdr_op, vdr_some, vdr_loud, vdr_lsome, HOp.looks, vholds_cons, vholds_nil, implies_true, true_and, and_true, vres_tmp, vres_tmp2, vres_none, vres_cell1, vres_k, vres_cell2, vres_k2, vend_ret, vend_normal, vex_some, vdr_guard, vdg_tt, vdg_ff, vdg_tf, vdg_ft, vdg_no, vo_pick, va_s2b, va_takeS, va_takeN, va_app, va_apB, va_ap0, vsadd, Nat.reduceEqDiff, va_sOk, va_sOkN, va_sOk1, va_slLo, va_slHi, va_slBoth, va_slLoC, va_slHiC, va_slBothC, va_nilHi, va_nilLo, va_nilNone, h44, frame0, List.replicate, Nat.sub]
  refine vcall_of ok41 rfl (fields41 k hs) ?_
  rintro _ hs ⟨rfl, rfl⟩
  simp -implicitDefEqProofs (disch := first | omega | decide | exact rfl | exact Nat.le_of_ble_eq_true rfl | assumption | (simp only [List.length_append, List.length_cons, List.length_nil, List.drop_zero, List.length_drop] <;> omega)) only [vwp_skip, vwp_ret, vwp_exit, vwp_lab, vwp_seq, vwp_cond, vwp_block, vwp_scope, vwp_region, vwp_draw, vwp_loop, vwp_range, vcnd_tt, vcnd_ff, vthen_normal, vthen_ret, vthen_exit, vblock_normal, vblock_ret, vblock_exit, vreg_nil, vreg_cons, vhl_nil, vhl_op, vhl_guard, vguard_tt, vguard_ff, vguard_tf, vguard_ft, vguard_no, vact_op, vop_some, vput_some, vput_none, vsame_sm, vunit_sm, vget_nil, vget_cons, vget_some,
    vo_mv, vo_bin, vo_un, vo_ext, vo_len, vo_idxS, vo_idxStr, vo_load, vo_pick, vo_append, vo_bslice, evp, vo_nilc, vo_faddr, vo_store, vo_sliceSl, vo_sliceStr, vo_cInt, vo_copy, vo_mkSlice, vo_box, vo_build, vo_b2s, vb2s_sl, vb2s_nil, vcInt, vnil_ptr, vo_mkMap, vo_mkfn, vo_lookup, vo_mapUpd, vo_del, vdel_some, vo_rangeMap, vo_entry, vfaddr_ptr, beq_self_eq_true, eq_self, decide_true, decide_false, vb_lss, vb_leq, vb_gtr, vb_geq, vb_eql, vb_neq, vb_seql, vb_sneq, vb_beql, vb_bneq, vun_not, vlen_str, vlen_sl, vlen_nil, vext_tup, HX.ev, List.length_cons, List.length_nil, List.append_nil, List.nil_append, List.cons_append, List.set_cons_succ, List.set_cons_zero, List.getElem?_cons_succ, List.getElem?_cons_zero, Option.getD_some, Option.map_some, Option.map_none, List.map_cons, List.map_nil, if_true, Bool.not_true, Bool.not_false, Bool.false_eq_true, if_false, va_load, va_ld, va_loadA, va_ldA, va_store, va_st1, va_stn, va_kill0, va_killS, va_box1, va_boxA, get_base, get_base0, set_base, set_base0, List.length_append, Nat.reduceAdd, Nat.zero_add, List.append_assoc, vo_s2b, vo_minmax, va_min2, va_max2, va_minl, List.drop_zero, List.drop_succ_cons, List.take_succ_cons, List.take_zero, vdr_nil, vdr_cons, vdr_op, vdr_some, vdr_loud, vdr_lsome, HOp.looks, vholds_cons, vholds_nil, implies_true, true_and, and_true, vres_tmp, vres_tmp2, vres_none, vres_cell1, vres_k, vres_cell2, vres_k2, vend_ret, vend_normal, vex_some, vdr_guard, vdg_tt, vdg_ff, vdg_tf, vdg_ft, vdg_no, vo_pick, va_s2b, va_takeS, va_takeN, va_app, va_apB, va_ap0, vsadd, Nat.reduceEqDiff, va_sOk, va_sOkN, va_sOk1, va_slLo, va_slHi, va_slBoth, va_slLoC, va_slHiC, va_slBothC, va_nilHi, va_nilLo, va_nilNone]
  refine HW.loopS mixed (fun i : Nat => (.int .i64 k :: .int .u8 c.toNat :: .undef :: .undef :: .bool false :: .str (fldL k) :: .int .i64 (i : Nat) :: .undef :: .undef :: .undef :: .undef :: .undef :: .undef :: .undef :: .undef :: .undef :: .undef :: .undef :: .undef :: .undef :: [])) (fun _ => hs) (fun i => (fldL k).length - i) (fun i => i ≤ (fldL k).length ∧ ∀ (j : Nat) (d : UInt8), j < i → (fldL k)[j]? = some d → d ≠ c) 0 ⟨by omega, fun j d h => by omega⟩ rfl (by (repeat first | exact Less.nil | refine Less.undef _ ?_ | refine Less.keep _ ?_)) ?_
  rintro i ⟨hi, ha⟩
  by_cases h : i < (fldL k).length
  · have hlt : decide ((i : Int) < ((fldL k).length : Nat)) = true := by simp; omega
    have hx := hidx (List.getElem?_eq_getElem h)
    obtain ⟨b, hb⟩ := exB (decide ((((fldL k)[i].toNat : Nat) : Int) = (c.toNat : Nat)))
    have hl5 : (fldL k).length ≤ 2 := by
      unfold fldL
      repeat' split
      all_goals simp
    simp -implicitDefEqProofs (disch := first | omega | decide) only [vwp_skip, vwp_ret, vwp_exit, vwp_lab, vwp_seq, vwp_cond, vwp_block, vwp_scope, vwp_region, vwp_draw, vwp_loop, vwp_range, vcnd_tt, vcnd_ff, vthen_normal, vthen_ret, vthen_exit, vblock_normal, vblock_ret, vblock_exit, vreg_nil, vreg_cons, vhl_nil, vhl_op, vhl_guard, vguard_tt, vguard_ff, vguard_tf, vguard_ft, vguard_no, vact_op, vop_some, vput_some, vput_none, vsame_sm, vunit_sm, vget_nil, vget_cons, vget_some,
    vo_mv, vo_bin, vo_un, vo_ext, vo_len, vo_idxS, vo_idxStr, vo_load, vo_pick, vo_append, vo_bslice, evp, vo_nilc, vo_faddr, vo_store, vo_sliceSl, vo_sliceStr, vo_cInt, vo_copy, vo_mkSlice, vo_box, vo_build, vo_b2s, vb2s_sl, vb2s_nil, vcInt, vnil_ptr, vo_mkMap, vo_mkfn, vo_lookup, vo_mapUpd, vo_del, vdel_some, vo_rangeMap, vo_entry, vfaddr_ptr, beq_self_eq_true, eq_self, decide_true, decide_false, vb_lss, vb_leq, vb_gtr, vb_geq, vb_eql, vb_neq, vb_seql, vb_sneq, vb_beql, vb_bneq, vun_not, vlen_str, vlen_sl, vlen_nil, vext_tup, HX.ev, List.length_cons, List.length_nil, List.append_nil, List.nil_append, List.cons_append, List.set_cons_succ, List.set_cons_zero, List.getElem?_cons_succ, List.getElem?_cons_zero, Option.getD_some, Option.map_some, Option.map_none, List.map_cons, List.map_nil, if_true, Bool.not_true, Bool.not_false, Bool.false_eq_true, if_false, hlt, hx, hb]
    cases b
    · have hne : (fldL k)[i] ≠ c := fun e => by have := of_decide_eq_false hb; rw [e] at this; exact this rfl
      simp -implicitDefEqProofs (disch := first | omega | decide) only [vwp_skip, vwp_ret, vwp_exit, vwp_lab, vwp_seq, vwp_cond, vwp_block, vwp_scope, vwp_region, vwp_draw, vwp_loop, vwp_range, vcnd_tt, vcnd_ff, vthen_normal, vthen_ret, vthen_exit, vblock_normal, vblock_ret, vblock_exit, vreg_nil, vreg_cons, vhl_nil, vhl_op, vhl_guard, vguard_tt, vguard_ff, vguard_tf, vguard_ft, vguard_no, vact_op, vop_some, vput_some, vput_none, vsame_sm, vunit_sm, vget_nil, vget_cons, vget_some,
    vo_mv, vo_bin, vo_un, vo_ext, vo_len, vo_idxS, vo_idxStr, vo_load, vo_pick, vo_append, vo_bslice, evp, vo_nilc, vo_faddr, vo_store, vo_sliceSl, vo_sliceStr, vo_cInt, vo_copy, vo_mkSlice, vo_box, vo_build, vo_b2s, vb2s_sl, vb2s_nil, vcInt, vnil_ptr, vo_mkMap, vo_mkfn, vo_lookup, vo_mapUpd, vo_del, vdel_some, vo_rangeMap, vo_entry, vfaddr_ptr, beq_self_eq_true, eq_self, decide_true, decide_false, vb_lss, vb_leq, vb_gtr, vb_geq, vb_eql, vb_neq, vb_seql, vb_sneq, vb_beql, vb_bneq, vun_not, vlen_str, vlen_sl, vlen_nil, vext_tup, HX.ev, List.length_cons, List.length_nil, List.append_nil, List.nil_append, List.cons_append, List.set_cons_succ, List.set_cons_zero, List.getElem?_cons_succ, List.getElem?_cons_zero, Option.getD_some, Option.map_some, Option.map_none, List.map_cons, List.map_nil, if_true, Bool.not_true, Bool.not_false, Bool.false_eq_true, if_false, vadd1]
      refine ⟨i + 1, by omega, ⟨by omega, fun j d hj hd => ?_⟩, trivial, by (repeat first | exact Less.nil | refine Less.undef _ ?_ | refine Less.keep _ ?_)⟩
      by_cases hji : j < i
      · exact ha j d hji hd
      · obtain rfl : j = i := by omega
        rw [List.getElem?_eq_getElem h] at hd
        simp at hd
        rw [← hd]; exact hne
    · have heq : (fldL k)[i] = c := UInt8.toNat_inj.1 (by have := of_decide_eq_true hb; omega)
      have : c ∈ fldL k := heq ▸ List.getElem_mem h
      have hc := List.contains_iff_mem.2 this
      rw [hc]
      simp -implicitDefEqProofs (disch := first | omega | decide) only [vwp_skip, vwp_ret, vwp_exit, vwp_lab, vwp_seq, vwp_cond, vwp_block, vwp_scope, vwp_region, vwp_draw, vwp_loop, vwp_range, vcnd_tt, vcnd_ff, vthen_normal, vthen_ret, vthen_exit, vblock_normal, vblock_ret, vblock_exit, vreg_nil, vreg_cons, vhl_nil, vhl_op, vhl_guard, vguard_tt, vguard_ff, vguard_tf, vguard_ft, vguard_no, vact_op, vop_some, vput_some, vput_none, vsame_sm, vunit_sm, vget_nil, vget_cons, vget_some,
    vo_mv, vo_bin, vo_un, vo_ext, vo_len, vo_idxS, vo_idxStr, vo_load, vo_pick, vo_append, vo_bslice, evp, vo_nilc, vo_faddr, vo_store, vo_sliceSl, vo_sliceStr, vo_cInt, vo_copy, vo_mkSlice, vo_box, vo_build, vo_b2s, vb2s_sl, vb2s_nil, vcInt, vnil_ptr, vo_mkMap, vo_mkfn, vo_lookup, vo_mapUpd, vo_del, vdel_some, vo_rangeMap, vo_entry, vfaddr_ptr, beq_self_eq_true, eq_self, decide_true, decide_false, vb_lss, vb_leq, vb_gtr, vb_geq, vb_eql, vb_neq, vb_seql, vb_sneq, vb_beql, vb_bneq, vun_not, vlen_str, vlen_sl, vlen_nil, vext_tup, HX.ev, List.length_cons, List.length_nil, List.append_nil, List.nil_append, List.cons_append, List.set_cons_succ, List.set_cons_zero, List.getElem?_cons_succ, List.getElem?_cons_zero, Option.getD_some, Option.map_some, Option.map_none, List.map_cons, List.map_nil, if_true, Bool.not_true, Bool.not_false, Bool.false_eq_true, if_false, vadd1]
      simp [HExit.ended, hres]
  · obtain rfl : i = (fldL k).length := by omega
    have hlt : decide ((((fldL k).length : Nat) : Int) < ((fldL k).length : Nat)) = false := by simp
    have : (fldL k).contains c = false := by
      cases hc : (fldL k).contains c with
      | false => rfl
      | true =>
        obtain ⟨j, hj⟩ := List.getElem?_of_mem (List.contains_iff_mem.1 hc)
        exact absurd rfl (ha j c (lt_of_get hj) hj)
    rw [this]
    simp -implicitDefEqProofs (disch := first | omega | decide) only [vwp_skip, vwp_ret, vwp_exit, vwp_lab, vwp_seq, vwp_cond, vwp_block, vwp_scope, vwp_region, vwp_draw, vwp_loop, vwp_range, vcnd_tt, vcnd_ff, vthen_normal, vthen_ret, vthen_exit, vblock_normal, vblock_ret, vblock_exit, vreg_nil, vreg_cons, vhl_nil, vhl_op, vhl_guard, vguard_tt, vguard_ff, vguard_tf, vguard_ft, vguard_no, vact_op, vop_some, vput_some, vput_none, vsame_sm, vunit_sm, vget_nil, vget_cons, vget_some,
    vo_mv, vo_bin, vo_un, vo_ext, vo_len, vo_idxS, vo_idxStr, vo_load, vo_pick, vo_append, vo_bslice, evp, vo_nilc, vo_faddr, vo_store, vo_sliceSl, vo_sliceStr, vo_cInt, vo_copy, vo_mkSlice, vo_box, vo_build, vo_b2s, vb2s_sl, vb2s_nil, vcInt, vnil_ptr, vo_mkMap, vo_mkfn, vo_lookup, vo_mapUpd, vo_del, vdel_some, vo_rangeMap, vo_entry, vfaddr_ptr, beq_self_eq_true, eq_self, decide_true, decide_false, vb_lss, vb_leq, vb_gtr, vb_geq, vb_eql, vb_neq, vb_seql, vb_sneq, vb_beql, vb_bneq, vun_not, vlen_str, vlen_sl, vlen_nil, vext_tup, HX.ev, List.length_cons, List.length_nil, List.append_nil, List.nil_append, List.cons_append, List.set_cons_succ, List.set_cons_zero, List.getElem?_cons_succ, List.getElem?_cons_zero, Option.getD_some, Option.map_some, Option.map_none, List.map_cons, List.map_nil, if_true, Bool.not_true, Bool.not_false, Bool.false_eq_true, if_false, hlt]
    simp [HExit.ended, hres]
def leastI (c : UInt8) : Int := if c = 73 then 1 else 0
theorem least54 (c : UInt8) (hs : HS) : HC Tryd.prog 54 [.int .u8 c.toNat] hs fun v hs' => v = .int .i64 (leastI c) ∧ hs' = hs := by
  refine HC.wp mixed Tryd.func54 c54 ?_
  simp -implicitDefEqProofs (disch := first | omega | decide | exact rfl | exact Nat.le_of_ble_eq_true rfl | assumption | (simp only [List.length_append, List.length_cons, List.length_nil, List.drop_zero, List.length_drop] <;> omega)) only [vwp_skip, vwp_ret, vwp_exit, vwp_lab, vwp_seq, vwp_cond, vwp_block, vwp_scope, vwp_region, vwp_draw, vwp_loop, vwp_range, vcnd_tt, vcnd_ff, vthen_normal, vthen_ret, vthen_exit, vblock_normal, vblock_ret, vblock_exit, vreg_nil, vreg_cons, vhl_nil, vhl_op, vhl_guard, vguard_tt, vguard_ff, vguard_tf, vguard_ft, vguard_no, vact_op, vop_some, vput_some, vput_none, vsame_sm, vunit_sm, vget_nil, vget_cons, vget_some,
    vo_mv, vo_bin, vo_un, vo_ext, vo_len, vo_idxS, vo_idxStr, vo_load, vo_pick, vo_append, vo_bslice, evp, vo_nilc, vo_faddr, vo_store, vo_sliceSl, vo_sliceStr, vo_cInt, vo_copy, vo_mkSlice, vo_box, vo_build, vo_b2s, vb2s_sl, vb2s_nil, vcInt, vnil_ptr, vo_mkMap, vo_mkfn, vo_lookup, vo_mapUpd, vo_del, vdel_some, vo_rangeMap, vo_entry, vfaddr_ptr, beq_self_eq_true, eq_self, decide_true, decide_false, vb_lss, vb_leq, vb_gtr, vb_geq, vb_eql, vb_neq, vb_seql, vb_sneq, vb_beql, vb_bneq, vun_not, vlen_str, vlen_sl, vlen_nil, vext_tup, HX.ev, List.length_cons, List.length_nil, List.append_nil, List.nil_append, List.cons_append, List.set_cons_succ, List.set_cons_zero, List.getElem?_cons_succ, List.getElem?_cons_zero, Option.getD_some, Option.map_some, Option.map_none, List.map_cons, List.map_nil, if_true, Bool.not_true, Bool.not_false, Bool.false_eq_true, if_false, va_load, va_ld, va_loadA, va_ldA, va_store, va_st1, va_stn, va_kill0, va_killS, va_box1, va_boxA, get_base, get_base0, set_base, set_base0, List.length_append, Nat.reduceAdd, Nat.zero_add, List.append_assoc, vo_s2b, vo_minmax, va_min2, va_max2, va_minl, List.drop_zero, List.drop_succ_cons, List.take_succ_cons, List.take_zero, vdr_nil, vdr_cons, vdr_op, vdr_some, vdr_loud, vdr_lsome, HOp.looks, vholds_cons, vholds_nil, implies_true, true_and, and_true, vres_tmp, vres_tmp2, vres_none, vres_cell1, vres_k, vres_cell2, vres_k2, vend_ret, vend_normal, vex_some, vdr_guard, vdg_tt, vdg_ff, vdg_tf, vdg_ft, vdg_no, vo_pick, va_s2b, va_takeS, va_takeN, va_app, va_apB, va_ap0, vsadd, Nat.reduceEqDiff, va_sOk, va_sOkN, va_sOk1, va_slLo, va_slHi, va_slBoth, va_slLoC, va_slHiC, va_slBothC, va_nilHi, va_nilLo, va_nilNone, h54, frame0, List.replicate, Nat.sub]
  repeat' first
    | simp -implicitDefEqProofs (disch := first | omega | decide | exact rfl | exact Nat.le_of_ble_eq_true rfl | assumption | (simp only [List.length_append, List.length_cons, List.length_nil, List.drop_zero, List.length_drop] <;> omega)) only [vwp_skip, vwp_ret, vwp_exit, vwp_lab, vwp_seq, vwp_cond, vwp_block, vwp_scope, vwp_region, vwp_draw, vwp_loop, vwp_range, vcnd_tt, vcnd_ff, vthen_normal, vthen_ret, vthen_exit, vblock_normal, vblock_ret, vblock_exit, vreg_nil, vreg_cons, vhl_nil, vhl_op, vhl_guard, vguard_tt, vguard_ff, vguard_tf, vguard_ft, vguard_no, vact_op, vop_some, vput_some, vput_none, vsame_sm, vunit_sm, vget_nil, vget_cons, vget_some,
    vo_mv, vo_bin, vo_un, vo_ext, vo_len, vo_idxS, vo_idxStr, vo_load, vo_pick, vo_append, vo_bslice, evp, vo_nilc, vo_faddr, vo_store, vo_sliceSl, vo_sliceStr, vo_cInt, vo_copy, vo_mkSlice, vo_box, vo_build, vo_b2s, vb2s_sl, vb2s_nil, vcInt, vnil_ptr, vo_mkMap, vo_mkfn, vo_lookup, vo_mapUpd, vo_del, vdel_some, vo_rangeMap, vo_entry, vfaddr_ptr, beq_self_eq_true, eq_self, decide_true, decide_false, vb_lss, vb_leq, vb_gtr, vb_geq, vb_eql, vb_neq, vb_seql, vb_sneq, vb_beql, vb_bneq, vun_not, vlen_str, vlen_sl, vlen_nil, vext_tup, HX.ev, List.length_cons, List.length_nil, List.append_nil, List.nil_append, List.cons_append, List.set_cons_succ, List.set_cons_zero, List.getElem?_cons_succ, List.getElem?_cons_zero, Option.getD_some, Option.map_some, Option.map_none, List.map_cons, List.map_nil, if_true, Bool.not_true, Bool.not_false, Bool.false_eq_true, if_false, va_load, va_ld, va_loadA, va_ldA, va_store, va_st1, va_stn, va_kill0, va_killS, va_box1, va_boxA, get_base, get_base0, set_base, set_base0, List.length_append, Nat.reduceAdd, Nat.zero_add, List.append_assoc, vo_s2b, vo_minmax, va_min2, va_max2, va_minl, List.drop_zero, List.drop_succ_cons, List.take_succ_cons, List.take_zero, vdr_nil, vdr_cons, vdr_op, vdr_some, vdr_loud, vdr_lsome, HOp.looks, vholds_cons, vholds_nil, implies_true, true_and, and_true, vres_tmp, vres_tmp2, vres_none, vres_cell1, vres_k, vres_cell2, vres_k2, vend_ret, vend_normal, vex_some, vdr_guard, vdg_tt, vdg_ff, vdg_tf, vdg_ft, vdg_no, vo_pick, va_s2b, va_takeS, va_takeN, va_app, va_apB, va_ap0, vsadd, Nat.reduceEqDiff, va_sOk, va_sOkN, va_sOk1, va_slLo, va_slHi, va_slBoth, va_slLoC, va_slHiC, va_slBothC, va_nilHi, va_nilLo, va_nilNone, *]
    | refine condK_cases (fun h => ?_) (fun h => ?_)
    | refine guardK_cases (fun h => ?_) (fun h => ?_)
    | refine dgK_cases (fun h => ?_) (fun h => ?_)
    | refine hwp_draw mixed rfl ?_

  all_goals
    refine congrArg (HV.int _) ?_
    simp only [decide_eq_true_eq, decide_eq_false_iff_not] at h
    unfold leastI
    have : (73 : UInt8).toNat = 73 := rfl
    first
      | rw [if_pos (UInt8.toNat_inj.1 (by omega))]
      | (rw [if_neg (fun e => by rw [e] at h; omega)])
def greatI (k : Int) (c : UInt8) : Int := if c = 73 then 1099511627776 else if c = 66 ∧ k ≠ 16 then 65535 else 4294967295
theorem most55 (k : Int) (c : UInt8) (hs : HS) : HC Tryd.prog 55 [.int .i64 k, .int .u8 c.toNat] hs fun v hs' => v = .int .i64 (greatI k c) ∧ hs' = hs := by
  have e1 : (((c.toNat : Nat) : Int) = 73) = (c = 73) := propext ⟨fun h => UInt8.toNat_inj.1 (by have : (73 : UInt8).toNat = 73 := rfl; omega), fun h => by rw [h]; rfl⟩
  have e2 : (((c.toNat : Nat) : Int) = 66) = (c = 66) := propext ⟨fun h => UInt8.toNat_inj.1 (by have : (66 : UInt8).toNat = 66 := rfl; omega), fun h => by rw [h]; rfl⟩
  refine HC.wp mixed Tryd.func55 c55 ?_
  simp -implicitDefEqProofs (disch := first | omega | decide | exact rfl | exact Nat.le_of_ble_eq_true rfl | assumption | (simp only [List.length_append, List.length_cons, List.length_nil, List.drop_zero, List.length_drop] <;> omega)) only [vwp_skip, vwp_ret, vwp_exit, vwp_lab, vwp_seq, vwp_cond, vwp_block, vwp_scope, vwp_region, vwp_draw, vwp_loop, vwp_range, vcnd_tt, vcnd_ff, vthen_normal, vthen_ret, vthen_exit, vblock_normal, vblock_ret, vblock_exit, vreg_nil, vreg_cons, vhl_nil, vhl_op, vhl_guard, vguard_tt, vguard_ff, vguard_tf, vguard_ft, vguard_no, vact_op, vop_some, vput_some, vput_none, vsame_sm, vunit_sm, vget_nil, vget_cons, vget_some,
    vo_mv, vo_bin, vo_un, vo_ext, vo_len, vo_idxS, vo_idxStr, vo_load, vo_pick, vo_append, vo_bslice, evp, vo_nilc, vo_faddr, vo_store, vo_sliceSl, vo_sliceStr, vo_cInt, vo_copy, vo_mkSlice, vo_box, vo_build, vo_b2s, vb2s_sl, vb2s_nil, vcInt, vnil_ptr, vo_mkMap, vo_mkfn, vo_lookup, vo_mapUpd, vo_del, vdel_some, vo_rangeMap, vo_entry, vfaddr_ptr, beq_self_eq_true, eq_self, decide_true, decide_false, vb_lss, vb_leq, vb_gtr, vb_geq, vb_eql, vb_neq, vb_seql, vb_sneq, vb_beql, vb_bneq, vun_not, vlen_str, vlen_sl, vlen_nil, vext_tup, HX.ev, List.length_cons, List.length_nil, List.append_nil, List.nil_append, List.cons_append, List.set_cons_succ, List.set_cons_zero, List.getElem?_cons_succ, List.getElem?_cons_zero, Option.getD_some, Option.map_some, Option.map_none, List.map_cons, List.map_nil, if_true, Bool.not_true, Bool.not_false, Bool.false_eq_true, if_false, va_load, va_ld, va_loadA, va_ldA, va_store, va_st1, va_stn, va_kill0, va_killS, va_box1, va_boxA, get_base, get_base0, set_base, set_base0, List.length_append, Nat.reduceAdd, Nat.zero_add, List.append_assoc, vo_s2b, vo_minmax, va_min2, va_max2, va_minl, List.drop_zero, List.drop_succ_cons, List.take_succ_cons, List.take_zero, vdr_nil, vdr_cons, vdr_op, vdr_some, vdr_loud, vdr_lsome, HOp.looks, vholds_cons, vholds_nil, implies_true, true_and, and_true, vres_tmp, vres_tmp2, vres_none, vres_cell1, vres_k, vres_cell2, vres_k2, vend_ret, vend_normal, vex_some, vdr_guard, vdg_tt, vdg_ff, vdg_tf, vdg_ft, vdg_no, vo_pick, va_s2b, va_takeS, va_takeN, va_app, va_apB, va_ap0, vsadd, Nat.reduceEqDiff, va_sOk, va_sOkN, va_sOk1, va_slLo, va_slHi, va_slBoth, va_slLoC, va_slHiC, va_slBothC, va_nilHi, va_nilLo, va_nilNone, h55, frame0, List.replicate, Nat.sub]
  repeat' first
    | simp -implicitDefEqProofs (disch := first | omega | decide | exact rfl | exact Nat.le_of_ble_eq_true rfl | assumption | (simp only [List.length_append, List.length_cons, List.length_nil, List.drop_zero, List.length_drop] <;> omega)) only [vwp_skip, vwp_ret, vwp_exit, vwp_lab, vwp_seq, vwp_cond, vwp_block, vwp_scope, vwp_region, vwp_draw, vwp_loop, vwp_range, vcnd_tt, vcnd_ff, vthen_normal, vthen_ret, vthen_exit, vblock_normal, vblock_ret, vblock_exit, vreg_nil, vreg_cons, vhl_nil, vhl_op, vhl_guard, vguard_tt, vguard_ff, vguard_tf, vguard_ft, vguard_no, vact_op, vop_some, vput_some, vput_none, vsame_sm, vunit_sm, vget_nil, vget_cons, vget_some,
    vo_mv, vo_bin, vo_un, vo_ext, vo_len, vo_idxS, vo_idxStr, vo_load, vo_pick, vo_append, vo_bslice, evp, vo_nilc, vo_faddr, vo_store, vo_sliceSl, vo_sliceStr, vo_cInt, vo_copy, vo_mkSlice, vo_box, vo_build, vo_b2s, vb2s_sl, vb2s_nil, vcInt, vnil_ptr, vo_mkMap, vo_mkfn, vo_lookup, vo_mapUpd, vo_del, vdel_some, vo_rangeMap, vo_entry, vfaddr_ptr, beq_self_eq_true, eq_self, decide_true, decide_false, vb_lss, vb_leq, vb_gtr, vb_geq, vb_eql, vb_neq, vb_seql, vb_sneq, vb_beql, vb_bneq, vun_not, vlen_str, vlen_sl, vlen_nil, vext_tup, HX.ev, List.length_cons, List.length_nil, List.append_nil, List.nil_append, List.cons_append, List.set_cons_succ, List.set_cons_zero, List.getElem?_cons_succ, List.getElem?_cons_zero, Option.getD_some, Option.map_some, Option.map_none, List.map_cons, List.map_nil, if_true, Bool.not_true, Bool.not_false, Bool.false_eq_true, if_false, va_load, va_ld, va_loadA, va_ldA, va_store, va_st1, va_stn, va_kill0, va_killS, va_box1, va_boxA, get_base, get_base0, set_base, set_base0, List.length_append, Nat.reduceAdd, Nat.zero_add, List.append_assoc, vo_s2b, vo_minmax, va_min2, va_max2, va_minl, List.drop_zero, List.drop_succ_cons, List.take_succ_cons, List.take_zero, vdr_nil, vdr_cons, vdr_op, vdr_some, vdr_loud, vdr_lsome, HOp.looks, vholds_cons, vholds_nil, implies_true, true_and, and_true, vres_tmp, vres_tmp2, vres_none, vres_cell1, vres_k, vres_cell2, vres_k2, vend_ret, vend_normal, vex_some, vdr_guard, vdg_tt, vdg_ff, vdg_tf, vdg_ft, vdg_no, vo_pick, va_s2b, va_takeS, va_takeN, va_app, va_apB, va_ap0, vsadd, Nat.reduceEqDiff, va_sOk, va_sOkN, va_sOk1, va_slLo, va_slHi, va_slBoth, va_slLoC, va_slHiC, va_slBothC, va_nilHi, va_nilLo, va_nilNone, *]
    | refine condK_cases (fun h => ?_) (fun h => ?_)
    | refine guardK_cases (fun h => ?_) (fun h => ?_)
    | refine dgK_cases (fun h => ?_) (fun h => ?_)
    | refine hwp_draw mixed rfl ?_

  all_goals
    refine congrArg (HV.int _) ?_
    simp_all [greatI]
theorem field43 {hs : HS} {bv : HV} {n : Nat} (h1 : bv.one = true) (h2 : bv.cells = [bv]) (hl : ∀ g, hlenK g .slice bv = some (.int .i64 (n : Nat))) (k id num : Int) (t : List UInt8) (c : UInt8) :
    HC Tryd.prog 43 [.agg [.int .i64 k, .int .i64 id, .int .i64 num, .str t, bv], .int .u8 c.toNat] hs fun v hs' => v = .int .i64 (if c = 73 then id else if c = 78 then num else (n : Nat)) ∧ hs' = hs := by
  have e1 : (((c.toNat : Nat) : Int) = 73) = (c = 73) := propext ⟨fun h => UInt8.toNat_inj.1 (by have : (73 : UInt8).toNat = 73 := rfl; omega), fun h => by rw [h]; rfl⟩
  have e2 : (((c.toNat : Nat) : Int) = 78) = (c = 78) := propext ⟨fun h => UInt8.toNat_inj.1 (by have : (78 : UInt8).toNat = 78 := rfl; omega), fun h => by rw [h]; rfl⟩
  refine HC.drop (Q := fun v => v = .int .i64 (if c = 73 then id else if c = 78 then num else (n : Nat))) ?_
  have hbo : hbox hs (.agg [.int .i64 k, .int .i64 id, .int .i64 num, .str t, bv]) = some (.ptr hs.length 0, hs ++ [some (.cells 1 [.int .i64 k, .int .i64 id, .int .i64 num, .str t, bv] false false [])]) := va_boxA (by simp only [List.all_cons, List.all_nil, h1]; rfl)
  refine HC.wp mixed Tryd.func43 c43 ?_
  simp -implicitDefEqProofs (disch := first | omega | decide | exact rfl | exact Nat.le_of_ble_eq_true rfl | assumption | (simp only [List.length_append, List.length_cons, List.length_nil, List.drop_zero, List.length_drop] <;> omega)) only [vwp_skip, vwp_ret, vwp_exit, vwp_lab, vwp_seq, vwp_cond, vwp_block, vwp_scope, vwp_region, vwp_draw, vwp_loop, vwp_range, vcnd_tt, vcnd_ff, vthen_normal, vthen_ret, vthen_exit, vblock_normal, vblock_ret, vblock_exit, vreg_nil, vreg_cons, vhl_nil, vhl_op, vhl_guard, vguard_tt, vguard_ff, vguard_tf, vguard_ft, vguard_no, vact_op, vop_some, vput_some, vput_none, vsame_sm, vunit_sm, vget_nil, vget_cons, vget_some,
    vo_mv, vo_bin, vo_un, vo_ext, vo_len, vo_idxS, vo_idxStr, vo_load, vo_pick, vo_append, vo_bslice, evp, vo_nilc, vo_faddr, vo_store, vo_sliceSl, vo_sliceStr, vo_cInt, vo_copy, vo_mkSlice, vo_box, vo_build, vo_b2s, vb2s_sl, vb2s_nil, vcInt, vnil_ptr, vo_mkMap, vo_mkfn, vo_lookup, vo_mapUpd, vo_del, vdel_some, vo_rangeMap, vo_entry, vfaddr_ptr, beq_self_eq_true, eq_self, decide_true, decide_false, vb_lss, vb_leq, vb_gtr, vb_geq, vb_eql, vb_neq, vb_seql, vb_sneq, vb_beql, vb_bneq, vun_not, vlen_str, vlen_sl, vlen_nil, vext_tup, HX.ev, List.length_cons, List.length_nil, List.append_nil, List.nil_append, List.cons_append, List.set_cons_succ, List.set_cons_zero, List.getElem?_cons_succ, List.getElem?_cons_zero, Option.getD_some, Option.map_some, Option.map_none, List.map_cons, List.map_nil, if_true, Bool.not_true, Bool.not_false, Bool.false_eq_true, if_false, va_load, va_ld, va_loadA, va_ldA, va_store, va_st1, va_stn, va_kill0, va_killS, va_box1, va_boxA, get_base, get_base0, set_base, set_base0, List.length_append, Nat.reduceAdd, Nat.zero_add, List.append_assoc, vo_s2b, vo_minmax, va_min2, va_max2, va_minl, List.drop_zero, List.drop_succ_cons, List.take_succ_cons, List.take_zero, vdr_nil, vdr_cons, vdr_op, vdr_some, vdr_loud, vdr_lsome, HOp.looks, vholds_cons, vholds_nil, implies_true, true_and, and_true, vres_tmp, vres_tmp2, vres_none, vres_cell1, vres_k, vres_cell2, vres_k2, vend_ret, vend_normal, vex_some, vdr_guard, vdg_tt, vdg_ff, vdg_tf, vdg_ft, vdg_no, vo_pick, va_s2b, va_takeS, va_takeN, va_app, va_apB, va_ap0, vsadd, Nat.reduceEqDiff, va_sOk, va_sOkN, va_sOk1, va_slLo, va_slHi, va_slBoth, va_slLoC, va_slHiC, va_slBothC, va_nilHi, va_nilLo, va_nilNone, h43, hbo, frame0, List.replicate, Nat.sub]
  clear hbo
  repeat' first
    | simp -implicitDefEqProofs (disch := first | omega | decide | exact rfl | exact Nat.le_of_ble_eq_true rfl | assumption | (simp only [List.length_append, List.length_cons, List.length_nil, List.drop_zero, List.length_drop] <;> omega)) only [vwp_skip, vwp_ret, vwp_exit, vwp_lab, vwp_seq, vwp_cond, vwp_block, vwp_scope, vwp_region, vwp_draw, vwp_loop, vwp_range, vcnd_tt, vcnd_ff, vthen_normal, vthen_ret, vthen_exit, vblock_normal, vblock_ret, vblock_exit, vreg_nil, vreg_cons, vhl_nil, vhl_op, vhl_guard, vguard_tt, vguard_ff, vguard_tf, vguard_ft, vguard_no, vact_op, vop_some, vput_some, vput_none, vsame_sm, vunit_sm, vget_nil, vget_cons, vget_some,
    vo_mv, vo_bin, vo_un, vo_ext, vo_len, vo_idxS, vo_idxStr, vo_load, vo_pick, vo_append, vo_bslice, evp, vo_nilc, vo_faddr, vo_store, vo_sliceSl, vo_sliceStr, vo_cInt, vo_copy, vo_mkSlice, vo_box, vo_build, vo_b2s, vb2s_sl, vb2s_nil, vcInt, vnil_ptr, vo_mkMap, vo_mkfn, vo_lookup, vo_mapUpd, vo_del, vdel_some, vo_rangeMap, vo_entry, vfaddr_ptr, beq_self_eq_true, eq_self, decide_true, decide_false, vb_lss, vb_leq, vb_gtr, vb_geq, vb_eql, vb_neq, vb_seql, vb_sneq, vb_beql, vb_bneq, vun_not, vlen_str, vlen_sl, vlen_nil, vext_tup, HX.ev, List.length_cons, List.length_nil, List.append_nil, List.nil_append, List.cons_append, List.set_cons_succ, List.set_cons_zero, List.getElem?_cons_succ, List.getElem?_cons_zero, Option.getD_some, Option.map_some, Option.map_none, List.map_cons, List.map_nil, if_true, Bool.not_true, Bool.not_false, Bool.false_eq_true, if_false, va_load, va_ld, va_loadA, va_ldA, va_store, va_st1, va_stn, va_kill0, va_killS, va_box1, va_boxA, get_base, get_base0, set_base, set_base0, List.length_append, Nat.reduceAdd, Nat.zero_add, List.append_assoc, vo_s2b, vo_minmax, va_min2, va_max2, va_minl, List.drop_zero, List.drop_succ_cons, List.take_succ_cons, List.take_zero, vdr_nil, vdr_cons, vdr_op, vdr_some, vdr_loud, vdr_lsome, HOp.looks, vholds_cons, vholds_nil, implies_true, true_and, and_true, vres_tmp, vres_tmp2, vres_none, vres_cell1, vres_k, vres_cell2, vres_k2, vend_ret, vend_normal, vex_some, vdr_guard, vdg_tt, vdg_ff, vdg_tf, vdg_ft, vdg_no, vo_pick, va_s2b, va_takeS, va_takeN, va_app, va_apB, va_ap0, vsadd, Nat.reduceEqDiff, va_sOk, va_sOkN, va_sOk1, va_slLo, va_slHi, va_slBoth, va_slLoC, va_slHiC, va_slBothC, va_nilHi, va_nilLo, va_nilNone, *]
    | refine condK_cases (fun h => ?_) (fun h => ?_)
    | refine guardK_cases (fun h => ?_) (fun h => ?_)
    | refine dgK_cases (fun h => ?_) (fun h => ?_)
    | refine hwp_draw mixed rfl ?_

  all_goals
    refine ⟨⟨_, rfl⟩, rfl, congrArg (HV.int _) ?_⟩
    simp_all
end K
end Go.Proofs.YthihchoccpnfeaaDoor
namespace Go.Proofs.YthihchoccpnfeaaDoor
open Go Go.HL Go.Shelf V
namespace K
open A
set_option maxRecDepth 100000
set_option maxHeartbeats 40000000
set_option linter.unusedSimpArgs false
theorem cI (k : Int) : (fldL k).contains 73 = decide (k = 3 ∨ k = 12 ∨ k = 1) := by
  unfold fldL
  repeat' split
  all_goals (try simp_all)
  all_goals (try omega)
theorem cN (k : Int) : (fldL k).contains 78 = decide (k = 10 ∨ k = 13) := by
  unfold fldL
  repeat' split
  all_goals (try simp_all)
  all_goals (try omega)
theorem cT (k : Int) : (fldL k).contains 84 = decide (k = 2) := by
  unfold fldL
  repeat' split
  all_goals (try simp_all)
  all_goals (try omega)
theorem cB (k : Int) : (fldL k).contains 66 = decide (k = 3 ∨ k = 12 ∨ k = 16) := by
  unfold fldL
  repeat' split
  all_goals (try simp_all)
  all_goals (try omega)
theorem i0 : hindexStr (.str [73, 78, 66]) (.int .i64 0) = some (.int .u8 73) := rfl
theorem i1 : hindexStr (.str [73, 78, 66]) (.int .i64 1) = some (.int .u8 78) := rfl
theorem i2 : hindexStr (.str [73, 78, 66]) (.int .i64 2) = some (.int .u8 66) := rfl
theorem a0 : hbin .add none (.int .i64 0) (.int .i64 1) = some (.int .i64 1) := rfl
theorem a1 : hbin .add none (.int .i64 1) (.int .i64 1) = some (.int .i64 2) := rfl
theorem a2 : hbin .add none (.int .i64 2) (.int .i64 1) = some (.int .i64 3) := rfl
theorem l0 : decide ((0 : Int) < ((3 : Nat) : Int)) = true := rfl
theorem l1 : decide ((1 : Int) < ((3 : Nat) : Int)) = true := rfl
theorem l2 : decide ((2 : Int) < ((3 : Nat) : Int)) = true := rfl
theorem l3 : decide ((3 : Int) < ((3 : Nat) : Int)) = false := rfl

theorem check39 {hs : HS} {bv : HV} {n : Nat} (h1 : bv.one = true) (h2 : bv.cells = [bv]) (hl : ∀ g, hlenK g .slice bv = some (.int .i64 (n : Nat))) (k id num : Int) (t : List UInt8) :
    HC Tryd.prog 39 [.agg [.int .i64 k, .int .i64 id, .int .i64 num, .str t, bv]] hs fun v hs' => v = .int .i64 (checkF k id num t n) ∧ hs' = hs := by
  have hI : ∀ L, HC Tryd.prog 44 [.int .i64 k, .int .u8 73] L fun v hs' => v = .bool (decide (k = 3 ∨ k = 12 ∨ k = 1)) ∧ hs' = L := fun L => by
    have h := has44 k 73 L
    rw [cI] at h
    exact h
  have hN : ∀ L, HC Tryd.prog 44 [.int .i64 k, .int .u8 78] L fun v hs' => v = .bool (decide (k = 10 ∨ k = 13)) ∧ hs' = L := fun L => by
    have h := has44 k 78 L
    rw [cN] at h
    exact h
  have hT : ∀ L, HC Tryd.prog 44 [.int .i64 k, .int .u8 84] L fun v hs' => v = .bool (decide (k = 2)) ∧ hs' = L := fun L => by
    have h := has44 k 84 L
    rw [cT] at h
    exact h
  have hB : ∀ L, HC Tryd.prog 44 [.int .i64 k, .int .u8 66] L fun v hs' => v = .bool (decide (k = 3 ∨ k = 12 ∨ k = 16)) ∧ hs' = L := fun L => by
    have h := has44 k 66 L
    rw [cB] at h
    exact h
  have fI : ∀ L, HC Tryd.prog 43 [.agg [.int .i64 k, .int .i64 id, .int .i64 num, .str t, bv], .int .u8 73] L fun v hs' => v = .int .i64 id ∧ hs' = L := fun L => by
    have h := field43 (hs := L) h1 h2 hl k id num t 73
    rw [if_pos rfl] at h
    exact h
  have fN : ∀ L, HC Tryd.prog 43 [.agg [.int .i64 k, .int .i64 id, .int .i64 num, .str t, bv], .int .u8 78] L fun v hs' => v = .int .i64 num ∧ hs' = L := fun L => by
    have h := field43 (hs := L) h1 h2 hl k id num t 78
    rw [if_neg (by decide), if_pos rfl] at h
    exact h
  have fB : ∀ L, HC Tryd.prog 43 [.agg [.int .i64 k, .int .i64 id, .int .i64 num, .str t, bv], .int .u8 66] L fun v hs' => v = .int .i64 (n : Nat) ∧ hs' = L := fun L => by
    have h := field43 (hs := L) h1 h2 hl k id num t 66
    rw [if_neg (by decide), if_neg (by decide)] at h
    exact h
  have sI : ∀ L, HC Tryd.prog 54 [.int .u8 73] L fun v hs' => v = .int .i64 1 ∧ hs' = L := fun L => least54 73 L
  have sN : ∀ L, HC Tryd.prog 54 [.int .u8 78] L fun v hs' => v = .int .i64 0 ∧ hs' = L := fun L => least54 78 L
  have sB : ∀ L, HC Tryd.prog 54 [.int .u8 66] L fun v hs' => v = .int .i64 0 ∧ hs' = L := fun L => least54 66 L
  have mI : ∀ L, HC Tryd.prog 55 [.int .i64 k, .int .u8 73] L fun v hs' => v = .int .i64 1099511627776 ∧ hs' = L := fun L => most55 k 73 L
  have mN : ∀ L, HC Tryd.prog 55 [.int .i64 k, .int .u8 78] L fun v hs' => v = .int .i64 4294967295 ∧ hs' = L := fun L => most55 k 78 L
  have mB0 := fun L => most55 k 66 L
  have eB : greatI k 66 = mostI k := by unfold greatI mostI; by_cases h : k = 16 <;> simp [h]
  rw [eB] at mB0
  have mB : ∀ L, HC Tryd.prog 55 [.int .i64 k, .int .u8 66] L fun v hs' => v = .int .i64 (mostI k) ∧ hs' = L := mB0
  refine HC.drop (Q := fun v => v = .int .i64 (checkF k id num t n)) ?_
  have hbo : hbox hs (.agg [.int .i64 k, .int .i64 id, .int .i64 num, .str t, bv]) = some (.ptr hs.length 0, hs ++ [some (.cells 1 [.int .i64 k, .int .i64 id, .int .i64 num, .str t, bv] false false [])]) := va_boxA (by simp only [List.all_cons, List.all_nil, h1]; rfl)
  refine HC.wp mixed Tryd.func39 c39 ?_
  simp -implicitDefEqProofs (disch := first | omega | decide | exact rfl | exact Nat.le_of_ble_eq_true rfl | assumption | (simp only [List.length_append, List.length_cons, List.length_nil, List.drop_zero, List.length_drop] <;> omega)) only [vwp_skip, vwp_ret, vwp_exit, vwp_lab, vwp_seq, vwp_cond, vwp_block, vwp_scope, vwp_region, vwp_draw, vwp_loop, vwp_range, vcnd_tt, vcnd_ff, vthen_normal, vthen_ret, vthen_exit, vblock_normal, vblock_ret, vblock_exit, vreg_nil, vreg_cons, vhl_nil, vhl_op, vhl_guard, vguard_tt, vguard_ff, vguard_tf, vguard_ft, vguard_no, vact_op, vop_some, vput_some, vput_none, vsame_sm, vunit_sm, vget_nil, vget_cons, vget_some,
    vo_mv, vo_bin, vo_un, vo_ext, vo_len, vo_idxS, vo_idxStr, vo_load, vo_pick, vo_append, vo_bslice, evp, vo_nilc, vo_faddr, vo_store, vo_sliceSl, vo_sliceStr, vo_cInt, vo_copy, vo_mkSlice, vo_box, vo_build, vo_b2s, vb2s_sl, vb2s_nil, vcInt, vnil_ptr, vo_mkMap, vo_mkfn, vo_lookup, vo_mapUpd, vo_del, vdel_some, vo_rangeMap, vo_entry, vfaddr_ptr, beq_self_eq_true, eq_self, decide_true, decide_false, vb_lss, vb_leq, vb_gtr, vb_geq, vb_eql, vb_neq, vb_seql, vb_sneq, vb_beql, vb_bneq, vun_not, vlen_str, vlen_sl, vlen_nil, vext_tup, HX.ev, List.length_cons, List.length_nil, List.append_nil, List.nil_append, List.cons_append, List.set_cons_succ, List.set_cons_zero, List.getElem?_cons_succ, List.getElem?_cons_zero, Option.getD_some, Option.map_some, Option.map_none, List.map_cons, List.map_nil, if_true, Bool.not_true, Bool.not_false, Bool.false_eq_true, if_false, va_load, va_ld, va_loadA, va_ldA, va_store, va_st1, va_stn, va_kill0, va_killS, va_box1, va_boxA, get_base, get_base0, set_base, set_base0, List.length_append, Nat.reduceAdd, Nat.zero_add, List.append_assoc, vo_s2b, vo_minmax, va_min2, va_max2, va_minl, List.drop_zero, List.drop_succ_cons, List.take_succ_cons, List.take_zero, vdr_nil, vdr_cons, vdr_op, vdr_some, vdr_loud, vdr_lsome, HOp.looks, vholds_cons, vholds_nil, implies_true, true_and, and_true, vres_tmp, vres_tmp2, vres_none, vres_cell1, vres_k, vres_cell2, vres_k2, vend_ret, vend_normal, vex_some, vdr_guard, vdg_tt, vdg_ff, vdg_tf, vdg_ft, vdg_no, vo_pick, va_s2b, va_takeS, va_takeN, va_app, va_apB, va_ap0, vsadd, Nat.reduceEqDiff, va_sOk, va_sOkN, va_sOk1, va_slLo, va_slHi, va_slBoth, va_slLoC, va_slHiC, va_slBothC, va_nilHi, va_nilLo, va_nilNone, h39, hbo, frame0, List.replicate, Nat.sub]
  refine vcall_of ok40 rfl (word40 k _) ?_
  rintro _ _ ⟨rfl, rfl⟩
  clear hbo mB0 eB
  repeat' first
    | simp -implicitDefEqProofs (disch := first | omega | decide | exact rfl | exact Nat.le_of_ble_eq_true rfl | assumption | (simp only [List.length_append, List.length_cons, List.length_nil, List.drop_zero, List.length_drop] <;> omega)) only [vwp_skip, vwp_ret, vwp_exit, vwp_lab, vwp_seq, vwp_cond, vwp_block, vwp_scope, vwp_region, vwp_draw, vwp_loop, vwp_range, vcnd_tt, vcnd_ff, vthen_normal, vthen_ret, vthen_exit, vblock_normal, vblock_ret, vblock_exit, vreg_nil, vreg_cons, vhl_nil, vhl_op, vhl_guard, vguard_tt, vguard_ff, vguard_tf, vguard_ft, vguard_no, vact_op, vop_some, vput_some, vput_none, vsame_sm, vunit_sm, vget_nil, vget_cons, vget_some,
    vo_mv, vo_bin, vo_un, vo_ext, vo_len, vo_idxS, vo_idxStr, vo_load, vo_pick, vo_append, vo_bslice, evp, vo_nilc, vo_faddr, vo_store, vo_sliceSl, vo_sliceStr, vo_cInt, vo_copy, vo_mkSlice, vo_box, vo_build, vo_b2s, vb2s_sl, vb2s_nil, vcInt, vnil_ptr, vo_mkMap, vo_mkfn, vo_lookup, vo_mapUpd, vo_del, vdel_some, vo_rangeMap, vo_entry, vfaddr_ptr, beq_self_eq_true, eq_self, decide_true, decide_false, vb_lss, vb_leq, vb_gtr, vb_geq, vb_eql, vb_neq, vb_seql, vb_sneq, vb_beql, vb_bneq, vun_not, vlen_str, vlen_sl, vlen_nil, vext_tup, HX.ev, List.length_cons, List.length_nil, List.append_nil, List.nil_append, List.cons_append, List.set_cons_succ, List.set_cons_zero, List.getElem?_cons_succ, List.getElem?_cons_zero, Option.getD_some, Option.map_some, Option.map_none, List.map_cons, List.map_nil, if_true, Bool.not_true, Bool.not_false, Bool.false_eq_true, if_false, va_load, va_ld, va_loadA, va_ldA, va_store, va_st1, va_stn, va_kill0, va_killS, va_box1, va_boxA, get_base, get_base0, set_base, set_base0, List.length_append, Nat.reduceAdd, Nat.zero_add, List.append_assoc, vo_s2b, vo_minmax, va_min2, va_max2, va_minl, List.drop_zero, List.drop_succ_cons, List.take_succ_cons, List.take_zero, vdr_nil, vdr_cons, vdr_op, vdr_some, vdr_loud, vdr_lsome, HOp.looks, vholds_cons, vholds_nil, implies_true, true_and, and_true, vres_tmp, vres_tmp2, vres_none, vres_cell1, vres_k, vres_cell2, vres_k2, vend_ret, vend_normal, vex_some, vdr_guard, vdg_tt, vdg_ff, vdg_tf, vdg_ft, vdg_no, vo_pick, va_s2b, va_takeS, va_takeN, va_app, va_apB, va_ap0, vsadd, Nat.reduceEqDiff, va_sOk, va_sOkN, va_sOk1, va_slLo, va_slHi, va_slBoth, va_slLoC, va_slHiC, va_slBothC, va_nilHi, va_nilLo, va_nilNone, lr_succ, i0, i1, i2, a0, a1, a2, l0, l1, l2, l3, *]
    | refine condK_cases (fun h => ?_) (fun h => ?_)
    | refine guardK_cases (fun h => ?_) (fun h => ?_)
    | refine dgK_cases (fun h => ?_) (fun h => ?_)
    | (refine vcall_of ok44 rfl (hI _) ?_; rintro _ _ ⟨rfl, rfl⟩)
    | (refine vdr_call ok44 rfl (hI _) ?_; rintro _ _ ⟨rfl, rfl⟩)
    | (refine vcall_of ok44 rfl (hN _) ?_; rintro _ _ ⟨rfl, rfl⟩)
    | (refine vdr_call ok44 rfl (hN _) ?_; rintro _ _ ⟨rfl, rfl⟩)
    | (refine vcall_of ok44 rfl (hT _) ?_; rintro _ _ ⟨rfl, rfl⟩)
    | (refine vdr_call ok44 rfl (hT _) ?_; rintro _ _ ⟨rfl, rfl⟩)
    | (refine vcall_of ok44 rfl (hB _) ?_; rintro _ _ ⟨rfl, rfl⟩)
    | (refine vdr_call ok44 rfl (hB _) ?_; rintro _ _ ⟨rfl, rfl⟩)
    | (refine vcall_of ok43 rfl (fI _) ?_; rintro _ _ ⟨rfl, rfl⟩)
    | (refine vdr_call ok43 rfl (fI _) ?_; rintro _ _ ⟨rfl, rfl⟩)
    | (refine vcall_of ok43 rfl (fN _) ?_; rintro _ _ ⟨rfl, rfl⟩)
    | (refine vdr_call ok43 rfl (fN _) ?_; rintro _ _ ⟨rfl, rfl⟩)
    | (refine vcall_of ok43 rfl (fB _) ?_; rintro _ _ ⟨rfl, rfl⟩)
    | (refine vdr_call ok43 rfl (fB _) ?_; rintro _ _ ⟨rfl, rfl⟩)
    | (refine vcall_of ok54 rfl (sI _) ?_; rintro _ _ ⟨rfl, rfl⟩)
    | (refine vdr_call ok54 rfl (sI _) ?_; rintro _ _ ⟨rfl, rfl⟩)
    | (refine vcall_of ok54 rfl (sN _) ?_; rintro _ _ ⟨rfl, rfl⟩)
    | (refine vdr_call ok54 rfl (sN _) ?_; rintro _ _ ⟨rfl, rfl⟩)
    | (refine vcall_of ok54 rfl (sB _) ?_; rintro _ _ ⟨rfl, rfl⟩)
    | (refine vdr_call ok54 rfl (sB _) ?_; rintro _ _ ⟨rfl, rfl⟩)
    | (refine vcall_of ok55 rfl (mI _) ?_; rintro _ _ ⟨rfl, rfl⟩)
    | (refine vdr_call ok55 rfl (mI _) ?_; rintro _ _ ⟨rfl, rfl⟩)
    | (refine vcall_of ok55 rfl (mN _) ?_; rintro _ _ ⟨rfl, rfl⟩)
    | (refine vdr_call ok55 rfl (mN _) ?_; rintro _ _ ⟨rfl, rfl⟩)
    | (refine vcall_of ok55 rfl (mB _) ?_; rintro _ _ ⟨rfl, rfl⟩)
    | (refine vdr_call ok55 rfl (mB _) ?_; rintro _ _ ⟨rfl, rfl⟩)
    | (refine vcall_of ok56 rfl (W.ref56 _ _) ?_; rintro _ _ ⟨rfl, rfl⟩)
    | (refine vdr_call ok56 rfl (W.ref56 _ _) ?_; rintro _ _ ⟨rfl, rfl⟩)
    | refine hwp_draw mixed rfl ?_
    | refine HW.rounds mixed 4 ?_

  all_goals
    refine ⟨⟨_, rfl⟩, rfl, congrArg _ ?_⟩
    clear hI hN hT hB fI fN fB sI sN sB mI mN mB
    simp_all [checkF, idB, numB, tubeB, bodyB]
    try (intros; omega)
end K
end Go.Proofs.YthihchoccpnfeaaDoor
namespace Go.Proofs.YthihchoccpnfeaaDoor
open Go Go.HL Go.Shelf V
namespace K
open A
set_option maxRecDepth 100000
set_option maxHeartbeats 40000000
set_option linter.unusedSimpArgs false
theorem pr_ne {n : Int} (h : 0 ≤ n) : (ansPr n).length ≠ 0 := by
  unfold ansPr
  rw [if_neg (by omega), Lib.decDigits]
  split <;> simp
theorem tkB {y : List UInt8} {n : Nat} {ro opn : Bool} {olds : List Nat} (h : n = y.length) : takeK 1 0 n (some (some (.cells 1 (bcells y) ro opn olds))) = some (n, bcells y) := by
  have hl := bcells_length y
  unfold takeK
  simp only
  rw [if_pos ⟨trivial, by omega⟩, Nat.zero_mul, List.drop_zero, List.take_of_length_le (by omega)]
theorem bs1 (g : HS) : hbuildSlice g 1 1 [.int .u8 0] [(0, 1, .int .u8 32)] = some (.slice g.length 0 1 (some 1), g ++ [some (.cells 1 (bcells [32]) false false [])]) := rfl
theorem bs2 (g : HS) : hbuildSlice g 1 2 [.int .u8 0, .int .u8 0] [(0, 1, .int .u8 13), (1, 1, .int .u8 10)] = some (.slice g.length 0 2 (some 2), g ++ [some (.cells 1 (bcells [13, 10]) false false [])]) := rfl
theorem x1 {c : UInt8} {l : List UInt8} : hindexStr (.str (c :: l)) (.int .i64 0) = some (.int .u8 c.toNat) := rfl
theorem x2 {c d : UInt8} {l : List UInt8} : hindexStr (.str (c :: d :: l)) (.int .i64 1) = some (.int .u8 d.toNat) := rfl
theorem m00 : decide ((0 : Int) < ((0 : Nat) : Int)) = false := rfl
theorem m01 : decide ((0 : Int) < ((1 : Nat) : Int)) = true := rfl
theorem m11 : decide ((1 : Int) < ((1 : Nat) : Int)) = false := rfl
theorem m02 : decide ((0 : Int) < ((2 : Nat) : Int)) = true := rfl
theorem m12 : decide ((1 : Int) < ((2 : Nat) : Int)) = true := rfl
theorem m22 : decide ((2 : Int) < ((2 : Nat) : Int)) = false := rfl
theorem d1 : decide (((UInt8.toNat 73 : Nat) : Int) = 84) = false := rfl
theorem d2 : decide (((UInt8.toNat 78 : Nat) : Int) = 84) = false := rfl
theorem d3 : decide (((UInt8.toNat 66 : Nat) : Int) = 84) = false := rfl
theorem d4 : decide (((UInt8.toNat 84 : Nat) : Int) = 84) = true := rfl

theorem put13 {hs : HS} {bv : HV} {b : List UInt8} (h1 : bv.one = true) (h2 : bv.cells = [bv]) (hl : ∀ g, hlenK g .slice bv = some (.int .i64 (b.length : Nat))) (hb : ∀ L, takeCells (hs ++ L) 1 bv = some (b.length, bcells b))
    (k id num : Int) (hid : -9223372036854775808 ≤ id ∧ id ≤ 9223372036854775807) (hnum : -9223372036854775808 ≤ num ∧ num ≤ 9223372036854775807) (t : List UInt8) (htl : t.length ≤ 140737488351232) :
    HC Tryd.prog 13 [.agg [.int .i64 k, .int .i64 id, .int .i64 num, .str t, bv]] hs fun v hs' => if checkF k id num t b.length = 0 then v = .tup [.slice hs.length 0 (putF k id num t b).length none, .int .i64 0] ∧ hs' = hs ++ [some (.cells 1 (bcells (putF k id num t b)) false true [])] else v = .tup [.nilSlice, .int .i64 (checkF k id num t b.length)] ∧ hs' = hs := by
  refine HC.tail ?_
  have hbo : hbox hs (.agg [.int .i64 k, .int .i64 id, .int .i64 num, .str t, bv]) = some (.ptr hs.length 0, hs ++ [some (.cells 1 [.int .i64 k, .int .i64 id, .int .i64 num, .str t, bv] false false [])]) := va_boxA (by simp only [List.all_cons, List.all_nil, h1]; rfl)
  refine HC.wp mixed Tryd.func13 c13 ?_
  simp -implicitDefEqProofs (disch := first | omega | decide | exact rfl | exact Nat.le_of_ble_eq_true rfl | assumption | (simp only [List.length_append, List.length_cons, List.length_nil, List.drop_zero, List.length_drop] <;> omega)) only [vwp_skip, vwp_ret, vwp_exit, vwp_lab, vwp_seq, vwp_cond, vwp_block, vwp_scope, vwp_region, vwp_draw, vwp_loop, vwp_range, vcnd_tt, vcnd_ff, vthen_normal, vthen_ret, vthen_exit, vblock_normal, vblock_ret, vblock_exit, vreg_nil, vreg_cons, vhl_nil, vhl_op, vhl_guard, vguard_tt, vguard_ff, vguard_tf, vguard_ft, vguard_no, vact_op, vop_some, vput_some, vput_none, vsame_sm, vunit_sm, vget_nil, vget_cons, vget_some,
    vo_mv, vo_bin, vo_un, vo_ext, vo_len, vo_idxS, vo_idxStr, vo_load, vo_pick, vo_append, vo_bslice, evp, vo_nilc, vo_faddr, vo_store, vo_sliceSl, vo_sliceStr, vo_cInt, vo_copy, vo_mkSlice, vo_box, vo_build, vo_b2s, vb2s_sl, vb2s_nil, vcInt, vnil_ptr, vo_mkMap, vo_mkfn, vo_lookup, vo_mapUpd, vo_del, vdel_some, vo_rangeMap, vo_entry, vfaddr_ptr, beq_self_eq_true, eq_self, decide_true, decide_false, vb_lss, vb_leq, vb_gtr, vb_geq, vb_eql, vb_neq, vb_seql, vb_sneq, vb_beql, vb_bneq, vun_not, vlen_str, vlen_sl, vlen_nil, vext_tup, HX.ev, List.length_cons, List.length_nil, List.append_nil, List.nil_append, List.cons_append, List.set_cons_succ, List.set_cons_zero, List.getElem?_cons_succ, List.getElem?_cons_zero, Option.getD_some, Option.map_some, Option.map_none, List.map_cons, List.map_nil, if_true, Bool.not_true, Bool.not_false, Bool.false_eq_true, if_false, va_load, va_ld, va_loadA, va_ldA, va_store, va_st1, va_stn, va_kill0, va_killS, va_box1, va_boxA, get_base, get_base0, set_base, set_base0, List.length_append, Nat.reduceAdd, Nat.zero_add, List.append_assoc, vo_s2b, vo_minmax, va_min2, va_max2, va_minl, List.drop_zero, List.drop_succ_cons, List.take_succ_cons, List.take_zero, vdr_nil, vdr_cons, vdr_op, vdr_some, vdr_loud, vdr_lsome, HOp.looks, vholds_cons, vholds_nil, implies_true, true_and, and_true, vres_tmp, vres_tmp2, vres_none, vres_cell1, vres_k, vres_cell2, vres_k2, vend_ret, vend_normal, vex_some, vdr_guard, vdg_tt, vdg_ff, vdg_tf, vdg_ft, vdg_no, vo_pick, va_s2b, va_takeS, va_takeN, va_app, va_apB, va_ap0, vsadd, Nat.reduceEqDiff, va_sOk, va_sOkN, va_sOk1, va_slLo, va_slHi, va_slBoth, va_slLoC, va_slHiC, va_slBothC, va_nilHi, va_nilLo, va_nilNone, h13, hbo, frame0, List.replicate, Nat.sub]
  refine vcall_of ok39 rfl (check39 h1 h2 hl k id num t) ?_
  rintro _ _ ⟨rfl, rfl⟩
  clear hbo
  obtain ⟨c, hc⟩ : ∃ c, c = checkF k id num t b.length := ⟨_, rfl⟩
  rw [← hc]
  obtain ⟨bc, hbc⟩ := exB (decide (c = 0))
  simp -implicitDefEqProofs (disch := first | omega | decide | exact rfl | exact Nat.le_of_ble_eq_true rfl | assumption | (simp only [List.length_append, List.length_cons, List.length_nil, List.drop_zero, List.length_drop] <;> omega)) only [vwp_skip, vwp_ret, vwp_exit, vwp_lab, vwp_seq, vwp_cond, vwp_block, vwp_scope, vwp_region, vwp_draw, vwp_loop, vwp_range, vcnd_tt, vcnd_ff, vthen_normal, vthen_ret, vthen_exit, vblock_normal, vblock_ret, vblock_exit, vreg_nil, vreg_cons, vhl_nil, vhl_op, vhl_guard, vguard_tt, vguard_ff, vguard_tf, vguard_ft, vguard_no, vact_op, vop_some, vput_some, vput_none, vsame_sm, vunit_sm, vget_nil, vget_cons, vget_some,
    vo_mv, vo_bin, vo_un, vo_ext, vo_len, vo_idxS, vo_idxStr, vo_load, vo_pick, vo_append, vo_bslice, evp, vo_nilc, vo_faddr, vo_store, vo_sliceSl, vo_sliceStr, vo_cInt, vo_copy, vo_mkSlice, vo_box, vo_build, vo_b2s, vb2s_sl, vb2s_nil, vcInt, vnil_ptr, vo_mkMap, vo_mkfn, vo_lookup, vo_mapUpd, vo_del, vdel_some, vo_rangeMap, vo_entry, vfaddr_ptr, beq_self_eq_true, eq_self, decide_true, decide_false, vb_lss, vb_leq, vb_gtr, vb_geq, vb_eql, vb_neq, vb_seql, vb_sneq, vb_beql, vb_bneq, vun_not, vlen_str, vlen_sl, vlen_nil, vext_tup, HX.ev, List.length_cons, List.length_nil, List.append_nil, List.nil_append, List.cons_append, List.set_cons_succ, List.set_cons_zero, List.getElem?_cons_succ, List.getElem?_cons_zero, Option.getD_some, Option.map_some, Option.map_none, List.map_cons, List.map_nil, if_true, Bool.not_true, Bool.not_false, Bool.false_eq_true, if_false, va_load, va_ld, va_loadA, va_ldA, va_store, va_st1, va_stn, va_kill0, va_killS, va_box1, va_boxA, get_base, get_base0, set_base, set_base0, List.length_append, Nat.reduceAdd, Nat.zero_add, List.append_assoc, vo_s2b, vo_minmax, va_min2, va_max2, va_minl, List.drop_zero, List.drop_succ_cons, List.take_succ_cons, List.take_zero, vdr_nil, vdr_cons, vdr_op, vdr_some, vdr_loud, vdr_lsome, HOp.looks, vholds_cons, vholds_nil, implies_true, true_and, and_true, vres_tmp, vres_tmp2, vres_none, vres_cell1, vres_k, vres_cell2, vres_k2, vend_ret, vend_normal, vex_some, vdr_guard, vdg_tt, vdg_ff, vdg_tf, vdg_ft, vdg_no, vo_pick, va_s2b, va_takeS, va_takeN, va_app, va_apB, va_ap0, vsadd, Nat.reduceEqDiff, va_sOk, va_sOkN, va_sOk1, va_slLo, va_slHi, va_slBoth, va_slLoC, va_slHiC, va_slBothC, va_nilHi, va_nilLo, va_nilNone, hbc]
  cases bc
  case false =>
    have hc0 : ¬ c = 0 := of_decide_eq_false hbc
    simp -implicitDefEqProofs (disch := first | omega | decide | exact rfl | exact Nat.le_of_ble_eq_true rfl | assumption | (simp only [List.length_append, List.length_cons, List.length_nil, List.drop_zero, List.length_drop] <;> omega)) only [vwp_skip, vwp_ret, vwp_exit, vwp_lab, vwp_seq, vwp_cond, vwp_block, vwp_scope, vwp_region, vwp_draw, vwp_loop, vwp_range, vcnd_tt, vcnd_ff, vthen_normal, vthen_ret, vthen_exit, vblock_normal, vblock_ret, vblock_exit, vreg_nil, vreg_cons, vhl_nil, vhl_op, vhl_guard, vguard_tt, vguard_ff, vguard_tf, vguard_ft, vguard_no, vact_op, vop_some, vput_some, vput_none, vsame_sm, vunit_sm, vget_nil, vget_cons, vget_some,
    vo_mv, vo_bin, vo_un, vo_ext, vo_len, vo_idxS, vo_idxStr, vo_load, vo_pick, vo_append, vo_bslice, evp, vo_nilc, vo_faddr, vo_store, vo_sliceSl, vo_sliceStr, vo_cInt, vo_copy, vo_mkSlice, vo_box, vo_build, vo_b2s, vb2s_sl, vb2s_nil, vcInt, vnil_ptr, vo_mkMap, vo_mkfn, vo_lookup, vo_mapUpd, vo_del, vdel_some, vo_rangeMap, vo_entry, vfaddr_ptr, beq_self_eq_true, eq_self, decide_true, decide_false, vb_lss, vb_leq, vb_gtr, vb_geq, vb_eql, vb_neq, vb_seql, vb_sneq, vb_beql, vb_bneq, vun_not, vlen_str, vlen_sl, vlen_nil, vext_tup, HX.ev, List.length_cons, List.length_nil, List.append_nil, List.nil_append, List.cons_append, List.set_cons_succ, List.set_cons_zero, List.getElem?_cons_succ, List.getElem?_cons_zero, Option.getD_some, Option.map_some, Option.map_none, List.map_cons, List.map_nil, if_true, Bool.not_true, Bool.not_false, Bool.false_eq_true, if_false, va_load, va_ld, va_loadA, va_ldA, va_store, va_st1, va_stn, va_kill0, va_killS, va_box1, va_boxA, get_base, get_base0, set_base, set_base0, List.length_append, Nat.reduceAdd, Nat.zero_add, List.append_assoc, vo_s2b, vo_minmax, va_min2, va_max2, va_minl, List.drop_zero, List.drop_succ_cons, List.take_succ_cons, List.take_zero, vdr_nil, vdr_cons, vdr_op, vdr_some, vdr_loud, vdr_lsome, HOp.looks, vholds_cons, vholds_nil, implies_true, true_and, and_true, vres_tmp, vres_tmp2, vres_none, vres_cell1, vres_k, vres_cell2, vres_k2, vend_ret, vend_normal, vex_some, vdr_guard, vdg_tt, vdg_ff, vdg_tf, vdg_ft, vdg_no, vo_pick, va_s2b, va_takeS, va_takeN, va_app, va_apB, va_ap0, vsadd, Nat.reduceEqDiff, va_sOk, va_sOkN, va_sOk1, va_slLo, va_slHi, va_slBoth, va_slLoC, va_slHiC, va_slBothC, va_nilHi, va_nilLo, va_nilNone]
    refine ⟨_, [], rfl, rfl, ?_⟩
    rw [if_neg hc0]
    exact ⟨rfl, by simp [HL.pickT]⟩
  have hc0 : c = 0 := of_decide_eq_true hbc
  rw [hc0]
  simp -implicitDefEqProofs (disch := first | omega | decide | exact rfl | exact Nat.le_of_ble_eq_true rfl | assumption | (simp only [List.length_append, List.length_cons, List.length_nil, List.drop_zero, List.length_drop] <;> omega)) only [vwp_skip, vwp_ret, vwp_exit, vwp_lab, vwp_seq, vwp_cond, vwp_block, vwp_scope, vwp_region, vwp_draw, vwp_loop, vwp_range, vcnd_tt, vcnd_ff, vthen_normal, vthen_ret, vthen_exit, vblock_normal, vblock_ret, vblock_exit, vreg_nil, vreg_cons, vhl_nil, vhl_op, vhl_guard, vguard_tt, vguard_ff, vguard_tf, vguard_ft, vguard_no, vact_op, vop_some, vput_some, vput_none, vsame_sm, vunit_sm, vget_nil, vget_cons, vget_some,
    vo_mv, vo_bin, vo_un, vo_ext, vo_len, vo_idxS, vo_idxStr, vo_load, vo_pick, vo_append, vo_bslice, evp, vo_nilc, vo_faddr, vo_store, vo_sliceSl, vo_sliceStr, vo_cInt, vo_copy, vo_mkSlice, vo_box, vo_build, vo_b2s, vb2s_sl, vb2s_nil, vcInt, vnil_ptr, vo_mkMap, vo_mkfn, vo_lookup, vo_mapUpd, vo_del, vdel_some, vo_rangeMap, vo_entry, vfaddr_ptr, beq_self_eq_true, eq_self, decide_true, decide_false, vb_lss, vb_leq, vb_gtr, vb_geq, vb_eql, vb_neq, vb_seql, vb_sneq, vb_beql, vb_bneq, vun_not, vlen_str, vlen_sl, vlen_nil, vext_tup, HX.ev, List.length_cons, List.length_nil, List.append_nil, List.nil_append, List.cons_append, List.set_cons_succ, List.set_cons_zero, List.getElem?_cons_succ, List.getElem?_cons_zero, Option.getD_some, Option.map_some, Option.map_none, List.map_cons, List.map_nil, if_true, Bool.not_true, Bool.not_false, Bool.false_eq_true, if_false, va_load, va_ld, va_loadA, va_ldA, va_store, va_st1, va_stn, va_kill0, va_killS, va_box1, va_boxA, get_base, get_base0, set_base, set_base0, List.length_append, Nat.reduceAdd, Nat.zero_add, List.append_assoc, vo_s2b, vo_minmax, va_min2, va_max2, va_minl, List.drop_zero, List.drop_succ_cons, List.take_succ_cons, List.take_zero, vdr_nil, vdr_cons, vdr_op, vdr_some, vdr_loud, vdr_lsome, HOp.looks, vholds_cons, vholds_nil, implies_true, true_and, and_true, vres_tmp, vres_tmp2, vres_none, vres_cell1, vres_k, vres_cell2, vres_k2, vend_ret, vend_normal, vex_some, vdr_guard, vdg_tt, vdg_ff, vdg_tf, vdg_ft, vdg_no, vo_pick, va_s2b, va_takeS, va_takeN, va_app, va_apB, va_ap0, vsadd, Nat.reduceEqDiff, va_sOk, va_sOkN, va_sOk1, va_slLo, va_slHi, va_slBoth, va_slLoC, va_slHiC, va_slBothC, va_nilHi, va_nilLo, va_nilNone]
  refine vcall_of ok40 rfl (word40 k _) ?_
  rintro _ _ ⟨rfl, rfl⟩
  rw [hc] at hc0
  have hok : wordL k ≠ [] ∧ idB k id = true ∧ numB k num = true ∧ tubeB k t = true ∧ bodyB k b.length = true := by
    unfold checkF at hc0
    split at hc0
    · simp at hc0
    · rename_i hw
      split at hc0
      · rename_i hh
        simp only [Bool.and_eq_true] at hh
        exact ⟨hw, hh.1.1.1, hh.1.1.2, hh.1.2, hh.2⟩
      · simp at hc0
  obtain ⟨q1, q2, q3, q4, q5⟩ := hok
  have wl := word_len k
  have il := pr_len hid.2
  have nl := pr_len hnum.2
  have bl2 := body_len q5
  have bl := pr_len (n := ((b.length : Nat) : Int)) (by omega)
  have w0 : (wordL k).length ≠ 0 := fun e => q1 (List.eq_nil_of_length_eq_zero e)
  have D : (k = 1 ∧ fldL k = [73] ∧ (fldL k).contains 66 = false ∧ (ansPr id).length ≠ 0) ∨ (k = 2 ∧ fldL k = [84] ∧ (fldL k).contains 66 = false ∧ t.length ≠ 0 ∧ t.length ≤ 200) ∨ (k = 3 ∧ fldL k = [73, 66] ∧ (fldL k).contains 66 = true ∧ (ansPr id).length ≠ 0 ∧ (ansPr ((b.length : Nat) : Int)).length ≠ 0) ∨ (k = 12 ∧ fldL k = [73, 66] ∧ (fldL k).contains 66 = true ∧ (ansPr id).length ≠ 0 ∧ (ansPr ((b.length : Nat) : Int)).length ≠ 0) ∨ (k = 10 ∧ fldL k = [78] ∧ (fldL k).contains 66 = false ∧ (ansPr num).length ≠ 0) ∨ (k = 13 ∧ fldL k = [78] ∧ (fldL k).contains 66 = false ∧ (ansPr num).length ≠ 0) ∨ (k = 16 ∧ fldL k = [66] ∧ (fldL k).contains 66 = true ∧ (ansPr ((b.length : Nat) : Int)).length ≠ 0) ∨ ((k ≠ 1 ∧ k ≠ 2 ∧ k ≠ 3 ∧ k ≠ 12 ∧ k ≠ 10 ∧ k ≠ 13 ∧ k ≠ 16) ∧ fldL k = [] ∧ (fldL k).contains 66 = false ∧ 0 = 0) := by
    have bp : (ansPr ((b.length : Nat) : Int)).length ≠ 0 := pr_ne (by omega)
    have tp : k = 2 → t.length ≠ 0 ∧ t.length ≤ 200 := fun hk => by
      subst hk
      have q : validL t = true := by simpa [tubeB] using q4
      refine ⟨fun e => ?_, valid_len q⟩
      unfold validL at q
      rw [e] at q
      simp at q
    by_cases k1 : k = 1
    · exact (.inl ⟨k1, by subst k1; rfl, by subst k1; rfl, pr_ne (by subst k1; simp [idB] at q2; omega)⟩)
    by_cases k2 : k = 2
    · exact .inr ((.inl ⟨k2, by subst k2; rfl, by subst k2; rfl, tp k2⟩))
    by_cases k3 : k = 3
    · exact .inr (.inr ((.inl ⟨k3, by subst k3; rfl, by subst k3; rfl, pr_ne (by subst k3; simp [idB] at q2; omega), bp⟩)))
    by_cases k12 : k = 12
    · exact .inr (.inr (.inr ((.inl ⟨k12, by subst k12; rfl, by subst k12; rfl, pr_ne (by subst k12; simp [idB] at q2; omega), bp⟩))))
    by_cases k10 : k = 10
    · exact .inr (.inr (.inr (.inr ((.inl ⟨k10, by subst k10; rfl, by subst k10; rfl, pr_ne (by subst k10; simp [numB] at q3; omega)⟩)))))
    by_cases k13 : k = 13
    · exact .inr (.inr (.inr (.inr (.inr ((.inl ⟨k13, by subst k13; rfl, by subst k13; rfl, pr_ne (by subst k13; simp [numB] at q3; omega)⟩))))))
    by_cases k16 : k = 16
    · exact .inr (.inr (.inr (.inr (.inr (.inr ((.inl ⟨k16, by subst k16; rfl, by subst k16; rfl, bp⟩)))))))
    exact .inr (.inr (.inr (.inr (.inr (.inr (.inr (⟨⟨k1, k2, k3, k12, k10, k13, k16⟩, by simp [fldL, k1, k2, k3, k12, k10, k13, k16], by simp [fldL, k1, k2, k3, k12, k10, k13, k16], rfl⟩)))))))
  have p1 := fun L => W.ref42 id hid.2 L
  have p2 := fun L => W.ref42 num hnum.2 L
  have p3 := fun L => W.ref42 ((b.length : Nat) : Int) (by omega) L
  have p4 := fun L => W.ref42 0 (by omega) L
  have zn : (ansPr 0).length ≠ 0 := pr_ne (by omega)
  have zl := pr_len (n := 0) (by omega)
  obtain ⟨bB, hbB⟩ : ∃ q, q = (fldL k).contains 66 := ⟨_, rfl⟩
  have hB : ∀ L, HC Tryd.prog 44 [.int .i64 k, .int .u8 66] L fun v hs' => v = .bool bB ∧ hs' = L := fun L => by
    rw [hbB]
    exact has44 k 66 L
  have fI : ∀ L, HC Tryd.prog 43 [.agg [.int .i64 k, .int .i64 id, .int .i64 num, .str t, bv], .int .u8 (UInt8.toNat 73)] L fun v hs' => v = .int .i64 id ∧ hs' = L := fun L => by
    have h := field43 (hs := L) h1 h2 hl k id num t 73
    rw [if_pos rfl] at h
    exact h
  have fN : ∀ L, HC Tryd.prog 43 [.agg [.int .i64 k, .int .i64 id, .int .i64 num, .str t, bv], .int .u8 (UInt8.toNat 78)] L fun v hs' => v = .int .i64 num ∧ hs' = L := fun L => by
    have h := field43 (hs := L) h1 h2 hl k id num t 78
    rw [if_neg (by decide), if_pos rfl] at h
    exact h
  have fB : ∀ L, HC Tryd.prog 43 [.agg [.int .i64 k, .int .i64 id, .int .i64 num, .str t, bv], .int .u8 (UInt8.toNat 66)] L fun v hs' => v = .int .i64 (b.length : Nat) ∧ hs' = L := fun L => by
    have h := field43 (hs := L) h1 h2 hl k id num t 66
    rw [if_neg (by decide), if_neg (by decide)] at h
    exact h
  have e39 := fun L => fields41 k L
  clear hbc hc q1 q2 q3 q4 q5
  have e0 : fldL k = fldL k := rfl
  rcases D with ⟨rfl, hf, hcB, hD⟩ | ⟨rfl, hf, hcB, hD⟩ | ⟨rfl, hf, hcB, hD⟩ | ⟨rfl, hf, hcB, hD⟩ | ⟨rfl, hf, hcB, hD⟩ | ⟨rfl, hf, hcB, hD⟩ | ⟨rfl, hf, hcB, hD⟩ | ⟨hk, hf, hcB, _⟩
  all_goals rw [hf] at e39
  all_goals rw [hcB] at hbB
  all_goals subst hbB
  all_goals by_cases hb0 : b.length = 0
  all_goals
    repeat' first
      | simp -implicitDefEqProofs (disch := first | omega | decide | exact rfl | exact Nat.le_of_ble_eq_true rfl | assumption | (simp only [List.length_append, List.length_cons, List.length_nil, List.drop_zero, List.length_drop] <;> omega)) only [vwp_skip, vwp_ret, vwp_exit, vwp_lab, vwp_seq, vwp_cond, vwp_block, vwp_scope, vwp_region, vwp_draw, vwp_loop, vwp_range, vcnd_tt, vcnd_ff, vthen_normal, vthen_ret, vthen_exit, vblock_normal, vblock_ret, vblock_exit, vreg_nil, vreg_cons, vhl_nil, vhl_op, vhl_guard, vguard_tt, vguard_ff, vguard_tf, vguard_ft, vguard_no, vact_op, vop_some, vput_some, vput_none, vsame_sm, vunit_sm, vget_nil, vget_cons, vget_some,
    vo_mv, vo_bin, vo_un, vo_ext, vo_len, vo_idxS, vo_idxStr, vo_load, vo_pick, vo_append, vo_bslice, evp, vo_nilc, vo_faddr, vo_store, vo_sliceSl, vo_sliceStr, vo_cInt, vo_copy, vo_mkSlice, vo_box, vo_build, vo_b2s, vb2s_sl, vb2s_nil, vcInt, vnil_ptr, vo_mkMap, vo_mkfn, vo_lookup, vo_mapUpd, vo_del, vdel_some, vo_rangeMap, vo_entry, vfaddr_ptr, beq_self_eq_true, eq_self, decide_true, decide_false, vb_lss, vb_leq, vb_gtr, vb_geq, vb_eql, vb_neq, vb_seql, vb_sneq, vb_beql, vb_bneq, vun_not, vlen_str, vlen_sl, vlen_nil, vext_tup, HX.ev, List.length_cons, List.length_nil, List.append_nil, List.nil_append, List.cons_append, List.set_cons_succ, List.set_cons_zero, List.getElem?_cons_succ, List.getElem?_cons_zero, Option.getD_some, Option.map_some, Option.map_none, List.map_cons, List.map_nil, if_true, Bool.not_true, Bool.not_false, Bool.false_eq_true, if_false, va_load, va_ld, va_loadA, va_ldA, va_store, va_st1, va_stn, va_kill0, va_killS, va_box1, va_boxA, get_base, get_base0, set_base, set_base0, List.length_append, Nat.reduceAdd, Nat.zero_add, List.append_assoc, vo_s2b, vo_minmax, va_min2, va_max2, va_minl, List.drop_zero, List.drop_succ_cons, List.take_succ_cons, List.take_zero, vdr_nil, vdr_cons, vdr_op, vdr_some, vdr_loud, vdr_lsome, HOp.looks, vholds_cons, vholds_nil, implies_true, true_and, and_true, vres_tmp, vres_tmp2, vres_none, vres_cell1, vres_k, vres_cell2, vres_k2, vend_ret, vend_normal, vex_some, vdr_guard, vdg_tt, vdg_ff, vdg_tf, vdg_ft, vdg_no, vo_pick, va_s2b, va_takeS, va_takeN, va_app, va_apB, va_ap0, vsadd, Nat.reduceEqDiff, va_sOk, va_sOkN, va_sOk1, va_slLo, va_slHi, va_slBoth, va_slLoC, va_slHiC, va_slBothC, va_nilHi, va_nilLo, va_nilNone, lr_succ, bs1, bs2, take_k, tkB, x1, x2, a0, a1, a2, m00, m01, m11, m02, m12, m22, d1, d2, d3, d4, *]
      | refine condK_cases (fun h => ?_) (fun h => ?_)
      | refine guardK_cases (fun h => ?_) (fun h => ?_)
      | refine dgK_cases (fun h => ?_) (fun h => ?_)
      | (refine vcall_of ok41 rfl (e39 _) ?_; rintro _ _ ⟨rfl, rfl⟩)
      | (refine vdr_call ok41 rfl (e39 _) ?_; rintro _ _ ⟨rfl, rfl⟩)
      | (refine vcall_of ok44 rfl (hB _) ?_; rintro _ _ ⟨rfl, rfl⟩)
      | (refine vdr_call ok44 rfl (hB _) ?_; rintro _ _ ⟨rfl, rfl⟩)
      | (refine vcall_of ok43 rfl (fI _) ?_; rintro _ _ ⟨rfl, rfl⟩)
      | (refine vdr_call ok43 rfl (fI _) ?_; rintro _ _ ⟨rfl, rfl⟩)
      | (refine vcall_of ok43 rfl (fN _) ?_; rintro _ _ ⟨rfl, rfl⟩)
      | (refine vdr_call ok43 rfl (fN _) ?_; rintro _ _ ⟨rfl, rfl⟩)
      | (refine vcall_of ok43 rfl (fB _) ?_; rintro _ _ ⟨rfl, rfl⟩)
      | (refine vdr_call ok43 rfl (fB _) ?_; rintro _ _ ⟨rfl, rfl⟩)
      | (refine vcall_of ok42 rfl (p1 _) ?_; rintro _ _ ⟨rfl, rfl⟩)
      | (refine vdr_call ok42 rfl (p1 _) ?_; rintro _ _ ⟨rfl, rfl⟩)
      | (refine vcall_of ok42 rfl (p2 _) ?_; rintro _ _ ⟨rfl, rfl⟩)
      | (refine vdr_call ok42 rfl (p2 _) ?_; rintro _ _ ⟨rfl, rfl⟩)
      | (refine vcall_of ok42 rfl (p3 _) ?_; rintro _ _ ⟨rfl, rfl⟩)
      | (refine vdr_call ok42 rfl (p3 _) ?_; rintro _ _ ⟨rfl, rfl⟩)
      | (refine vcall_of ok42 rfl (p4 _) ?_; rintro _ _ ⟨rfl, rfl⟩)
      | (refine vdr_call ok42 rfl (p4 _) ?_; rintro _ _ ⟨rfl, rfl⟩)
      | refine hwp_draw mixed rfl ?_
      | refine HW.rounds mixed 3 ?_

  all_goals
    first
    | refine leaf12 (j := 1) rfl ?_ ?_ ?_
    | refine leaf12 (j := 2) rfl ?_ ?_ ?_
    | refine leaf12 (j := 3) rfl ?_ ?_ ?_
    | refine leaf12 (j := 4) rfl ?_ ?_ ?_
    | refine leaf12 (j := 5) rfl ?_ ?_ ?_
    | refine leaf12 (j := 6) rfl ?_ ?_ ?_
    | refine leaf12 (j := 7) rfl ?_ ?_ ?_
    | refine leaf12 (j := 8) rfl ?_ ?_ ?_
    | refine leaf12 (j := 9) rfl ?_ ?_ ?_
    | refine leaf12 (j := 10) rfl ?_ ?_ ?_
    | refine leaf12 (j := 11) rfl ?_ ?_ ?_
    | refine leaf12 (j := 12) rfl ?_ ?_ ?_
    | refine leaf12 (j := 13) rfl ?_ ?_ ?_
    | refine leaf12 (j := 14) rfl ?_ ?_ ?_
    | refine leaf12 (j := 15) rfl ?_ ?_ ?_
    | trace_state
    · simp
    · clear hb p1 p2 p3 p4 hl hB fI fN fB e39
      simp_all [putF]
    · simp only [List.length_append, List.length_cons, List.length_nil]
      try omega
end K
end Go.Proofs.YthihchoccpnfeaaDoor
