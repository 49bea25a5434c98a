/-
  answers.Put: what it answers of any reply.
-/
import Derived.Test.YthihchoccpnfeaaDoorB
import Derived.Test.YthihchoccpnfeaaDoorHLByte
import Derived.Lib.ItoaLen
namespace Go.Proofs.YthihchoccpnfeaaDoor
open Go Go.HL Go.Shelf V
namespace A
set_option maxRecDepth 100000
set_option maxHeartbeats 40000000
set_option linter.unusedSimpArgs false
theorem ok12 : okF Tryd.prog 12 := ⟨_, Tryd.func12, by kernel_rfl, by kernel_rfl⟩
/-- a reply's bytes. -/
def putF (k id num : Int) (t b : List UInt8) : List UInt8 :=
  if k = 3 ∨ k = 12 then wordL k ++ (32 :: ansPr id) ++ (32 :: (ansPr (b.length : Nat) ++ [13, 10])) ++ b ++ [13, 10]
  else if k = 16 then wordL k ++ (32 :: (ansPr (b.length : Nat) ++ [13, 10])) ++ b ++ [13, 10]
  else if k = 1 then wordL k ++ (32 :: ansPr id) ++ [13, 10]
  else if k = 2 then wordL k ++ (32 :: t) ++ [13, 10]
  else if k = 10 ∨ k = 13 then wordL k ++ (32 :: ansPr num) ++ [13, 10]
  else wordL k ++ [13, 10]
theorem word_len (k : Int) : (wordL k).length ≤ 15 := by
  unfold wordL
  split
  · simp
  · have h : words.all (fun w => decide (w.length ≤ 15)) = true := by decide
    cases hw : words[k.toNat]? with
    | none => simp
    | some w =>
      have := List.all_eq_true.1 h w (List.mem_of_getElem? hw)
      simpa using this
theorem pr_len {n : Int} (h1 : n ≤ 9223372036854775807) : (ansPr n).length ≤ 21 := by
  unfold ansPr
  split
  · simp
  · rename_i h
    have e : Lib.itoa n = Lib.decDigits n.toNat := by unfold Lib.itoa; rw [if_neg h]
    rw [← e]; exact Lib.itoa_length_le n (by omega) h1
theorem valid_len {t : List UInt8} (h : validL t = true) : t.length ≤ 200 := by
  unfold validL at h
  simp only [Bool.and_eq_true, decide_eq_true_eq] at h
  exact h.1.1.2
theorem body_len {k : Int} {n : Nat} (h : bodyB k n = true) : n ≤ 4294967295 := by
  unfold bodyB mostI at h
  split at h <;> (try split at h) <;> simp at h <;> omega

theorem leaf12 {hs L : HS} {j len : Nat} {w Y : List UInt8} {olds : List Nat} (hL : L[j]? = some (some (.cells 1 (bcells w) false true olds))) (ho : ∀ q ∈ olds, ∃ i, q = hs.length + i ∧ i ≠ j) (hw : Y = w) (hlen : len = w.length) :
    ∃ L' offs, hs ++ L = hs ++ L' ∧ okOffs L'.length offs = true ∧ rv (relRho hs.length offs) (.tup [.slice (hs.length + j) 0 len none, .int .i64 0]) = .tup [.slice hs.length 0 Y.length none, .int .i64 0] ∧ hs ++ HL.pickT hs.length offs L' = hs ++ [some (.cells 1 (bcells Y) false true [])] := by
  subst hw hlen
  obtain ⟨t1, t2, t3⟩ := tailB (hs := hs) (len := Y.length) hL ho
  refine ⟨L, [j], rfl, t1, ?_, by rw [t3]⟩
  have hp : relRho hs.length [j] (hs.length + j) = some hs.length := by rw [relRho_off]; simp [posIn]
  simp [rv, renV, renL, hp]

theorem put12 {hs : HS} {bv : HV} {b : List UInt8} (h1 : bv.one = true) (h2 : bv.cells = [bv]) (hl : ∀ g, hlenK g .slice bv = some (.int .i64 (b.length : Nat))) (hb : ∀ L, takeCells (hs ++ L) 1 bv = some (b.length, bcells b)) (ht : ∀ L, hasTab (hs ++ L) 1 .u64 Lib.pow10Tab = true)
    (k id num : Int) (hid : -9223372036854775808 ≤ id ∧ id ≤ 9223372036854775807) (hnum : -9223372036854775808 ≤ num ∧ num ≤ 9223372036854775807) (t : List UInt8) (htl : t.length ≤ 140737488351232) :
    HC Tryd.prog 12 [.agg [.int .i64 k, .int .i64 id, .int .i64 num, .str t, bv]] hs fun v hs' => if checkF k id num t b.length = 0 then v = .tup [.slice hs.length 0 (putF k id num t b).length none, .int .i64 0] ∧ hs' = hs ++ [some (.cells 1 (bcells (putF k id num t b)) false true [])] else v = .tup [.nilSlice, .int .i64 (checkF k id num t b.length)] ∧ hs' = hs := by
  refine HC.tail ?_
  have hbo : hbox hs (.agg [.int .i64 k, .int .i64 id, .int .i64 num, .str t, bv]) = some (.ptr hs.length 0, hs ++ [some (.cells 1 [.int .i64 k, .int .i64 id, .int .i64 num, .str t, bv] false false [])]) := va_boxA (by simp only [List.all_cons, List.all_nil, h1]; rfl)
  refine HC.wp mixed Tryd.func12 c12 ?_
  simp -implicitDefEqProofs (disch := first | omega | decide | exact rfl | exact Nat.le_of_ble_eq_true rfl | assumption | (simp only [List.length_append, List.length_cons, List.length_nil, List.drop_zero, List.length_drop] <;> omega)) only [vwp_skip, vwp_ret, vwp_exit, vwp_lab, vwp_seq, vwp_cond, vwp_block, vwp_scope, vwp_region, vwp_draw, vwp_loop, vwp_range, vcnd_tt, vcnd_ff, vthen_normal, vthen_ret, vthen_exit, vblock_normal, vblock_ret, vblock_exit, vreg_nil, vreg_cons, vhl_nil, vhl_op, vhl_guard, vguard_tt, vguard_ff, vguard_tf, vguard_ft, vguard_no, vact_op, vop_some, vput_some, vput_none, vsame_sm, vunit_sm, vget_nil, vget_cons, vget_some,
    vo_mv, vo_bin, vo_un, vo_ext, vo_len, vo_idxS, vo_idxStr, vo_load, vo_pick, vo_append, vo_bslice, evp, vo_nilc, vo_faddr, vo_store, vo_sliceSl, vo_sliceStr, vo_cInt, vo_copy, vo_mkSlice, vo_box, vo_build, vo_b2s, vb2s_sl, vb2s_nil, vcInt, vnil_ptr, vo_mkMap, vo_mkfn, vo_lookup, vo_mapUpd, vo_del, vdel_some, vo_rangeMap, vo_entry, vfaddr_ptr, beq_self_eq_true, eq_self, decide_true, decide_false, vb_lss, vb_leq, vb_gtr, vb_geq, vb_eql, vb_neq, vb_seql, vb_sneq, vb_beql, vb_bneq, vun_not, vlen_str, vlen_sl, vlen_nil, vext_tup, HX.ev, List.length_cons, List.length_nil, List.append_nil, List.nil_append, List.cons_append, List.set_cons_succ, List.set_cons_zero, List.getElem?_cons_succ, List.getElem?_cons_zero, Option.getD_some, Option.map_some, Option.map_none, List.map_cons, List.map_nil, if_true, Bool.not_true, Bool.not_false, Bool.false_eq_true, if_false, va_load, va_ld, va_loadA, va_ldA, va_store, va_st1, va_stn, va_kill0, va_killS, va_box1, va_boxA, get_base, get_base0, set_base, set_base0, List.length_append, Nat.reduceAdd, Nat.zero_add, List.append_assoc, vo_s2b, vo_minmax, va_min2, va_max2, va_minl, List.drop_zero, List.drop_succ_cons, List.take_succ_cons, List.take_zero, vdr_nil, vdr_cons, vdr_op, vdr_some, vdr_loud, vdr_lsome, HOp.looks, vholds_cons, vholds_nil, implies_true, true_and, and_true, vres_tmp, vres_tmp2, vres_none, vres_cell1, vres_k, vres_cell2, vres_k2, vend_ret, vend_normal, vex_some, vdr_guard, vdg_tt, vdg_ff, vdg_tf, vdg_ft, vdg_no, vo_pick, va_s2b, va_takeS, va_takeN, va_app, va_apB, va_ap0, vsadd, Nat.reduceEqDiff, h12, hbo, frame0, List.replicate, Nat.sub]
  refine vcall_of ok11 rfl (check11 h1 h2 hl k id num t) ?_
  rintro _ _ ⟨rfl, rfl⟩
  clear hbo
  obtain ⟨c, hc⟩ : ∃ c, c = checkF k id num t b.length := ⟨_, rfl⟩
  rw [← hc]
  obtain ⟨bc, hbc⟩ := exB (decide (c = 0))
  simp -implicitDefEqProofs (disch := first | omega | decide | exact rfl | exact Nat.le_of_ble_eq_true rfl | assumption | (simp only [List.length_append, List.length_cons, List.length_nil, List.drop_zero, List.length_drop] <;> omega)) only [vwp_skip, vwp_ret, vwp_exit, vwp_lab, vwp_seq, vwp_cond, vwp_block, vwp_scope, vwp_region, vwp_draw, vwp_loop, vwp_range, vcnd_tt, vcnd_ff, vthen_normal, vthen_ret, vthen_exit, vblock_normal, vblock_ret, vblock_exit, vreg_nil, vreg_cons, vhl_nil, vhl_op, vhl_guard, vguard_tt, vguard_ff, vguard_tf, vguard_ft, vguard_no, vact_op, vop_some, vput_some, vput_none, vsame_sm, vunit_sm, vget_nil, vget_cons, vget_some,
    vo_mv, vo_bin, vo_un, vo_ext, vo_len, vo_idxS, vo_idxStr, vo_load, vo_pick, vo_append, vo_bslice, evp, vo_nilc, vo_faddr, vo_store, vo_sliceSl, vo_sliceStr, vo_cInt, vo_copy, vo_mkSlice, vo_box, vo_build, vo_b2s, vb2s_sl, vb2s_nil, vcInt, vnil_ptr, vo_mkMap, vo_mkfn, vo_lookup, vo_mapUpd, vo_del, vdel_some, vo_rangeMap, vo_entry, vfaddr_ptr, beq_self_eq_true, eq_self, decide_true, decide_false, vb_lss, vb_leq, vb_gtr, vb_geq, vb_eql, vb_neq, vb_seql, vb_sneq, vb_beql, vb_bneq, vun_not, vlen_str, vlen_sl, vlen_nil, vext_tup, HX.ev, List.length_cons, List.length_nil, List.append_nil, List.nil_append, List.cons_append, List.set_cons_succ, List.set_cons_zero, List.getElem?_cons_succ, List.getElem?_cons_zero, Option.getD_some, Option.map_some, Option.map_none, List.map_cons, List.map_nil, if_true, Bool.not_true, Bool.not_false, Bool.false_eq_true, if_false, va_load, va_ld, va_loadA, va_ldA, va_store, va_st1, va_stn, va_kill0, va_killS, va_box1, va_boxA, get_base, get_base0, set_base, set_base0, List.length_append, Nat.reduceAdd, Nat.zero_add, List.append_assoc, vo_s2b, vo_minmax, va_min2, va_max2, va_minl, List.drop_zero, List.drop_succ_cons, List.take_succ_cons, List.take_zero, vdr_nil, vdr_cons, vdr_op, vdr_some, vdr_loud, vdr_lsome, HOp.looks, vholds_cons, vholds_nil, implies_true, true_and, and_true, vres_tmp, vres_tmp2, vres_none, vres_cell1, vres_k, vres_cell2, vres_k2, vend_ret, vend_normal, vex_some, vdr_guard, vdg_tt, vdg_ff, vdg_tf, vdg_ft, vdg_no, vo_pick, va_s2b, va_takeS, va_takeN, va_app, va_apB, va_ap0, vsadd, Nat.reduceEqDiff, hbc]
  cases bc
  case false =>
    have hc0 : ¬ c = 0 := of_decide_eq_false hbc
    simp -implicitDefEqProofs (disch := first | omega | decide | exact rfl | exact Nat.le_of_ble_eq_true rfl | assumption | (simp only [List.length_append, List.length_cons, List.length_nil, List.drop_zero, List.length_drop] <;> omega)) only [vwp_skip, vwp_ret, vwp_exit, vwp_lab, vwp_seq, vwp_cond, vwp_block, vwp_scope, vwp_region, vwp_draw, vwp_loop, vwp_range, vcnd_tt, vcnd_ff, vthen_normal, vthen_ret, vthen_exit, vblock_normal, vblock_ret, vblock_exit, vreg_nil, vreg_cons, vhl_nil, vhl_op, vhl_guard, vguard_tt, vguard_ff, vguard_tf, vguard_ft, vguard_no, vact_op, vop_some, vput_some, vput_none, vsame_sm, vunit_sm, vget_nil, vget_cons, vget_some,
    vo_mv, vo_bin, vo_un, vo_ext, vo_len, vo_idxS, vo_idxStr, vo_load, vo_pick, vo_append, vo_bslice, evp, vo_nilc, vo_faddr, vo_store, vo_sliceSl, vo_sliceStr, vo_cInt, vo_copy, vo_mkSlice, vo_box, vo_build, vo_b2s, vb2s_sl, vb2s_nil, vcInt, vnil_ptr, vo_mkMap, vo_mkfn, vo_lookup, vo_mapUpd, vo_del, vdel_some, vo_rangeMap, vo_entry, vfaddr_ptr, beq_self_eq_true, eq_self, decide_true, decide_false, vb_lss, vb_leq, vb_gtr, vb_geq, vb_eql, vb_neq, vb_seql, vb_sneq, vb_beql, vb_bneq, vun_not, vlen_str, vlen_sl, vlen_nil, vext_tup, HX.ev, List.length_cons, List.length_nil, List.append_nil, List.nil_append, List.cons_append, List.set_cons_succ, List.set_cons_zero, List.getElem?_cons_succ, List.getElem?_cons_zero, Option.getD_some, Option.map_some, Option.map_none, List.map_cons, List.map_nil, if_true, Bool.not_true, Bool.not_false, Bool.false_eq_true, if_false, va_load, va_ld, va_loadA, va_ldA, va_store, va_st1, va_stn, va_kill0, va_killS, va_box1, va_boxA, get_base, get_base0, set_base, set_base0, List.length_append, Nat.reduceAdd, Nat.zero_add, List.append_assoc, vo_s2b, vo_minmax, va_min2, va_max2, va_minl, List.drop_zero, List.drop_succ_cons, List.take_succ_cons, List.take_zero, vdr_nil, vdr_cons, vdr_op, vdr_some, vdr_loud, vdr_lsome, HOp.looks, vholds_cons, vholds_nil, implies_true, true_and, and_true, vres_tmp, vres_tmp2, vres_none, vres_cell1, vres_k, vres_cell2, vres_k2, vend_ret, vend_normal, vex_some, vdr_guard, vdg_tt, vdg_ff, vdg_tf, vdg_ft, vdg_no, vo_pick, va_s2b, va_takeS, va_takeN, va_app, va_apB, va_ap0, vsadd, Nat.reduceEqDiff]
    refine ⟨_, [], rfl, rfl, ?_⟩
    rw [if_neg hc0]
    exact ⟨rfl, by simp [HL.pickT]⟩
  have hc0 : c = 0 := of_decide_eq_true hbc
  rw [hc0]
  simp -implicitDefEqProofs (disch := first | omega | decide | exact rfl | exact Nat.le_of_ble_eq_true rfl | assumption | (simp only [List.length_append, List.length_cons, List.length_nil, List.drop_zero, List.length_drop] <;> omega)) only [vwp_skip, vwp_ret, vwp_exit, vwp_lab, vwp_seq, vwp_cond, vwp_block, vwp_scope, vwp_region, vwp_draw, vwp_loop, vwp_range, vcnd_tt, vcnd_ff, vthen_normal, vthen_ret, vthen_exit, vblock_normal, vblock_ret, vblock_exit, vreg_nil, vreg_cons, vhl_nil, vhl_op, vhl_guard, vguard_tt, vguard_ff, vguard_tf, vguard_ft, vguard_no, vact_op, vop_some, vput_some, vput_none, vsame_sm, vunit_sm, vget_nil, vget_cons, vget_some,
    vo_mv, vo_bin, vo_un, vo_ext, vo_len, vo_idxS, vo_idxStr, vo_load, vo_pick, vo_append, vo_bslice, evp, vo_nilc, vo_faddr, vo_store, vo_sliceSl, vo_sliceStr, vo_cInt, vo_copy, vo_mkSlice, vo_box, vo_build, vo_b2s, vb2s_sl, vb2s_nil, vcInt, vnil_ptr, vo_mkMap, vo_mkfn, vo_lookup, vo_mapUpd, vo_del, vdel_some, vo_rangeMap, vo_entry, vfaddr_ptr, beq_self_eq_true, eq_self, decide_true, decide_false, vb_lss, vb_leq, vb_gtr, vb_geq, vb_eql, vb_neq, vb_seql, vb_sneq, vb_beql, vb_bneq, vun_not, vlen_str, vlen_sl, vlen_nil, vext_tup, HX.ev, List.length_cons, List.length_nil, List.append_nil, List.nil_append, List.cons_append, List.set_cons_succ, List.set_cons_zero, List.getElem?_cons_succ, List.getElem?_cons_zero, Option.getD_some, Option.map_some, Option.map_none, List.map_cons, List.map_nil, if_true, Bool.not_true, Bool.not_false, Bool.false_eq_true, if_false, va_load, va_ld, va_loadA, va_ldA, va_store, va_st1, va_stn, va_kill0, va_killS, va_box1, va_boxA, get_base, get_base0, set_base, set_base0, List.length_append, Nat.reduceAdd, Nat.zero_add, List.append_assoc, vo_s2b, vo_minmax, va_min2, va_max2, va_minl, List.drop_zero, List.drop_succ_cons, List.take_succ_cons, List.take_zero, vdr_nil, vdr_cons, vdr_op, vdr_some, vdr_loud, vdr_lsome, HOp.looks, vholds_cons, vholds_nil, implies_true, true_and, and_true, vres_tmp, vres_tmp2, vres_none, vres_cell1, vres_k, vres_cell2, vres_k2, vend_ret, vend_normal, vex_some, vdr_guard, vdg_tt, vdg_ff, vdg_tf, vdg_ft, vdg_no, vo_pick, va_s2b, va_takeS, va_takeN, va_app, va_apB, va_ap0, vsadd, Nat.reduceEqDiff]
  refine vcall_of ok35 rfl (word35 k _) ?_
  rintro _ _ ⟨rfl, rfl⟩
  rw [hc] at hc0
  have hok : wordL k ≠ [] ∧ idB k id = true ∧ numB k num = true ∧ tubeB k t = true ∧ bodyB k b.length = true := by
    unfold checkF at hc0
    split at hc0
    · simp at hc0
    · rename_i hw
      split at hc0
      · rename_i hh
        simp only [Bool.and_eq_true] at hh
        exact ⟨hw, hh.1.1.1, hh.1.1.2, hh.1.2, hh.2⟩
      · simp at hc0
  obtain ⟨q1, q2, q3, q4, q5⟩ := hok
  have wl := word_len k
  have il := pr_len hid.2
  have nl := pr_len hnum.2
  have bl2 := body_len q5
  have bl := pr_len (n := ((b.length : Nat) : Int)) (by omega)
  have w0 : (wordL k).length ≠ 0 := fun e => q1 (List.eq_nil_of_length_eq_zero e)
  have p1 := fun L => print38 (ht L) id hid.1 hid.2
  have p2 := fun L => print38 (ht L) num hnum.1 hnum.2
  have p3 := fun L => print38 (ht L) ((b.length : Nat) : Int) (by omega) (by omega)
  clear hbc hc q1 q2 q3 q4 q5
  have p4 := fun L => print38 (ht L) 0 (by omega) (by omega)
  have zl := pr_len (n := 0) (by omega)
  by_cases hb0 : b.length = 0
  all_goals
    repeat' first
      | simp -implicitDefEqProofs (disch := first | omega | decide | exact rfl | exact Nat.le_of_ble_eq_true rfl | assumption | (simp only [List.length_append, List.length_cons, List.length_nil, List.drop_zero, List.length_drop] <;> omega)) only [vwp_skip, vwp_ret, vwp_exit, vwp_lab, vwp_seq, vwp_cond, vwp_block, vwp_scope, vwp_region, vwp_draw, vwp_loop, vwp_range, vcnd_tt, vcnd_ff, vthen_normal, vthen_ret, vthen_exit, vblock_normal, vblock_ret, vblock_exit, vreg_nil, vreg_cons, vhl_nil, vhl_op, vhl_guard, vguard_tt, vguard_ff, vguard_tf, vguard_ft, vguard_no, vact_op, vop_some, vput_some, vput_none, vsame_sm, vunit_sm, vget_nil, vget_cons, vget_some,
    vo_mv, vo_bin, vo_un, vo_ext, vo_len, vo_idxS, vo_idxStr, vo_load, vo_pick, vo_append, vo_bslice, evp, vo_nilc, vo_faddr, vo_store, vo_sliceSl, vo_sliceStr, vo_cInt, vo_copy, vo_mkSlice, vo_box, vo_build, vo_b2s, vb2s_sl, vb2s_nil, vcInt, vnil_ptr, vo_mkMap, vo_mkfn, vo_lookup, vo_mapUpd, vo_del, vdel_some, vo_rangeMap, vo_entry, vfaddr_ptr, beq_self_eq_true, eq_self, decide_true, decide_false, vb_lss, vb_leq, vb_gtr, vb_geq, vb_eql, vb_neq, vb_seql, vb_sneq, vb_beql, vb_bneq, vun_not, vlen_str, vlen_sl, vlen_nil, vext_tup, HX.ev, List.length_cons, List.length_nil, List.append_nil, List.nil_append, List.cons_append, List.set_cons_succ, List.set_cons_zero, List.getElem?_cons_succ, List.getElem?_cons_zero, Option.getD_some, Option.map_some, Option.map_none, List.map_cons, List.map_nil, if_true, Bool.not_true, Bool.not_false, Bool.false_eq_true, if_false, va_load, va_ld, va_loadA, va_ldA, va_store, va_st1, va_stn, va_kill0, va_killS, va_box1, va_boxA, get_base, get_base0, set_base, set_base0, List.length_append, Nat.reduceAdd, Nat.zero_add, List.append_assoc, vo_s2b, vo_minmax, va_min2, va_max2, va_minl, List.drop_zero, List.drop_succ_cons, List.take_succ_cons, List.take_zero, vdr_nil, vdr_cons, vdr_op, vdr_some, vdr_loud, vdr_lsome, HOp.looks, vholds_cons, vholds_nil, implies_true, true_and, and_true, vres_tmp, vres_tmp2, vres_none, vres_cell1, vres_k, vres_cell2, vres_k2, vend_ret, vend_normal, vex_some, vdr_guard, vdg_tt, vdg_ff, vdg_tf, vdg_ft, vdg_no, vo_pick, va_s2b, va_takeS, va_takeN, va_app, va_apB, va_ap0, vsadd, Nat.reduceEqDiff, *]
      | refine condK_cases (fun h => ?_) (fun h => ?_)
      | refine guardK_cases (fun h => ?_) (fun h => ?_)
      | refine dgK_cases (fun h => ?_) (fun h => ?_)
      | (refine vcall_of ok38 rfl (p1 _) ?_; rintro _ _ ⟨rfl, rfl⟩)
      | (refine vdr_call ok38 rfl (p1 _) ?_; rintro _ _ ⟨rfl, rfl⟩)
      | (refine vcall_of ok38 rfl (p2 _) ?_; rintro _ _ ⟨rfl, rfl⟩)
      | (refine vdr_call ok38 rfl (p2 _) ?_; rintro _ _ ⟨rfl, rfl⟩)
      | (refine vcall_of ok38 rfl (p3 _) ?_; rintro _ _ ⟨rfl, rfl⟩)
      | (refine vdr_call ok38 rfl (p3 _) ?_; rintro _ _ ⟨rfl, rfl⟩)
      | (refine vcall_of ok38 rfl (p4 _) ?_; rintro _ _ ⟨rfl, rfl⟩)
      | (refine vdr_call ok38 rfl (p4 _) ?_; rintro _ _ ⟨rfl, rfl⟩)
      | refine hwp_draw mixed rfl ?_

  all_goals
    first
    | refine leaf12 (j := 2) rfl ?_ ?_ ?_
    | refine leaf12 (j := 3) rfl ?_ ?_ ?_
    | refine leaf12 (j := 4) rfl ?_ ?_ ?_
    | refine leaf12 (j := 5) rfl ?_ ?_ ?_
    | trace_state
    · simp
    · clear hb ht p1 p2 p3 p4 hl
      simp_all [putF]
    · simp only [List.length_append, List.length_cons, List.length_nil]
      try omega
end A
end Go.Proofs.YthihchoccpnfeaaDoor
