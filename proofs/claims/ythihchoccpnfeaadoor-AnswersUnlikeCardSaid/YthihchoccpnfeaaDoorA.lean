/-
  answers: a kind's word, the bound of its body, a number printed: what these answer.
-/
import Derived.Test.YthihchoccpnfeaaDoorV2
import Derived.Test.YthihchoccpnfeaaDoorHLTail
import Derived.Test.YthihchoccpnfeaaDoorHLItoa
import Derived.Shelf.LaysM
import Derived.Shelf.Strconv.Itoa3
namespace Go.Proofs
open Go.Shelf
def Tryd.laysM171_ren : Go.Shelf.Ren := ⟨fun | 171 => 53 | 243 => 60 | 246 => 69 | 283 => 74 | 284 => 75 | 285 => 76 | 286 => 77 | 129 => 80 | 317 => 79 | 318 => 81 | 319 => 82 | 320 => 83 | 337 => 84 | 338 => 85 | n => n, fun | 3 => 3 | 9 => 9 | 2 => 2 | 4 => 4 | 171 => 105 | 0 => 0 | 53 => 106 | 37 => 22 | 5 => 5 | 173 => 109 | 212 => 113 | 51 => 114 | 20 => 20 | 213 => 115 | 46 => 117 | 232 => 120 | 233 => 121 | n => n, fun | 17 => 1 | 18 => 2 | 19 => 3 | n => n⟩
theorem Tryd.laysM171 : Go.Proofs.LaysM.n171 Tryd.prog Tryd.laysM171_ren :=
  { mixed := by kernel_rfl
    f129 := Tryd.func80.trans (congrArg some (by kernel_rfl))
    f171 := Tryd.func53.trans (congrArg some (by kernel_rfl))
    f243 := Tryd.func60.trans (congrArg some (by kernel_rfl))
    f246 := Tryd.func69.trans (congrArg some (by kernel_rfl))
    f283 := Tryd.func74.trans (congrArg some (by kernel_rfl))
    f284 := Tryd.func75.trans (congrArg some (by kernel_rfl))
    f285 := Tryd.func76.trans (congrArg some (by kernel_rfl))
    f286 := Tryd.func77.trans (congrArg some (by kernel_rfl))
    f317 := Tryd.func79.trans (congrArg some (by kernel_rfl))
    f318 := Tryd.func81.trans (congrArg some (by kernel_rfl))
    f319 := Tryd.func82.trans (congrArg some (by kernel_rfl))
    f320 := Tryd.func83.trans (congrArg some (by kernel_rfl))
    f337 := Tryd.func84.trans (congrArg some (by kernel_rfl))
    f338 := Tryd.func85.trans (congrArg some (by kernel_rfl))
    t0 := Tryd.underlying0
    a0 := Tryd.isAgg0
    z0 := Tryd.sizeOf0
    v0 := Tryd.zeroValue0
    t2 := Tryd.underlying2
    a2 := Tryd.isAgg2
    z2 := Tryd.sizeOf2
    v2 := Tryd.zeroValue2
    t3 := Tryd.underlying3
    a3 := Tryd.isAgg3
    z3 := Tryd.sizeOf3
    v3 := Tryd.zeroValue3
    t4 := Tryd.underlying4
    a4 := Tryd.isAgg4
    z4 := Tryd.sizeOf4
    v4 := Tryd.zeroValue4
    t5 := Tryd.underlying5
    a5 := Tryd.isAgg5
    z5 := Tryd.sizeOf5
    v5 := Tryd.zeroValue5
    t9 := Tryd.underlying9
    a9 := Tryd.isAgg9
    z9 := Tryd.sizeOf9
    v9 := Tryd.zeroValue9
    t20 := Tryd.underlying20
    a20 := Tryd.isAgg20
    z20 := Tryd.sizeOf20
    v20 := Tryd.zeroValue20
    t37 := Tryd.underlying22
    a37 := Tryd.isAgg22
    z37 := Tryd.sizeOf22
    v37 := Tryd.zeroValue22
    t46 := Tryd.underlying117
    a46 := Tryd.isAgg117
    z46 := Tryd.sizeOf117
    v46 := Tryd.zeroValue117
    t51 := Tryd.underlying114
    a51 := Tryd.isAgg114
    z51 := Tryd.sizeOf114
    v51 := Tryd.zeroValue114
    t53 := Tryd.underlying106
    a53 := Tryd.isAgg106
    z53 := Tryd.sizeOf106
    v53 := Tryd.zeroValue106
    t171 := Tryd.underlying105
    a171 := Tryd.isAgg105
    z171 := Tryd.sizeOf105
    v171 := Tryd.zeroValue105
    t173 := Tryd.underlying109
    a173 := Tryd.isAgg109
    z173 := Tryd.sizeOf109
    v173 := Tryd.zeroValue109
    t212 := Tryd.underlying113
    a212 := Tryd.isAgg113
    z212 := Tryd.sizeOf113
    v212 := Tryd.zeroValue113
    t213 := Tryd.underlying115
    a213 := Tryd.isAgg115
    z213 := Tryd.sizeOf115
    t232 := Tryd.underlying120
    a232 := Tryd.isAgg120
    z232 := Tryd.sizeOf120
    v232 := Tryd.zeroValue120
    t233 := Tryd.underlying121
    a233 := Tryd.isAgg121
    z233 := Tryd.sizeOf121
    v233 := Tryd.zeroValue121
    g17 := by kernel_rfl
    g18 := by kernel_rfl
    g19 := by kernel_rfl
    i0 := by kernel_rfl
    i2 := by kernel_rfl
    i3 := by kernel_rfl
    i4 := by kernel_rfl
    i5 := by kernel_rfl
    i9 := by kernel_rfl
    i20 := by kernel_rfl
    i37 := by kernel_rfl
    i46 := by kernel_rfl
    i51 := by kernel_rfl
    i53 := by kernel_rfl
    i171 := by kernel_rfl
    i173 := by kernel_rfl
    i212 := by kernel_rfl
    i232 := by kernel_rfl
    i233 := by kernel_rfl
    m17 := by kernel_rfl
    m18 := by kernel_rfl
    m19 := by kernel_rfl }
end Go.Proofs
namespace Go.Proofs.YthihchoccpnfeaaDoor
open Go Go.HL Go.Shelf V
namespace A
set_option maxRecDepth 100000
set_option maxHeartbeats 4000000
set_option linter.unusedSimpArgs false

/-- the words of the kinds; none of kind 0. -/
def words : List (List UInt8) := [[], [73, 78, 83, 69, 82, 84, 69, 68], [85, 83, 73, 78, 71], [82, 69, 83, 69, 82, 86, 69, 68], [68, 69, 65, 68, 76, 73, 78, 69, 95, 83, 79, 79, 78], [84, 73, 77, 69, 68, 95, 79, 85, 84], [68, 69, 76, 69, 84, 69, 68], [82, 69, 76, 69, 65, 83, 69, 68], [66, 85, 82, 73, 69, 68], [84, 79, 85, 67, 72, 69, 68], [87, 65, 84, 67, 72, 73, 78, 71], [78, 79, 84, 95, 73, 71, 78, 79, 82, 69, 68], [70, 79, 85, 78, 68], [75, 73, 67, 75, 69, 68], [75, 73, 67, 75, 69, 68], [80, 65, 85, 83, 69, 68], [79, 75], [78, 79, 84, 95, 70, 79, 85, 78, 68], [79, 85, 84, 95, 79, 70, 95, 77, 69, 77, 79, 82, 89], [66, 65, 68, 95, 70, 79, 82, 77, 65, 84], [85, 78, 75, 78, 79, 87, 78, 95, 67, 79, 77, 77, 65, 78, 68], [69, 88, 80, 69, 67, 84, 69, 68, 95, 67, 82, 76, 70], [74, 79, 66, 95, 84, 79, 79, 95, 66, 73, 71], [68, 82, 65, 73, 78, 73, 78, 71]]
def wordL (k : Int) : List UInt8 := if k < 1 ∨ 24 ≤ k then [] else (words[k.toNat]?).getD []
theorem ok35 : okF Tryd.prog 35 := ⟨_, Tryd.func35, by kernel_rfl, by kernel_rfl⟩
theorem ok36 : okF Tryd.prog 36 := ⟨_, Tryd.func36, by kernel_rfl, by kernel_rfl⟩
theorem ok37 : okF Tryd.prog 37 := ⟨_, Tryd.func37, by kernel_rfl, by kernel_rfl⟩
theorem ok38 : okF Tryd.prog 38 := ⟨_, Tryd.func38, by kernel_rfl, by kernel_rfl⟩
theorem ok53 : okF Tryd.prog 53 := ⟨_, Tryd.func53, by kernel_rfl, by kernel_rfl⟩
theorem word_runs : ((List.range 24).all fun n => match hcall F X 60 35 [.int .i64 (n : Nat)] [] with | some (v, _) => HV.eqb v (.str ((words[n]?).getD [])) | none => false) = true := by kernel_rfl
theorem word35 (k : Int) (hs : HS) : HC Tryd.prog 35 [.int .i64 k] hs fun v hs' => v = .str (wordL k) ∧ hs' = hs := by
  refine HC.frame (R := fun v => v = .str (wordL k)) (by rfl) (fun v h => by subst h; rfl) ?_
  by_cases hk : k < 1 ∨ 24 ≤ k
  · have hw : wordL k = [] := by unfold wordL; rw [if_pos hk]
    rw [hw]
    have hbu : hbuild (List.replicate 24 (.str [])) ((List.range 23).map fun i => (i + 1, 1, .str ((words[i + 1]?).getD []))) = some (.agg (words.map HV.str)) := by kernel_rfl
    simp only [words, List.map_cons, List.map_nil, List.replicate, List.range, List.range.loop, List.getElem?_cons_succ, List.getElem?_cons_zero, Option.getD_some, Nat.reduceAdd] at hbu
    refine HC.wp mixed Tryd.func35 c35 ?_
    rcases hk with hk | hk
    · have h1 : decide (k < 1) = true := by simpa using hk
      simp -implicitDefEqProofs (disch := first | omega | decide | rfl | exact Nat.le_of_ble_eq_true rfl | assumption) only [vwp_skip, vwp_ret, vwp_exit, vwp_lab, vwp_seq, vwp_cond, vwp_block, vwp_scope, vwp_region, vwp_draw, vwp_loop, vwp_range, vcnd_tt, vcnd_ff, vthen_normal, vthen_ret, vthen_exit, vblock_normal, vblock_ret, vblock_exit, vreg_nil, vreg_cons, vhl_nil, vhl_op, vhl_guard, vguard_tt, vguard_ff, vguard_tf, vguard_ft, vguard_no, vact_op, vop_some, vput_some, vput_none, vsame_sm, vunit_sm, vget_nil, vget_cons, vget_some,
    vo_mv, vo_bin, vo_un, vo_ext, vo_len, vo_idxS, vo_idxStr, vo_load, vo_pick, vo_append, vo_bslice, evp, vo_nilc, vo_faddr, vo_store, vo_sliceSl, vo_sliceStr, vo_cInt, vo_copy, vo_mkSlice, vo_box, vo_build, vo_b2s, vb2s_sl, vb2s_nil, vcInt, vnil_ptr, vo_mkMap, vo_mkfn, vo_lookup, vo_mapUpd, vo_del, vdel_some, vo_rangeMap, vo_entry, vfaddr_ptr, beq_self_eq_true, eq_self, decide_true, decide_false, vb_lss, vb_leq, vb_gtr, vb_geq, vb_eql, vb_neq, vb_seql, vb_sneq, vb_beql, vb_bneq, vun_not, vlen_str, vlen_sl, vlen_nil, vext_tup, HX.ev, List.length_cons, List.length_nil, List.append_nil, List.nil_append, List.cons_append, List.set_cons_succ, List.set_cons_zero, List.getElem?_cons_succ, List.getElem?_cons_zero, Option.getD_some, Option.map_some, Option.map_none, List.map_cons, List.map_nil, if_true, Bool.not_true, Bool.not_false, Bool.false_eq_true, if_false, va_load, va_ld, va_loadA, va_ldA, va_store, va_st1, va_stn, va_kill0, va_killS, va_box1, va_boxA, get_base, get_base0, set_base, set_base0, List.length_append, Nat.reduceAdd, Nat.zero_add, List.append_assoc, vo_s2b, vo_minmax, va_min2, va_max2, va_minl, List.drop_zero, List.drop_succ_cons, List.take_succ_cons, List.take_zero, h35, hbu, h1, vo_pick, List.all_cons, List.all_nil, HV.one, Bool.and_true, frame0, List.replicate, Nat.sub]
      exact ⟨rfl, _, rfl, rfl⟩
    · have h1 : decide (k < 1) = false := by simp; omega
      have h2 : decide (24 ≤ k) = true := by simpa using hk
      simp -implicitDefEqProofs (disch := first | omega | decide | rfl | exact Nat.le_of_ble_eq_true rfl | assumption) only [vwp_skip, vwp_ret, vwp_exit, vwp_lab, vwp_seq, vwp_cond, vwp_block, vwp_scope, vwp_region, vwp_draw, vwp_loop, vwp_range, vcnd_tt, vcnd_ff, vthen_normal, vthen_ret, vthen_exit, vblock_normal, vblock_ret, vblock_exit, vreg_nil, vreg_cons, vhl_nil, vhl_op, vhl_guard, vguard_tt, vguard_ff, vguard_tf, vguard_ft, vguard_no, vact_op, vop_some, vput_some, vput_none, vsame_sm, vunit_sm, vget_nil, vget_cons, vget_some,
    vo_mv, vo_bin, vo_un, vo_ext, vo_len, vo_idxS, vo_idxStr, vo_load, vo_pick, vo_append, vo_bslice, evp, vo_nilc, vo_faddr, vo_store, vo_sliceSl, vo_sliceStr, vo_cInt, vo_copy, vo_mkSlice, vo_box, vo_build, vo_b2s, vb2s_sl, vb2s_nil, vcInt, vnil_ptr, vo_mkMap, vo_mkfn, vo_lookup, vo_mapUpd, vo_del, vdel_some, vo_rangeMap, vo_entry, vfaddr_ptr, beq_self_eq_true, eq_self, decide_true, decide_false, vb_lss, vb_leq, vb_gtr, vb_geq, vb_eql, vb_neq, vb_seql, vb_sneq, vb_beql, vb_bneq, vun_not, vlen_str, vlen_sl, vlen_nil, vext_tup, HX.ev, List.length_cons, List.length_nil, List.append_nil, List.nil_append, List.cons_append, List.set_cons_succ, List.set_cons_zero, List.getElem?_cons_succ, List.getElem?_cons_zero, Option.getD_some, Option.map_some, Option.map_none, List.map_cons, List.map_nil, if_true, Bool.not_true, Bool.not_false, Bool.false_eq_true, if_false, va_load, va_ld, va_loadA, va_ldA, va_store, va_st1, va_stn, va_kill0, va_killS, va_box1, va_boxA, get_base, get_base0, set_base, set_base0, List.length_append, Nat.reduceAdd, Nat.zero_add, List.append_assoc, vo_s2b, vo_minmax, va_min2, va_max2, va_minl, List.drop_zero, List.drop_succ_cons, List.take_succ_cons, List.take_zero, h35, hbu, h1, h2, List.all_cons, List.all_nil, HV.one, Bool.and_true, vo_pick, frame0, List.replicate, Nat.sub]
      exact ⟨rfl, _, rfl, rfl⟩
  · have h := List.all_eq_true.1 word_runs k.toNat (by simp; omega)
    have hk' : ((k.toNat : Nat) : Int) = k := by omega
    rw [hk'] at h
    have hw : wordL k = (words[k.toNat]?).getD [] := by unfold wordL; rw [if_neg hk]
    rw [hw]
    split at h
    · rename_i v hs' hr
      have hv := HV.eqb_eq _ _ h
      subst hv
      exact (hcall_HC mixed F_ok X_ok (n := 60) rfl hr).mono fun v1 _ ⟨h1, _⟩ => h1
    · simp at h

/-- how many bytes the body of a kind may have. -/
def mostI (k : Int) : Int := if k = 16 then 4294967295 else 65535
theorem most36 (k : Int) (hs : HS) : HC Tryd.prog 36 [.int .i64 k] hs fun v hs' => v = .int .i64 (mostI k) ∧ hs' = hs := by
  refine HC.wp mixed Tryd.func36 c36 ?_
  obtain ⟨b, hb⟩ := exB (decide (k = 16))
  simp -implicitDefEqProofs (disch := first | omega | decide | rfl | exact Nat.le_of_ble_eq_true rfl | assumption) only [vwp_skip, vwp_ret, vwp_exit, vwp_lab, vwp_seq, vwp_cond, vwp_block, vwp_scope, vwp_region, vwp_draw, vwp_loop, vwp_range, vcnd_tt, vcnd_ff, vthen_normal, vthen_ret, vthen_exit, vblock_normal, vblock_ret, vblock_exit, vreg_nil, vreg_cons, vhl_nil, vhl_op, vhl_guard, vguard_tt, vguard_ff, vguard_tf, vguard_ft, vguard_no, vact_op, vop_some, vput_some, vput_none, vsame_sm, vunit_sm, vget_nil, vget_cons, vget_some,
    vo_mv, vo_bin, vo_un, vo_ext, vo_len, vo_idxS, vo_idxStr, vo_load, vo_pick, vo_append, vo_bslice, evp, vo_nilc, vo_faddr, vo_store, vo_sliceSl, vo_sliceStr, vo_cInt, vo_copy, vo_mkSlice, vo_box, vo_build, vo_b2s, vb2s_sl, vb2s_nil, vcInt, vnil_ptr, vo_mkMap, vo_mkfn, vo_lookup, vo_mapUpd, vo_del, vdel_some, vo_rangeMap, vo_entry, vfaddr_ptr, beq_self_eq_true, eq_self, decide_true, decide_false, vb_lss, vb_leq, vb_gtr, vb_geq, vb_eql, vb_neq, vb_seql, vb_sneq, vb_beql, vb_bneq, vun_not, vlen_str, vlen_sl, vlen_nil, vext_tup, HX.ev, List.length_cons, List.length_nil, List.append_nil, List.nil_append, List.cons_append, List.set_cons_succ, List.set_cons_zero, List.getElem?_cons_succ, List.getElem?_cons_zero, Option.getD_some, Option.map_some, Option.map_none, List.map_cons, List.map_nil, if_true, Bool.not_true, Bool.not_false, Bool.false_eq_true, if_false, va_load, va_ld, va_loadA, va_ldA, va_store, va_st1, va_stn, va_kill0, va_killS, va_box1, va_boxA, get_base, get_base0, set_base, set_base0, List.length_append, Nat.reduceAdd, Nat.zero_add, List.append_assoc, vo_s2b, vo_minmax, va_min2, va_max2, va_minl, List.drop_zero, List.drop_succ_cons, List.take_succ_cons, List.take_zero, h36, hb, frame0, List.replicate, Nat.sub]
  cases b
  · have : ¬ k = 16 := of_decide_eq_false hb
    simp -implicitDefEqProofs (disch := first | omega | decide | rfl | exact Nat.le_of_ble_eq_true rfl | assumption) only [vwp_skip, vwp_ret, vwp_exit, vwp_lab, vwp_seq, vwp_cond, vwp_block, vwp_scope, vwp_region, vwp_draw, vwp_loop, vwp_range, vcnd_tt, vcnd_ff, vthen_normal, vthen_ret, vthen_exit, vblock_normal, vblock_ret, vblock_exit, vreg_nil, vreg_cons, vhl_nil, vhl_op, vhl_guard, vguard_tt, vguard_ff, vguard_tf, vguard_ft, vguard_no, vact_op, vop_some, vput_some, vput_none, vsame_sm, vunit_sm, vget_nil, vget_cons, vget_some,
    vo_mv, vo_bin, vo_un, vo_ext, vo_len, vo_idxS, vo_idxStr, vo_load, vo_pick, vo_append, vo_bslice, evp, vo_nilc, vo_faddr, vo_store, vo_sliceSl, vo_sliceStr, vo_cInt, vo_copy, vo_mkSlice, vo_box, vo_build, vo_b2s, vb2s_sl, vb2s_nil, vcInt, vnil_ptr, vo_mkMap, vo_mkfn, vo_lookup, vo_mapUpd, vo_del, vdel_some, vo_rangeMap, vo_entry, vfaddr_ptr, beq_self_eq_true, eq_self, decide_true, decide_false, vb_lss, vb_leq, vb_gtr, vb_geq, vb_eql, vb_neq, vb_seql, vb_sneq, vb_beql, vb_bneq, vun_not, vlen_str, vlen_sl, vlen_nil, vext_tup, HX.ev, List.length_cons, List.length_nil, List.append_nil, List.nil_append, List.cons_append, List.set_cons_succ, List.set_cons_zero, List.getElem?_cons_succ, List.getElem?_cons_zero, Option.getD_some, Option.map_some, Option.map_none, List.map_cons, List.map_nil, if_true, Bool.not_true, Bool.not_false, Bool.false_eq_true, if_false, va_load, va_ld, va_loadA, va_ldA, va_store, va_st1, va_stn, va_kill0, va_killS, va_box1, va_boxA, get_base, get_base0, set_base, set_base0, List.length_append, Nat.reduceAdd, Nat.zero_add, List.append_assoc, vo_s2b, vo_minmax, va_min2, va_max2, va_minl, List.drop_zero, List.drop_succ_cons, List.take_succ_cons, List.take_zero]
    have e : mostI k = 65535 := by unfold mostI; rw [if_neg this]
    exact ⟨rfl, _, rfl, by rw [e]; rfl, trivial⟩
  · have : k = 16 := of_decide_eq_true hb
    simp -implicitDefEqProofs (disch := first | omega | decide | rfl | exact Nat.le_of_ble_eq_true rfl | assumption) only [vwp_skip, vwp_ret, vwp_exit, vwp_lab, vwp_seq, vwp_cond, vwp_block, vwp_scope, vwp_region, vwp_draw, vwp_loop, vwp_range, vcnd_tt, vcnd_ff, vthen_normal, vthen_ret, vthen_exit, vblock_normal, vblock_ret, vblock_exit, vreg_nil, vreg_cons, vhl_nil, vhl_op, vhl_guard, vguard_tt, vguard_ff, vguard_tf, vguard_ft, vguard_no, vact_op, vop_some, vput_some, vput_none, vsame_sm, vunit_sm, vget_nil, vget_cons, vget_some,
    vo_mv, vo_bin, vo_un, vo_ext, vo_len, vo_idxS, vo_idxStr, vo_load, vo_pick, vo_append, vo_bslice, evp, vo_nilc, vo_faddr, vo_store, vo_sliceSl, vo_sliceStr, vo_cInt, vo_copy, vo_mkSlice, vo_box, vo_build, vo_b2s, vb2s_sl, vb2s_nil, vcInt, vnil_ptr, vo_mkMap, vo_mkfn, vo_lookup, vo_mapUpd, vo_del, vdel_some, vo_rangeMap, vo_entry, vfaddr_ptr, beq_self_eq_true, eq_self, decide_true, decide_false, vb_lss, vb_leq, vb_gtr, vb_geq, vb_eql, vb_neq, vb_seql, vb_sneq, vb_beql, vb_bneq, vun_not, vlen_str, vlen_sl, vlen_nil, vext_tup, HX.ev, List.length_cons, List.length_nil, List.append_nil, List.nil_append, List.cons_append, List.set_cons_succ, List.set_cons_zero, List.getElem?_cons_succ, List.getElem?_cons_zero, Option.getD_some, Option.map_some, Option.map_none, List.map_cons, List.map_nil, if_true, Bool.not_true, Bool.not_false, Bool.false_eq_true, if_false, va_load, va_ld, va_loadA, va_ldA, va_store, va_st1, va_stn, va_kill0, va_killS, va_box1, va_boxA, get_base, get_base0, set_base, set_base0, List.length_append, Nat.reduceAdd, Nat.zero_add, List.append_assoc, vo_s2b, vo_minmax, va_min2, va_max2, va_minl, List.drop_zero, List.drop_succ_cons, List.take_succ_cons, List.take_zero]
    have e : mostI k = 4294967295 := by unfold mostI; rw [if_pos this]
    exact ⟨rfl, _, rfl, by rw [e]; rfl, trivial⟩

theorem valid37 (s : List UInt8) (hs : HS) : HC Tryd.prog 37 [.str s] hs fun v hs' => v = .bool (validL s) ∧ hs' = hs :=
  HC.frame (R := fun v => v = .bool (validL s)) rfl (fun v h => by subst h; rfl) (valid9 s)

/-! ### numbers -/
def powL : List Int := Lib.pow10Tab
theorem itoa53 {hs : HS} (ht : hasTab hs 1 .u64 Lib.pow10Tab = true) (n : Int) (h0 : -9223372036854775808 ≤ n) (h1 : n ≤ 9223372036854775807) : HCall Tryd.prog 53 [.int .i64 n] hs fun v hs' => v = .str (Lib.itoa n) ∧ hs' = hs :=
  xItoa_sound (g := 1) ok53 (by kernel_rfl)
    (fun n w h0 h1 ht => (Any.strconv_Itoa Tryd.laysM171 n h0 h1 w ht).mono fun e w' ⟨he, k, os, hw⟩ => ⟨he, hw ▸ Lib.below_grow _ w (Nat.le_refl _) k os⟩)
    (by
      have hc : hasTab hs 1 .u64 Lib.pow10Tab = true ∧ -9223372036854775808 ≤ n ∧ n ≤ 9223372036854775807 := ⟨ht, h0, h1⟩
      show (if _ then _ else _) = _
      rw [if_pos hc])
/-- a number, printed; nothing of one below 0. -/
def ansPr (n : Int) : List UInt8 := if n < 0 then [] else Lib.decDigits n.toNat
theorem print38 {hs : HS} (ht : hasTab hs 1 .u64 Lib.pow10Tab = true) (n : Int) (h0 : -9223372036854775808 ≤ n) (h1 : n ≤ 9223372036854775807) : HC Tryd.prog 38 [.int .i64 n] hs fun v hs' => v = .str (ansPr n) ∧ hs' = hs := by
  refine HC.wp mixed Tryd.func38 c38 ?_
  obtain ⟨b, hb⟩ := exB (decide (n < 0))
  simp -implicitDefEqProofs (disch := first | omega | decide | rfl | exact Nat.le_of_ble_eq_true rfl | assumption) only [vwp_skip, vwp_ret, vwp_exit, vwp_lab, vwp_seq, vwp_cond, vwp_block, vwp_scope, vwp_region, vwp_draw, vwp_loop, vwp_range, vcnd_tt, vcnd_ff, vthen_normal, vthen_ret, vthen_exit, vblock_normal, vblock_ret, vblock_exit, vreg_nil, vreg_cons, vhl_nil, vhl_op, vhl_guard, vguard_tt, vguard_ff, vguard_tf, vguard_ft, vguard_no, vact_op, vop_some, vput_some, vput_none, vsame_sm, vunit_sm, vget_nil, vget_cons, vget_some,
    vo_mv, vo_bin, vo_un, vo_ext, vo_len, vo_idxS, vo_idxStr, vo_load, vo_pick, vo_append, vo_bslice, evp, vo_nilc, vo_faddr, vo_store, vo_sliceSl, vo_sliceStr, vo_cInt, vo_copy, vo_mkSlice, vo_box, vo_build, vo_b2s, vb2s_sl, vb2s_nil, vcInt, vnil_ptr, vo_mkMap, vo_mkfn, vo_lookup, vo_mapUpd, vo_del, vdel_some, vo_rangeMap, vo_entry, vfaddr_ptr, beq_self_eq_true, eq_self, decide_true, decide_false, vb_lss, vb_leq, vb_gtr, vb_geq, vb_eql, vb_neq, vb_seql, vb_sneq, vb_beql, vb_bneq, vun_not, vlen_str, vlen_sl, vlen_nil, vext_tup, HX.ev, List.length_cons, List.length_nil, List.append_nil, List.nil_append, List.cons_append, List.set_cons_succ, List.set_cons_zero, List.getElem?_cons_succ, List.getElem?_cons_zero, Option.getD_some, Option.map_some, Option.map_none, List.map_cons, List.map_nil, if_true, Bool.not_true, Bool.not_false, Bool.false_eq_true, if_false, va_load, va_ld, va_loadA, va_ldA, va_store, va_st1, va_stn, va_kill0, va_killS, va_box1, va_boxA, get_base, get_base0, set_base, set_base0, List.length_append, Nat.reduceAdd, Nat.zero_add, List.append_assoc, vo_s2b, vo_minmax, va_min2, va_max2, va_minl, List.drop_zero, List.drop_succ_cons, List.take_succ_cons, List.take_zero, h38, hb, frame0, List.replicate, Nat.sub]
  cases b
  · have hn : ¬ n < 0 := of_decide_eq_false hb
    simp -implicitDefEqProofs (disch := first | omega | decide | rfl | exact Nat.le_of_ble_eq_true rfl | assumption) only [vwp_skip, vwp_ret, vwp_exit, vwp_lab, vwp_seq, vwp_cond, vwp_block, vwp_scope, vwp_region, vwp_draw, vwp_loop, vwp_range, vcnd_tt, vcnd_ff, vthen_normal, vthen_ret, vthen_exit, vblock_normal, vblock_ret, vblock_exit, vreg_nil, vreg_cons, vhl_nil, vhl_op, vhl_guard, vguard_tt, vguard_ff, vguard_tf, vguard_ft, vguard_no, vact_op, vop_some, vput_some, vput_none, vsame_sm, vunit_sm, vget_nil, vget_cons, vget_some,
    vo_mv, vo_bin, vo_un, vo_ext, vo_len, vo_idxS, vo_idxStr, vo_load, vo_pick, vo_append, vo_bslice, evp, vo_nilc, vo_faddr, vo_store, vo_sliceSl, vo_sliceStr, vo_cInt, vo_copy, vo_mkSlice, vo_box, vo_build, vo_b2s, vb2s_sl, vb2s_nil, vcInt, vnil_ptr, vo_mkMap, vo_mkfn, vo_lookup, vo_mapUpd, vo_del, vdel_some, vo_rangeMap, vo_entry, vfaddr_ptr, beq_self_eq_true, eq_self, decide_true, decide_false, vb_lss, vb_leq, vb_gtr, vb_geq, vb_eql, vb_neq, vb_seql, vb_sneq, vb_beql, vb_bneq, vun_not, vlen_str, vlen_sl, vlen_nil, vext_tup, HX.ev, List.length_cons, List.length_nil, List.append_nil, List.nil_append, List.cons_append, List.set_cons_succ, List.set_cons_zero, List.getElem?_cons_succ, List.getElem?_cons_zero, Option.getD_some, Option.map_some, Option.map_none, List.map_cons, List.map_nil, if_true, Bool.not_true, Bool.not_false, Bool.false_eq_true, if_false, va_load, va_ld, va_loadA, va_ldA, va_store, va_st1, va_stn, va_kill0, va_killS, va_box1, va_boxA, get_base, get_base0, set_base, set_base0, List.length_append, Nat.reduceAdd, Nat.zero_add, List.append_assoc, vo_s2b, vo_minmax, va_min2, va_max2, va_minl, List.drop_zero, List.drop_succ_cons, List.take_succ_cons, List.take_zero]
    refine vcall_ofC rfl (itoa53 ht n h0 h1) ?_
    rintro _ _ ⟨rfl, rfl⟩
    simp -implicitDefEqProofs (disch := first | omega | decide | rfl | exact Nat.le_of_ble_eq_true rfl | assumption) only [vwp_skip, vwp_ret, vwp_exit, vwp_lab, vwp_seq, vwp_cond, vwp_block, vwp_scope, vwp_region, vwp_draw, vwp_loop, vwp_range, vcnd_tt, vcnd_ff, vthen_normal, vthen_ret, vthen_exit, vblock_normal, vblock_ret, vblock_exit, vreg_nil, vreg_cons, vhl_nil, vhl_op, vhl_guard, vguard_tt, vguard_ff, vguard_tf, vguard_ft, vguard_no, vact_op, vop_some, vput_some, vput_none, vsame_sm, vunit_sm, vget_nil, vget_cons, vget_some,
    vo_mv, vo_bin, vo_un, vo_ext, vo_len, vo_idxS, vo_idxStr, vo_load, vo_pick, vo_append, vo_bslice, evp, vo_nilc, vo_faddr, vo_store, vo_sliceSl, vo_sliceStr, vo_cInt, vo_copy, vo_mkSlice, vo_box, vo_build, vo_b2s, vb2s_sl, vb2s_nil, vcInt, vnil_ptr, vo_mkMap, vo_mkfn, vo_lookup, vo_mapUpd, vo_del, vdel_some, vo_rangeMap, vo_entry, vfaddr_ptr, beq_self_eq_true, eq_self, decide_true, decide_false, vb_lss, vb_leq, vb_gtr, vb_geq, vb_eql, vb_neq, vb_seql, vb_sneq, vb_beql, vb_bneq, vun_not, vlen_str, vlen_sl, vlen_nil, vext_tup, HX.ev, List.length_cons, List.length_nil, List.append_nil, List.nil_append, List.cons_append, List.set_cons_succ, List.set_cons_zero, List.getElem?_cons_succ, List.getElem?_cons_zero, Option.getD_some, Option.map_some, Option.map_none, List.map_cons, List.map_nil, if_true, Bool.not_true, Bool.not_false, Bool.false_eq_true, if_false, va_load, va_ld, va_loadA, va_ldA, va_store, va_st1, va_stn, va_kill0, va_killS, va_box1, va_boxA, get_base, get_base0, set_base, set_base0, List.length_append, Nat.reduceAdd, Nat.zero_add, List.append_assoc, vo_s2b, vo_minmax, va_min2, va_max2, va_minl, List.drop_zero, List.drop_succ_cons, List.take_succ_cons, List.take_zero]
    have e : ansPr n = Lib.itoa n := by unfold ansPr Lib.itoa; rw [if_neg hn, if_neg hn]
    exact ⟨rfl, _, rfl, by rw [e]; rfl, trivial⟩
  · have hn : n < 0 := of_decide_eq_true hb
    simp -implicitDefEqProofs (disch := first | omega | decide | rfl | exact Nat.le_of_ble_eq_true rfl | assumption) only [vwp_skip, vwp_ret, vwp_exit, vwp_lab, vwp_seq, vwp_cond, vwp_block, vwp_scope, vwp_region, vwp_draw, vwp_loop, vwp_range, vcnd_tt, vcnd_ff, vthen_normal, vthen_ret, vthen_exit, vblock_normal, vblock_ret, vblock_exit, vreg_nil, vreg_cons, vhl_nil, vhl_op, vhl_guard, vguard_tt, vguard_ff, vguard_tf, vguard_ft, vguard_no, vact_op, vop_some, vput_some, vput_none, vsame_sm, vunit_sm, vget_nil, vget_cons, vget_some,
    vo_mv, vo_bin, vo_un, vo_ext, vo_len, vo_idxS, vo_idxStr, vo_load, vo_pick, vo_append, vo_bslice, evp, vo_nilc, vo_faddr, vo_store, vo_sliceSl, vo_sliceStr, vo_cInt, vo_copy, vo_mkSlice, vo_box, vo_build, vo_b2s, vb2s_sl, vb2s_nil, vcInt, vnil_ptr, vo_mkMap, vo_mkfn, vo_lookup, vo_mapUpd, vo_del, vdel_some, vo_rangeMap, vo_entry, vfaddr_ptr, beq_self_eq_true, eq_self, decide_true, decide_false, vb_lss, vb_leq, vb_gtr, vb_geq, vb_eql, vb_neq, vb_seql, vb_sneq, vb_beql, vb_bneq, vun_not, vlen_str, vlen_sl, vlen_nil, vext_tup, HX.ev, List.length_cons, List.length_nil, List.append_nil, List.nil_append, List.cons_append, List.set_cons_succ, List.set_cons_zero, List.getElem?_cons_succ, List.getElem?_cons_zero, Option.getD_some, Option.map_some, Option.map_none, List.map_cons, List.map_nil, if_true, Bool.not_true, Bool.not_false, Bool.false_eq_true, if_false, va_load, va_ld, va_loadA, va_ldA, va_store, va_st1, va_stn, va_kill0, va_killS, va_box1, va_boxA, get_base, get_base0, set_base, set_base0, List.length_append, Nat.reduceAdd, Nat.zero_add, List.append_assoc, vo_s2b, vo_minmax, va_min2, va_max2, va_minl, List.drop_zero, List.drop_succ_cons, List.take_succ_cons, List.take_zero]
    have e : ansPr n = [] := by unfold ansPr; rw [if_pos hn]
    exact ⟨rfl, _, rfl, by rw [e]; rfl, trivial⟩
end A
end Go.Proofs.YthihchoccpnfeaaDoor
