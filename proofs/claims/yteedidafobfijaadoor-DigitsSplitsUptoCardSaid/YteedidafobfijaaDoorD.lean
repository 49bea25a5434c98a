/-
  The law DigitsBack: what it answers, at any list of texts and any line that is not too long.
-/
import Derived.Test.YteedidafobfijaaDoorC
import Derived.Test.YteedidafobfijaaDoorD0
namespace Go.Proofs.YteedidafobfijaaDoor
open Go Go.HL P5
namespace B
set_option maxRecDepth 100000
set_option maxHeartbeats 4000000
set_option linter.unusedSimpArgs false
theorem ok10 : okF Tryd.prog 10 := ⟨_, Tryd.func10, by kernel_rfl, by kernel_rfl⟩
theorem ok19 : okF Tryd.prog 19 := ⟨_, Tryd.func19, by kernel_rfl, by kernel_rfl⟩
theorem ok20 : okF Tryd.prog 20 := ⟨_, Tryd.func20, by kernel_rfl, by kernel_rfl⟩
theorem ok22 : okF Tryd.prog 22 := ⟨_, Tryd.func22, by kernel_rfl, by kernel_rfl⟩
theorem ok23 : okF Tryd.prog 23 := ⟨_, Tryd.func23, by kernel_rfl, by kernel_rfl⟩

theorem beyond2 (hs : HS) (v : HV) (ws : List (List UInt8)) (hS : SlAt hs v (ws.map HV.str)) (hb : ws.length < 9223372036854775808) (hw : ∀ w ∈ ws, w.length < 9223372036854775808) :
    HC Tryd.prog 19 [v] hs fun r hs' => ∃ b, r = .bool b ∧ hs' = hs ∧ (b = false → sumL ws ≤ 2147483647) := by
  have hlen := hS.len
  rw [List.length_map] at hlen
  refine HC.wp mixed Tryd.func19 c19 ?_
  simp (disch := first | omega | decide) only [vwp_skip, vwp_ret, vwp_exit, vwp_lab, vwp_seq, vwp_cond, vwp_block, vwp_scope, vwp_region, vwp_draw, vwp_loop, vcnd_tt, vcnd_ff, vthen_normal, vthen_ret, vthen_exit, vblock_normal, vblock_ret, vblock_exit, vreg_nil, vreg_cons, vhl_nil, vhl_op, vhl_guard, vguard_tt, vguard_ff, vguard_tf, vguard_ft, vguard_no, vact_op, vop_some, vput_some, vput_none, vsame_sm, vunit_sm, vget_nil, vget_cons, vget_some,
    vo_mv, vo_bin, vo_un, vo_ext, vo_len, vo_idxS, vo_idxStr, vo_load, vo_pick, vb_lss, vb_leq, vb_gtr, vb_geq, vb_eql, vb_neq, vb_seql, vb_sneq, vb_beql, vb_bneq, vun_not, vlen_str, vlen_sl, vlen_nil, vext_tup, frame0, HX.ev, List.length_cons, List.length_nil, List.replicate, Nat.sub, List.append_nil, List.nil_append, List.cons_append, List.set_cons_succ, List.set_cons_zero, List.getElem?_cons_succ, List.getElem?_cons_zero, Option.getD_some, Option.map_some, Option.map_none, List.map_cons, List.map_nil, if_true, Bool.not_true, Bool.not_false, Bool.false_eq_true, if_false, h19]
  refine HW.loopS mixed (fun i : Nat => [v, .undef, .bool false, .int .i64 (sumL (ws.take i) : Nat), .int .i64 (i : Nat), .undef, .undef, .undef, .undef, .undef, .undef, .undef, .undef, .undef, .undef, .undef, .undef, .undef, .undef, .undef, .undef, .undef, .undef, .undef, .undef, .undef, .undef, .undef, .undef, .undef, .undef, .undef]) (fun _ => hs) (fun i => ws.length - i)
    (fun i => i ≤ ws.length ∧ sumL (ws.take i) ≤ 2147483647) 0 ⟨by omega, by simp [sumL]⟩ rfl (by (repeat first | exact Less.nil | refine Less.undef _ ?_ | refine Less.keep _ ?_)) ?_
  rintro i ⟨hi, hsum⟩
  by_cases h : i < ws.length
  · have hx : ws[i]? = some ws[i] := List.getElem?_eq_getElem h
    obtain ⟨p, hp1, hp2⟩ := hS.idx (show (ws.map HV.str)[i]? = some (.str ws[i]) by rw [List.getElem?_map, hx]; rfl) .i64
    have hlt : decide ((i : Int) < (ws.length : Nat)) = true := by simp; omega
    have ht := sumL_take hx
    have hwi := hw ws[i] (List.getElem_mem h)
    obtain ⟨b1, hge⟩ := exB (decide ((2147483647 : Int) ≤ ((sumL (ws.take i) + 1 : Nat) : Int)))
    obtain ⟨b2, hgt⟩ := exB (decide ((2147483647 : Int) - ((sumL (ws.take i) + 1 : Nat) : Int) < (ws[i].length : Nat)))
    cases b1
    · have hge' := of_decide_eq_false hge
      cases b2
      · have hgt' := of_decide_eq_false hgt
        simp (disch := first | omega | decide) only [vwp_skip, vwp_ret, vwp_exit, vwp_lab, vwp_seq, vwp_cond, vwp_block, vwp_scope, vwp_region, vwp_draw, vwp_loop, vcnd_tt, vcnd_ff, vthen_normal, vthen_ret, vthen_exit, vblock_normal, vblock_ret, vblock_exit, vreg_nil, vreg_cons, vhl_nil, vhl_op, vhl_guard, vguard_tt, vguard_ff, vguard_tf, vguard_ft, vguard_no, vact_op, vop_some, vput_some, vput_none, vsame_sm, vunit_sm, vget_nil, vget_cons, vget_some,
    vo_mv, vo_bin, vo_un, vo_ext, vo_len, vo_idxS, vo_idxStr, vo_load, vo_pick, vb_lss, vb_leq, vb_gtr, vb_geq, vb_eql, vb_neq, vb_seql, vb_sneq, vb_beql, vb_bneq, vun_not, vlen_str, vlen_sl, vlen_nil, vext_tup, frame0, HX.ev, List.length_cons, List.length_nil, List.replicate, Nat.sub, List.append_nil, List.nil_append, List.cons_append, List.set_cons_succ, List.set_cons_zero, List.getElem?_cons_succ, List.getElem?_cons_zero, Option.getD_some, Option.map_some, Option.map_none, List.map_cons, List.map_nil, if_true, Bool.not_true, Bool.not_false, Bool.false_eq_true, if_false, hlt, hlen, hS.sOk, hp1, hp2, vadd1, hge, vsubI, hgt, vaddn]
        refine ⟨i + 1, by omega, ⟨by omega, by omega⟩, trivial, ?_⟩
        rw [ht, ← Nat.add_assoc, Nat.add_right_comm]
        (repeat first | exact Less.nil | refine Less.undef _ ?_ | refine Less.keep _ ?_)
      · simp (disch := first | omega | decide) only [vwp_skip, vwp_ret, vwp_exit, vwp_lab, vwp_seq, vwp_cond, vwp_block, vwp_scope, vwp_region, vwp_draw, vwp_loop, vcnd_tt, vcnd_ff, vthen_normal, vthen_ret, vthen_exit, vblock_normal, vblock_ret, vblock_exit, vreg_nil, vreg_cons, vhl_nil, vhl_op, vhl_guard, vguard_tt, vguard_ff, vguard_tf, vguard_ft, vguard_no, vact_op, vop_some, vput_some, vput_none, vsame_sm, vunit_sm, vget_nil, vget_cons, vget_some,
    vo_mv, vo_bin, vo_un, vo_ext, vo_len, vo_idxS, vo_idxStr, vo_load, vo_pick, vb_lss, vb_leq, vb_gtr, vb_geq, vb_eql, vb_neq, vb_seql, vb_sneq, vb_beql, vb_bneq, vun_not, vlen_str, vlen_sl, vlen_nil, vext_tup, frame0, HX.ev, List.length_cons, List.length_nil, List.replicate, Nat.sub, List.append_nil, List.nil_append, List.cons_append, List.set_cons_succ, List.set_cons_zero, List.getElem?_cons_succ, List.getElem?_cons_zero, Option.getD_some, Option.map_some, Option.map_none, List.map_cons, List.map_nil, if_true, Bool.not_true, Bool.not_false, Bool.false_eq_true, if_false, hlt, hlen, hS.sOk, hp1, hp2, vadd1, hge, vsubI, hgt, vaddn]
        exact ⟨rfl, _, rfl, true, rfl, trivial, fun h => by simp at h⟩
    · simp (disch := first | omega | decide) only [vwp_skip, vwp_ret, vwp_exit, vwp_lab, vwp_seq, vwp_cond, vwp_block, vwp_scope, vwp_region, vwp_draw, vwp_loop, vcnd_tt, vcnd_ff, vthen_normal, vthen_ret, vthen_exit, vblock_normal, vblock_ret, vblock_exit, vreg_nil, vreg_cons, vhl_nil, vhl_op, vhl_guard, vguard_tt, vguard_ff, vguard_tf, vguard_ft, vguard_no, vact_op, vop_some, vput_some, vput_none, vsame_sm, vunit_sm, vget_nil, vget_cons, vget_some,
    vo_mv, vo_bin, vo_un, vo_ext, vo_len, vo_idxS, vo_idxStr, vo_load, vo_pick, vb_lss, vb_leq, vb_gtr, vb_geq, vb_eql, vb_neq, vb_seql, vb_sneq, vb_beql, vb_bneq, vun_not, vlen_str, vlen_sl, vlen_nil, vext_tup, frame0, HX.ev, List.length_cons, List.length_nil, List.replicate, Nat.sub, List.append_nil, List.nil_append, List.cons_append, List.set_cons_succ, List.set_cons_zero, List.getElem?_cons_succ, List.getElem?_cons_zero, Option.getD_some, Option.map_some, Option.map_none, List.map_cons, List.map_nil, if_true, Bool.not_true, Bool.not_false, Bool.false_eq_true, if_false, hlt, hlen, hS.sOk, hp1, hp2, vadd1, hge, vsubI, hgt, vaddn]
      exact ⟨rfl, _, rfl, true, rfl, trivial, fun h => by simp at h⟩
  · obtain rfl : i = ws.length := by omega
    have hlt : decide (((ws.length : Nat) : Int) < (ws.length : Nat)) = false := by simp
    simp (disch := first | omega | decide) only [vwp_skip, vwp_ret, vwp_exit, vwp_lab, vwp_seq, vwp_cond, vwp_block, vwp_scope, vwp_region, vwp_draw, vwp_loop, vcnd_tt, vcnd_ff, vthen_normal, vthen_ret, vthen_exit, vblock_normal, vblock_ret, vblock_exit, vreg_nil, vreg_cons, vhl_nil, vhl_op, vhl_guard, vguard_tt, vguard_ff, vguard_tf, vguard_ft, vguard_no, vact_op, vop_some, vput_some, vput_none, vsame_sm, vunit_sm, vget_nil, vget_cons, vget_some,
    vo_mv, vo_bin, vo_un, vo_ext, vo_len, vo_idxS, vo_idxStr, vo_load, vo_pick, vb_lss, vb_leq, vb_gtr, vb_geq, vb_eql, vb_neq, vb_seql, vb_sneq, vb_beql, vb_bneq, vun_not, vlen_str, vlen_sl, vlen_nil, vext_tup, frame0, HX.ev, List.length_cons, List.length_nil, List.replicate, Nat.sub, List.append_nil, List.nil_append, List.cons_append, List.set_cons_succ, List.set_cons_zero, List.getElem?_cons_succ, List.getElem?_cons_zero, Option.getD_some, Option.map_some, Option.map_none, List.map_cons, List.map_nil, if_true, Bool.not_true, Bool.not_false, Bool.false_eq_true, if_false, hlt, hlen]
    exact ⟨rfl, _, rfl, false, rfl, trivial, fun _ => by simpa using hsum⟩

/-- all words so far, and there is one. -/
def rightL (ws : List (List UInt8)) (i : Nat) : Bool := !ws.isEmpty && (ws.take i).all W.wordL
theorem rightL_next {ws : List (List UInt8)} {i : Nat} {w : List UInt8} (h : ws[i]? = some w) : rightL ws (i + 1) = (rightL ws i && W.wordL w) := by
  unfold rightL
  rw [List.take_add_one, h]
  simp [Bool.and_assoc]
theorem rightL_all (ws : List (List UInt8)) : rightL ws ws.length = wordsL ws := by
  unfold rightL wordsL
  rw [List.take_length, Bool.and_comm]

theorem law8 (b : Option HB) (v : HV) (ws : List (List UInt8)) (line : List UInt8) (hS : SlAt (hsA b) v (ws.map HV.str)) (hlen : ws.length < 4611686018427387904) (hw : ∀ w ∈ ws, w.length < 9223372036854775808) (hl : line.length < 2147483647) :
    HC Tryd.prog 8 [v, .str line] (hsA b) fun r _ => r = .bool true := by
  have hsl := hS.len
  rw [List.length_map] at hsl
  refine HC.wp mixed Tryd.func8 c8 ?_
  simp (disch := first | omega | decide) only [vwp_skip, vwp_ret, vwp_exit, vwp_lab, vwp_seq, vwp_cond, vwp_block, vwp_scope, vwp_region, vwp_draw, vwp_loop, vcnd_tt, vcnd_ff, vthen_normal, vthen_ret, vthen_exit, vblock_normal, vblock_ret, vblock_exit, vreg_nil, vreg_cons, vhl_nil, vhl_op, vhl_guard, vguard_tt, vguard_ff, vguard_tf, vguard_ft, vguard_no, vact_op, vop_some, vput_some, vput_none, vsame_sm, vunit_sm, vget_nil, vget_cons, vget_some,
    vo_mv, vo_bin, vo_un, vo_ext, vo_len, vo_idxS, vo_idxStr, vo_load, vo_pick, vb_lss, vb_leq, vb_gtr, vb_geq, vb_eql, vb_neq, vb_seql, vb_sneq, vb_beql, vb_bneq, vun_not, vlen_str, vlen_sl, vlen_nil, vext_tup, frame0, HX.ev, List.length_cons, List.length_nil, List.replicate, Nat.sub, List.append_nil, List.nil_append, List.cons_append, List.set_cons_succ, List.set_cons_zero, List.getElem?_cons_succ, List.getElem?_cons_zero, Option.getD_some, Option.map_some, Option.map_none, List.map_cons, List.map_nil, if_true, Bool.not_true, Bool.not_false, Bool.false_eq_true, if_false, h8]
  refine vcall_of ok19 rfl (beyond2 (hsA b) v ws hS (by omega) hw) ?_
  rintro _ _ ⟨bb, rfl, rfl, hbb⟩
  cases bb
  · have hsum := hbb rfl
    simp (disch := first | omega | decide) only [vwp_skip, vwp_ret, vwp_exit, vwp_lab, vwp_seq, vwp_cond, vwp_block, vwp_scope, vwp_region, vwp_draw, vwp_loop, vcnd_tt, vcnd_ff, vthen_normal, vthen_ret, vthen_exit, vblock_normal, vblock_ret, vblock_exit, vreg_nil, vreg_cons, vhl_nil, vhl_op, vhl_guard, vguard_tt, vguard_ff, vguard_tf, vguard_ft, vguard_no, vact_op, vop_some, vput_some, vput_none, vsame_sm, vunit_sm, vget_nil, vget_cons, vget_some,
    vo_mv, vo_bin, vo_un, vo_ext, vo_len, vo_idxS, vo_idxStr, vo_load, vo_pick, vb_lss, vb_leq, vb_gtr, vb_geq, vb_eql, vb_neq, vb_seql, vb_sneq, vb_beql, vb_bneq, vun_not, vlen_str, vlen_sl, vlen_nil, vext_tup, frame0, HX.ev, List.length_cons, List.length_nil, List.replicate, Nat.sub, List.append_nil, List.nil_append, List.cons_append, List.set_cons_succ, List.set_cons_zero, List.getElem?_cons_succ, List.getElem?_cons_zero, Option.getD_some, Option.map_some, Option.map_none, List.map_cons, List.map_nil, if_true, Bool.not_true, Bool.not_false, Bool.false_eq_true, if_false]
    refine vcall_of ok10 rfl (shownA b) ?_
    rintro _ _ ⟨rfl, rfl⟩
    simp (disch := first | omega | decide) only [vwp_skip, vwp_ret, vwp_exit, vwp_lab, vwp_seq, vwp_cond, vwp_block, vwp_scope, vwp_region, vwp_draw, vwp_loop, vcnd_tt, vcnd_ff, vthen_normal, vthen_ret, vthen_exit, vblock_normal, vblock_ret, vblock_exit, vreg_nil, vreg_cons, vhl_nil, vhl_op, vhl_guard, vguard_tt, vguard_ff, vguard_tf, vguard_ft, vguard_no, vact_op, vop_some, vput_some, vput_none, vsame_sm, vunit_sm, vget_nil, vget_cons, vget_some,
    vo_mv, vo_bin, vo_un, vo_ext, vo_len, vo_idxS, vo_idxStr, vo_load, vo_pick, vb_lss, vb_leq, vb_gtr, vb_geq, vb_eql, vb_neq, vb_seql, vb_sneq, vb_beql, vb_bneq, vun_not, vlen_str, vlen_sl, vlen_nil, vext_tup, frame0, HX.ev, List.length_cons, List.length_nil, List.replicate, Nat.sub, List.append_nil, List.nil_append, List.cons_append, List.set_cons_succ, List.set_cons_zero, List.getElem?_cons_succ, List.getElem?_cons_zero, Option.getD_some, Option.map_some, Option.map_none, List.map_cons, List.map_nil, if_true, Bool.not_true, Bool.not_false, Bool.false_eq_true, if_false, hsl]
    have h0 : decide ((0 : Int) < (ws.length : Nat)) = rightL ws 0 := by cases ws <;> simp [rightL]
    rw [h0]
    refine HW.loopS mixed (fun i : Nat => [v, .str line, .undef, .undef, .bool false, .bool true, .bool (rightL ws i), .int .i64 (i : Nat), .undef, .undef, .undef, .undef, .undef, .undef, .undef, .undef, .undef, .undef, .undef, .undef, .undef, .undef, .undef, .undef, .undef, .undef, .undef, .undef, .undef, .undef, .undef, .undef, .undef, .undef, .undef, .undef, .undef, .undef, .undef, .undef, .undef, .undef, .undef, .undef, .undef, .undef, .undef, .undef, .undef, .undef, .undef, .undef, .undef, .undef, .undef, .undef, .undef, .undef, .undef, .undef, .undef, .undef, .undef, .undef, .undef, .undef, .undef, .undef, .undef, .undef, .undef, .undef, .undef, .undef, .undef, .undef, .undef, .undef, .undef, .undef, .undef, .undef, .undef, .undef, .undef]) (fun _ => hsA b) (fun i => ws.length - i) (fun i => i ≤ ws.length) 0 (by omega) rfl (by (repeat first | exact Less.nil | refine Less.undef _ ?_ | refine Less.keep _ ?_)) ?_
    rintro i hi
    by_cases h : i < ws.length
    · have hx : ws[i]? = some ws[i] := List.getElem?_eq_getElem h
      obtain ⟨p, hp1, hp2⟩ := hS.idx (show (ws.map HV.str)[i]? = some (.str ws[i]) by rw [List.getElem?_map, hx]; rfl) .i64
      have hlt : decide ((i : Int) < (ws.length : Nat)) = true := by simp; omega
      have hn := rightL_next hx
      cases hr : rightL ws i
      · rw [hr] at hn
        simp (disch := first | omega | decide) only [vwp_skip, vwp_ret, vwp_exit, vwp_lab, vwp_seq, vwp_cond, vwp_block, vwp_scope, vwp_region, vwp_draw, vwp_loop, vcnd_tt, vcnd_ff, vthen_normal, vthen_ret, vthen_exit, vblock_normal, vblock_ret, vblock_exit, vreg_nil, vreg_cons, vhl_nil, vhl_op, vhl_guard, vguard_tt, vguard_ff, vguard_tf, vguard_ft, vguard_no, vact_op, vop_some, vput_some, vput_none, vsame_sm, vunit_sm, vget_nil, vget_cons, vget_some,
    vo_mv, vo_bin, vo_un, vo_ext, vo_len, vo_idxS, vo_idxStr, vo_load, vo_pick, vb_lss, vb_leq, vb_gtr, vb_geq, vb_eql, vb_neq, vb_seql, vb_sneq, vb_beql, vb_bneq, vun_not, vlen_str, vlen_sl, vlen_nil, vext_tup, frame0, HX.ev, List.length_cons, List.length_nil, List.replicate, Nat.sub, List.append_nil, List.nil_append, List.cons_append, List.set_cons_succ, List.set_cons_zero, List.getElem?_cons_succ, List.getElem?_cons_zero, Option.getD_some, Option.map_some, Option.map_none, List.map_cons, List.map_nil, if_true, Bool.not_true, Bool.not_false, Bool.false_eq_true, if_false, hlt, hsl, hr, hp1, hp2, hS.sOk, vadd1]
        refine ⟨i + 1, by omega, by omega, trivial, ?_⟩
        rw [hn, Bool.false_and]
        (repeat first | exact Less.nil | refine Less.undef _ ?_ | refine Less.keep _ ?_)
      · rw [hr] at hn
        simp (disch := first | omega | decide) only [vwp_skip, vwp_ret, vwp_exit, vwp_lab, vwp_seq, vwp_cond, vwp_block, vwp_scope, vwp_region, vwp_draw, vwp_loop, vcnd_tt, vcnd_ff, vthen_normal, vthen_ret, vthen_exit, vblock_normal, vblock_ret, vblock_exit, vreg_nil, vreg_cons, vhl_nil, vhl_op, vhl_guard, vguard_tt, vguard_ff, vguard_tf, vguard_ft, vguard_no, vact_op, vop_some, vput_some, vput_none, vsame_sm, vunit_sm, vget_nil, vget_cons, vget_some,
    vo_mv, vo_bin, vo_un, vo_ext, vo_len, vo_idxS, vo_idxStr, vo_load, vo_pick, vb_lss, vb_leq, vb_gtr, vb_geq, vb_eql, vb_neq, vb_seql, vb_sneq, vb_beql, vb_bneq, vun_not, vlen_str, vlen_sl, vlen_nil, vext_tup, frame0, HX.ev, List.length_cons, List.length_nil, List.replicate, Nat.sub, List.append_nil, List.nil_append, List.cons_append, List.set_cons_succ, List.set_cons_zero, List.getElem?_cons_succ, List.getElem?_cons_zero, Option.getD_some, Option.map_some, Option.map_none, List.map_cons, List.map_nil, if_true, Bool.not_true, Bool.not_false, Bool.false_eq_true, if_false, hlt, hsl, hr, hp1, hp2, hS.sOk]
        refine vcall_of ok15 rfl (word ws[i] (hsA b)) ?_
        rintro _ _ ⟨rfl, rfl⟩
        simp (disch := first | omega | decide) only [vwp_skip, vwp_ret, vwp_exit, vwp_lab, vwp_seq, vwp_cond, vwp_block, vwp_scope, vwp_region, vwp_draw, vwp_loop, vcnd_tt, vcnd_ff, vthen_normal, vthen_ret, vthen_exit, vblock_normal, vblock_ret, vblock_exit, vreg_nil, vreg_cons, vhl_nil, vhl_op, vhl_guard, vguard_tt, vguard_ff, vguard_tf, vguard_ft, vguard_no, vact_op, vop_some, vput_some, vput_none, vsame_sm, vunit_sm, vget_nil, vget_cons, vget_some,
    vo_mv, vo_bin, vo_un, vo_ext, vo_len, vo_idxS, vo_idxStr, vo_load, vo_pick, vb_lss, vb_leq, vb_gtr, vb_geq, vb_eql, vb_neq, vb_seql, vb_sneq, vb_beql, vb_bneq, vun_not, vlen_str, vlen_sl, vlen_nil, vext_tup, frame0, HX.ev, List.length_cons, List.length_nil, List.replicate, Nat.sub, List.append_nil, List.nil_append, List.cons_append, List.set_cons_succ, List.set_cons_zero, List.getElem?_cons_succ, List.getElem?_cons_zero, Option.getD_some, Option.map_some, Option.map_none, List.map_cons, List.map_nil, if_true, Bool.not_true, Bool.not_false, Bool.false_eq_true, if_false, hlt, hsl, hr, hp1, hp2, hS.sOk, vadd1]
        refine ⟨i + 1, by omega, by omega, trivial, ?_⟩
        rw [hn, Bool.true_and]
        (repeat first | exact Less.nil | refine Less.undef _ ?_ | refine Less.keep _ ?_)
    · obtain rfl : i = ws.length := by omega
      have hlt : decide (((ws.length : Nat) : Int) < (ws.length : Nat)) = false := by simp
      simp (disch := first | omega | decide) only [vwp_skip, vwp_ret, vwp_exit, vwp_lab, vwp_seq, vwp_cond, vwp_block, vwp_scope, vwp_region, vwp_draw, vwp_loop, vcnd_tt, vcnd_ff, vthen_normal, vthen_ret, vthen_exit, vblock_normal, vblock_ret, vblock_exit, vreg_nil, vreg_cons, vhl_nil, vhl_op, vhl_guard, vguard_tt, vguard_ff, vguard_tf, vguard_ft, vguard_no, vact_op, vop_some, vput_some, vput_none, vsame_sm, vunit_sm, vget_nil, vget_cons, vget_some,
    vo_mv, vo_bin, vo_un, vo_ext, vo_len, vo_idxS, vo_idxStr, vo_load, vo_pick, vb_lss, vb_leq, vb_gtr, vb_geq, vb_eql, vb_neq, vb_seql, vb_sneq, vb_beql, vb_bneq, vun_not, vlen_str, vlen_sl, vlen_nil, vext_tup, frame0, HX.ev, List.length_cons, List.length_nil, List.replicate, Nat.sub, List.append_nil, List.nil_append, List.cons_append, List.set_cons_succ, List.set_cons_zero, List.getElem?_cons_succ, List.getElem?_cons_zero, Option.getD_some, Option.map_some, Option.map_none, List.map_cons, List.map_nil, if_true, Bool.not_true, Bool.not_false, Bool.false_eq_true, if_false, hlt, hsl, rightL_all]
      refine vcall_of ok20 rfl (join20 (hsA b) v ws hS (by omega)) ?_
      rintro _ _ ⟨rfl, rfl⟩
      have last : ∀ (hs : HS) (hg : hs[2]? = some (some (.gint 1))), HC Tryd.prog 23 [.str line] hs fun r hs' => True := fun hs hg => (split23 hs line hg (by omega)).mono fun _ _ _ => trivial
      cases hwd : wordsL ws
      · simp (disch := first | omega | decide) only [vwp_skip, vwp_ret, vwp_exit, vwp_lab, vwp_seq, vwp_cond, vwp_block, vwp_scope, vwp_region, vwp_draw, vwp_loop, vcnd_tt, vcnd_ff, vthen_normal, vthen_ret, vthen_exit, vblock_normal, vblock_ret, vblock_exit, vreg_nil, vreg_cons, vhl_nil, vhl_op, vhl_guard, vguard_tt, vguard_ff, vguard_tf, vguard_ft, vguard_no, vact_op, vop_some, vput_some, vput_none, vsame_sm, vunit_sm, vget_nil, vget_cons, vget_some,
    vo_mv, vo_bin, vo_un, vo_ext, vo_len, vo_idxS, vo_idxStr, vo_load, vo_pick, vb_lss, vb_leq, vb_gtr, vb_geq, vb_eql, vb_neq, vb_seql, vb_sneq, vb_beql, vb_bneq, vun_not, vlen_str, vlen_sl, vlen_nil, vext_tup, frame0, HX.ev, List.length_cons, List.length_nil, List.replicate, Nat.sub, List.append_nil, List.nil_append, List.cons_append, List.set_cons_succ, List.set_cons_zero, List.getElem?_cons_succ, List.getElem?_cons_zero, Option.getD_some, Option.map_some, Option.map_none, List.map_cons, List.map_nil, if_true, Bool.not_true, Bool.not_false, Bool.false_eq_true, if_false, beq_self_eq_true]
        refine vcall_of ok23 rfl (split23 (hsA b) line rfl (by omega)) ?_
        rintro _ _ ⟨rfl, rfl⟩
        cases hwl : wordsL (pcs line)
        · simp (disch := first | omega | decide) only [vwp_skip, vwp_ret, vwp_exit, vwp_lab, vwp_seq, vwp_cond, vwp_block, vwp_scope, vwp_region, vwp_draw, vwp_loop, vcnd_tt, vcnd_ff, vthen_normal, vthen_ret, vthen_exit, vblock_normal, vblock_ret, vblock_exit, vreg_nil, vreg_cons, vhl_nil, vhl_op, vhl_guard, vguard_tt, vguard_ff, vguard_tf, vguard_ft, vguard_no, vact_op, vop_some, vput_some, vput_none, vsame_sm, vunit_sm, vget_nil, vget_cons, vget_some,
    vo_mv, vo_bin, vo_un, vo_ext, vo_len, vo_idxS, vo_idxStr, vo_load, vo_pick, vb_lss, vb_leq, vb_gtr, vb_geq, vb_eql, vb_neq, vb_seql, vb_sneq, vb_beql, vb_bneq, vun_not, vlen_str, vlen_sl, vlen_nil, vext_tup, frame0, HX.ev, List.length_cons, List.length_nil, List.replicate, Nat.sub, List.append_nil, List.nil_append, List.cons_append, List.set_cons_succ, List.set_cons_zero, List.getElem?_cons_succ, List.getElem?_cons_zero, Option.getD_some, Option.map_some, Option.map_none, List.map_cons, List.map_nil, if_true, Bool.not_true, Bool.not_false, Bool.false_eq_true, if_false]
          exact ⟨rfl, _, rfl, rfl⟩
        · simp (disch := first | omega | decide) only [vwp_skip, vwp_ret, vwp_exit, vwp_lab, vwp_seq, vwp_cond, vwp_block, vwp_scope, vwp_region, vwp_draw, vwp_loop, vcnd_tt, vcnd_ff, vthen_normal, vthen_ret, vthen_exit, vblock_normal, vblock_ret, vblock_exit, vreg_nil, vreg_cons, vhl_nil, vhl_op, vhl_guard, vguard_tt, vguard_ff, vguard_tf, vguard_ft, vguard_no, vact_op, vop_some, vput_some, vput_none, vsame_sm, vunit_sm, vget_nil, vget_cons, vget_some,
    vo_mv, vo_bin, vo_un, vo_ext, vo_len, vo_idxS, vo_idxStr, vo_load, vo_pick, vb_lss, vb_leq, vb_gtr, vb_geq, vb_eql, vb_neq, vb_seql, vb_sneq, vb_beql, vb_bneq, vun_not, vlen_str, vlen_sl, vlen_nil, vext_tup, frame0, HX.ev, List.length_cons, List.length_nil, List.replicate, Nat.sub, List.append_nil, List.nil_append, List.cons_append, List.set_cons_succ, List.set_cons_zero, List.getElem?_cons_succ, List.getElem?_cons_zero, Option.getD_some, Option.map_some, Option.map_none, List.map_cons, List.map_nil, if_true, Bool.not_true, Bool.not_false, Bool.false_eq_true, if_false]
          have hM := SlAt_new (hsA b) ((pcs line).map HV.str) false
          rw [List.length_map] at hM
          refine vcall_of ok20 rfl (join20 _ _ (pcs line) hM (by rw [sumL_pcs line]; omega)) ?_
          rintro _ _ ⟨rfl, rfl⟩
          have hJl : joinL (pcs line) = line := by simp [joinL, hwl, join_pcs]
          rw [hJl, hwl]
          simp (disch := first | omega | decide) only [vwp_skip, vwp_ret, vwp_exit, vwp_lab, vwp_seq, vwp_cond, vwp_block, vwp_scope, vwp_region, vwp_draw, vwp_loop, vcnd_tt, vcnd_ff, vthen_normal, vthen_ret, vthen_exit, vblock_normal, vblock_ret, vblock_exit, vreg_nil, vreg_cons, vhl_nil, vhl_op, vhl_guard, vguard_tt, vguard_ff, vguard_tf, vguard_ft, vguard_no, vact_op, vop_some, vput_some, vput_none, vsame_sm, vunit_sm, vget_nil, vget_cons, vget_some,
    vo_mv, vo_bin, vo_un, vo_ext, vo_len, vo_idxS, vo_idxStr, vo_load, vo_pick, vb_lss, vb_leq, vb_gtr, vb_geq, vb_eql, vb_neq, vb_seql, vb_sneq, vb_beql, vb_bneq, vun_not, vlen_str, vlen_sl, vlen_nil, vext_tup, frame0, HX.ev, List.length_cons, List.length_nil, List.replicate, Nat.sub, List.append_nil, List.nil_append, List.cons_append, List.set_cons_succ, List.set_cons_zero, List.getElem?_cons_succ, List.getElem?_cons_zero, Option.getD_some, Option.map_some, Option.map_none, List.map_cons, List.map_nil, if_true, Bool.not_true, Bool.not_false, Bool.false_eq_true, if_false]
          exact ⟨rfl, _, rfl, by simp⟩
      · simp (disch := first | omega | decide) only [vwp_skip, vwp_ret, vwp_exit, vwp_lab, vwp_seq, vwp_cond, vwp_block, vwp_scope, vwp_region, vwp_draw, vwp_loop, vcnd_tt, vcnd_ff, vthen_normal, vthen_ret, vthen_exit, vblock_normal, vblock_ret, vblock_exit, vreg_nil, vreg_cons, vhl_nil, vhl_op, vhl_guard, vguard_tt, vguard_ff, vguard_tf, vguard_ft, vguard_no, vact_op, vop_some, vput_some, vput_none, vsame_sm, vunit_sm, vget_nil, vget_cons, vget_some,
    vo_mv, vo_bin, vo_un, vo_ext, vo_len, vo_idxS, vo_idxStr, vo_load, vo_pick, vb_lss, vb_leq, vb_gtr, vb_geq, vb_eql, vb_neq, vb_seql, vb_sneq, vb_beql, vb_bneq, vun_not, vlen_str, vlen_sl, vlen_nil, vext_tup, frame0, HX.ev, List.length_cons, List.length_nil, List.replicate, Nat.sub, List.append_nil, List.nil_append, List.cons_append, List.set_cons_succ, List.set_cons_zero, List.getElem?_cons_succ, List.getElem?_cons_zero, Option.getD_some, Option.map_some, Option.map_none, List.map_cons, List.map_nil, if_true, Bool.not_true, Bool.not_false, Bool.false_eq_true, if_false, beq_self_eq_true]
        have hj := join_len ws
        have hJ : joinL ws = Lib.join ws [32] := by simp [joinL, hwd]
        refine vcall_of ok23 rfl (split23 (hsA b) (joinL ws) rfl (by rw [hJ]; omega)) ?_
        rintro _ _ ⟨rfl, rfl⟩
        have hback := wordsL_back hwd
        rw [← hJ] at hback
        rw [hback, hwd]
        simp (disch := first | omega | decide) only [vwp_skip, vwp_ret, vwp_exit, vwp_lab, vwp_seq, vwp_cond, vwp_block, vwp_scope, vwp_region, vwp_draw, vwp_loop, vcnd_tt, vcnd_ff, vthen_normal, vthen_ret, vthen_exit, vblock_normal, vblock_ret, vblock_exit, vreg_nil, vreg_cons, vhl_nil, vhl_op, vhl_guard, vguard_tt, vguard_ff, vguard_tf, vguard_ft, vguard_no, vact_op, vop_some, vput_some, vput_none, vsame_sm, vunit_sm, vget_nil, vget_cons, vget_some,
    vo_mv, vo_bin, vo_un, vo_ext, vo_len, vo_idxS, vo_idxStr, vo_load, vo_pick, vb_lss, vb_leq, vb_gtr, vb_geq, vb_eql, vb_neq, vb_seql, vb_sneq, vb_beql, vb_bneq, vun_not, vlen_str, vlen_sl, vlen_nil, vext_tup, frame0, HX.ev, List.length_cons, List.length_nil, List.replicate, Nat.sub, List.append_nil, List.nil_append, List.cons_append, List.set_cons_succ, List.set_cons_zero, List.getElem?_cons_succ, List.getElem?_cons_zero, Option.getD_some, Option.map_some, Option.map_none, List.map_cons, List.map_nil, if_true, Bool.not_true, Bool.not_false, Bool.false_eq_true, if_false]
        have hN := SlAt_new (hsA b) (ws.map HV.str) false
        rw [List.length_map] at hN
        refine vcall_of ok22 rfl (same _ _ v ws ws hN (hS.mono ⟨_, rfl⟩) hlen) ?_
        rintro _ _ ⟨rfl, rfl⟩
        rw [decide_eq_true rfl]
        simp (disch := first | omega | decide) only [vwp_skip, vwp_ret, vwp_exit, vwp_lab, vwp_seq, vwp_cond, vwp_block, vwp_scope, vwp_region, vwp_draw, vwp_loop, vcnd_tt, vcnd_ff, vthen_normal, vthen_ret, vthen_exit, vblock_normal, vblock_ret, vblock_exit, vreg_nil, vreg_cons, vhl_nil, vhl_op, vhl_guard, vguard_tt, vguard_ff, vguard_tf, vguard_ft, vguard_no, vact_op, vop_some, vput_some, vput_none, vsame_sm, vunit_sm, vget_nil, vget_cons, vget_some,
    vo_mv, vo_bin, vo_un, vo_ext, vo_len, vo_idxS, vo_idxStr, vo_load, vo_pick, vb_lss, vb_leq, vb_gtr, vb_geq, vb_eql, vb_neq, vb_seql, vb_sneq, vb_beql, vb_bneq, vun_not, vlen_str, vlen_sl, vlen_nil, vext_tup, frame0, HX.ev, List.length_cons, List.length_nil, List.replicate, Nat.sub, List.append_nil, List.nil_append, List.cons_append, List.set_cons_succ, List.set_cons_zero, List.getElem?_cons_succ, List.getElem?_cons_zero, Option.getD_some, Option.map_some, Option.map_none, List.map_cons, List.map_nil, if_true, Bool.not_true, Bool.not_false, Bool.false_eq_true, if_false]
        refine vcall_of ok23 rfl (split23 _ line rfl (by omega)) ?_
        rintro _ _ ⟨rfl, rfl⟩
        cases hwl : wordsL (pcs line)
        · simp (disch := first | omega | decide) only [vwp_skip, vwp_ret, vwp_exit, vwp_lab, vwp_seq, vwp_cond, vwp_block, vwp_scope, vwp_region, vwp_draw, vwp_loop, vcnd_tt, vcnd_ff, vthen_normal, vthen_ret, vthen_exit, vblock_normal, vblock_ret, vblock_exit, vreg_nil, vreg_cons, vhl_nil, vhl_op, vhl_guard, vguard_tt, vguard_ff, vguard_tf, vguard_ft, vguard_no, vact_op, vop_some, vput_some, vput_none, vsame_sm, vunit_sm, vget_nil, vget_cons, vget_some,
    vo_mv, vo_bin, vo_un, vo_ext, vo_len, vo_idxS, vo_idxStr, vo_load, vo_pick, vb_lss, vb_leq, vb_gtr, vb_geq, vb_eql, vb_neq, vb_seql, vb_sneq, vb_beql, vb_bneq, vun_not, vlen_str, vlen_sl, vlen_nil, vext_tup, frame0, HX.ev, List.length_cons, List.length_nil, List.replicate, Nat.sub, List.append_nil, List.nil_append, List.cons_append, List.set_cons_succ, List.set_cons_zero, List.getElem?_cons_succ, List.getElem?_cons_zero, Option.getD_some, Option.map_some, Option.map_none, List.map_cons, List.map_nil, if_true, Bool.not_true, Bool.not_false, Bool.false_eq_true, if_false]
          exact ⟨rfl, _, rfl, rfl⟩
        · simp (disch := first | omega | decide) only [vwp_skip, vwp_ret, vwp_exit, vwp_lab, vwp_seq, vwp_cond, vwp_block, vwp_scope, vwp_region, vwp_draw, vwp_loop, vcnd_tt, vcnd_ff, vthen_normal, vthen_ret, vthen_exit, vblock_normal, vblock_ret, vblock_exit, vreg_nil, vreg_cons, vhl_nil, vhl_op, vhl_guard, vguard_tt, vguard_ff, vguard_tf, vguard_ft, vguard_no, vact_op, vop_some, vput_some, vput_none, vsame_sm, vunit_sm, vget_nil, vget_cons, vget_some,
    vo_mv, vo_bin, vo_un, vo_ext, vo_len, vo_idxS, vo_idxStr, vo_load, vo_pick, vb_lss, vb_leq, vb_gtr, vb_geq, vb_eql, vb_neq, vb_seql, vb_sneq, vb_beql, vb_bneq, vun_not, vlen_str, vlen_sl, vlen_nil, vext_tup, frame0, HX.ev, List.length_cons, List.length_nil, List.replicate, Nat.sub, List.append_nil, List.nil_append, List.cons_append, List.set_cons_succ, List.set_cons_zero, List.getElem?_cons_succ, List.getElem?_cons_zero, Option.getD_some, Option.map_some, Option.map_none, List.map_cons, List.map_nil, if_true, Bool.not_true, Bool.not_false, Bool.false_eq_true, if_false]
          have hM := SlAt_new (hsA b ++ [some (.cells 1 (ws.map HV.str) false false [])]) ((pcs line).map HV.str) false
          rw [List.length_map] at hM
          refine vcall_of ok20 rfl (join20 _ _ (pcs line) hM (by rw [sumL_pcs line]; omega)) ?_
          rintro _ _ ⟨rfl, rfl⟩
          have hJl : joinL (pcs line) = line := by simp [joinL, hwl, join_pcs]
          rw [hJl, hwl]
          simp (disch := first | omega | decide) only [vwp_skip, vwp_ret, vwp_exit, vwp_lab, vwp_seq, vwp_cond, vwp_block, vwp_scope, vwp_region, vwp_draw, vwp_loop, vcnd_tt, vcnd_ff, vthen_normal, vthen_ret, vthen_exit, vblock_normal, vblock_ret, vblock_exit, vreg_nil, vreg_cons, vhl_nil, vhl_op, vhl_guard, vguard_tt, vguard_ff, vguard_tf, vguard_ft, vguard_no, vact_op, vop_some, vput_some, vput_none, vsame_sm, vunit_sm, vget_nil, vget_cons, vget_some,
    vo_mv, vo_bin, vo_un, vo_ext, vo_len, vo_idxS, vo_idxStr, vo_load, vo_pick, vb_lss, vb_leq, vb_gtr, vb_geq, vb_eql, vb_neq, vb_seql, vb_sneq, vb_beql, vb_bneq, vun_not, vlen_str, vlen_sl, vlen_nil, vext_tup, frame0, HX.ev, List.length_cons, List.length_nil, List.replicate, Nat.sub, List.append_nil, List.nil_append, List.cons_append, List.set_cons_succ, List.set_cons_zero, List.getElem?_cons_succ, List.getElem?_cons_zero, Option.getD_some, Option.map_some, Option.map_none, List.map_cons, List.map_nil, if_true, Bool.not_true, Bool.not_false, Bool.false_eq_true, if_false]
          exact ⟨rfl, _, rfl, by simp⟩
  · simp (disch := first | omega | decide) only [vwp_skip, vwp_ret, vwp_exit, vwp_lab, vwp_seq, vwp_cond, vwp_block, vwp_scope, vwp_region, vwp_draw, vwp_loop, vcnd_tt, vcnd_ff, vthen_normal, vthen_ret, vthen_exit, vblock_normal, vblock_ret, vblock_exit, vreg_nil, vreg_cons, vhl_nil, vhl_op, vhl_guard, vguard_tt, vguard_ff, vguard_tf, vguard_ft, vguard_no, vact_op, vop_some, vput_some, vput_none, vsame_sm, vunit_sm, vget_nil, vget_cons, vget_some,
    vo_mv, vo_bin, vo_un, vo_ext, vo_len, vo_idxS, vo_idxStr, vo_load, vo_pick, vb_lss, vb_leq, vb_gtr, vb_geq, vb_eql, vb_neq, vb_seql, vb_sneq, vb_beql, vb_bneq, vun_not, vlen_str, vlen_sl, vlen_nil, vext_tup, frame0, HX.ev, List.length_cons, List.length_nil, List.replicate, Nat.sub, List.append_nil, List.nil_append, List.cons_append, List.set_cons_succ, List.set_cons_zero, List.getElem?_cons_succ, List.getElem?_cons_zero, Option.getD_some, Option.map_some, Option.map_none, List.map_cons, List.map_nil, if_true, Bool.not_true, Bool.not_false, Bool.false_eq_true, if_false]
    exact ⟨rfl, _, rfl, rfl⟩
end B
end Go.Proofs.YteedidafobfijaaDoor
