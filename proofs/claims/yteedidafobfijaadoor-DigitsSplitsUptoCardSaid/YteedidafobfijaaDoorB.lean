/-
  digits.words, same, beyond: what they answer at any list of texts.
-/
import Derived.Test.YteedidafobfijaaDoorF5
import Derived.Test.YteedidafobfijaaDoorW
import Derived.Test.YteedidafobfijaaDoorHLSl
namespace Go.Proofs.YteedidafobfijaaDoor
open Go Go.HL P5
namespace B
set_option maxRecDepth 100000
set_option maxHeartbeats 4000000
set_option linter.unusedSimpArgs false
theorem mixed : Tryd.prog.follows .mixedOrders = true := by kernel_rfl
theorem ok15 : okF Tryd.prog 15 := ⟨_, Tryd.func15, by kernel_rfl, by kernel_rfl⟩
theorem word (s : List UInt8) (hs : HS) : HC Tryd.prog 15 [.str s] hs fun v hs' => v = .bool (W.wordL s) ∧ hs' = hs := HC.frame (R := fun v => v = .bool (W.wordL s)) rfl (fun v h => by subst h; rfl) (W.word15 s)

def wordsL (ws : List (List UInt8)) : Bool := ws.all W.wordL && !ws.isEmpty
theorem wordsL_bad {ws : List (List UInt8)} {i : Nat} {w : List UInt8} (hw : ws[i]? = some w) (h : W.wordL w = false) : wordsL ws = false := by
  have : ws.all W.wordL = false := List.all_eq_false.2 ⟨w, List.mem_of_getElem? hw, by simp [h]⟩
  unfold wordsL; rw [this, Bool.false_and]
theorem wordsL_end {ws : List (List UInt8)} (h : ∀ (k : Nat) (w : List UInt8), ws[k]? = some w → W.wordL w = true) : wordsL ws = !ws.isEmpty := by
  have : ws.all W.wordL = true := List.all_eq_true.2 fun x hx => by
    obtain ⟨k, hk⟩ := List.getElem?_of_mem hx
    exact h k x hk
  unfold wordsL; rw [this, Bool.true_and]

theorem words (hs : HS) (v : HV) (ws : List (List UInt8)) (hS : SlAt hs v (ws.map HV.str)) (hb : ws.length < 4611686018427387904) : HC Tryd.prog 29 [v] hs fun r hs' => r = .bool (wordsL ws) ∧ hs' = hs := by
  have hlen := hS.len
  rw [List.length_map] at hlen
  refine HC.wp mixed Tryd.func29 c29 ?_
  simp (disch := first | omega | decide) only [vwp_skip, vwp_ret, vwp_exit, vwp_lab, vwp_seq, vwp_cond, vwp_block, vwp_scope, vwp_region, vwp_draw, vwp_loop, vcnd_tt, vcnd_ff, vthen_normal, vthen_ret, vthen_exit, vblock_normal, vblock_ret, vblock_exit, vreg_nil, vreg_cons, vhl_nil, vhl_op, vhl_guard, vguard_tt, vguard_ff, vguard_tf, vguard_ft, vguard_no, vact_op, vop_some, vput_some, vput_none, vsame_sm, vunit_sm, vget_nil, vget_cons, vget_some,
    vo_mv, vo_bin, vo_un, vo_ext, vo_len, vo_idxS, vo_idxStr, vo_load, vo_pick, vb_lss, vb_leq, vb_gtr, vb_geq, vb_eql, vb_neq, vb_seql, vb_sneq, vb_beql, vb_bneq, vun_not, vlen_str, vlen_sl, vlen_nil, vext_tup, frame0, HX.ev, List.length_cons, List.length_nil, List.replicate, Nat.sub, List.append_nil, List.nil_append, List.cons_append, List.set_cons_succ, List.set_cons_zero, List.getElem?_cons_succ, List.getElem?_cons_zero, Option.getD_some, Option.map_some, Option.map_none, List.map_cons, List.map_nil, if_true, Bool.not_true, Bool.not_false, Bool.false_eq_true, if_false, h29, hlen]
  refine HW.loopS mixed (fun i : Nat => [v, .undef, .bool false, .undef, .undef, v, .int .i64 (ws.length : Nat), .int .i64 (i : Nat), .undef, .undef, .undef, .undef, .undef, .undef, .undef, .undef, .undef, .undef]) (fun _ => hs) (fun i => ws.length - i)
    (fun i => i ≤ ws.length ∧ ∀ (k : Nat) (w : List UInt8), k < i → ws[k]? = some w → W.wordL w = true) 0 ⟨by omega, fun k w h => absurd h (by omega)⟩ rfl (by (repeat first | exact Less.nil | refine Less.undef _ ?_ | refine Less.keep _ ?_)) ?_
  rintro i ⟨hi, hpre⟩
  by_cases h : i < ws.length
  · have hw : ws[i]? = some ws[i] := List.getElem?_eq_getElem h
    obtain ⟨p, hp1, hp2⟩ := hS.idx (show (ws.map HV.str)[i]? = some (.str ws[i]) by rw [List.getElem?_map, hw]; rfl) .i64
    have hlt : decide ((i : Int) < (ws.length : Nat)) = true := by simp; omega
    simp (disch := first | omega | decide) only [vwp_skip, vwp_ret, vwp_exit, vwp_lab, vwp_seq, vwp_cond, vwp_block, vwp_scope, vwp_region, vwp_draw, vwp_loop, vcnd_tt, vcnd_ff, vthen_normal, vthen_ret, vthen_exit, vblock_normal, vblock_ret, vblock_exit, vreg_nil, vreg_cons, vhl_nil, vhl_op, vhl_guard, vguard_tt, vguard_ff, vguard_tf, vguard_ft, vguard_no, vact_op, vop_some, vput_some, vput_none, vsame_sm, vunit_sm, vget_nil, vget_cons, vget_some,
    vo_mv, vo_bin, vo_un, vo_ext, vo_len, vo_idxS, vo_idxStr, vo_load, vo_pick, vb_lss, vb_leq, vb_gtr, vb_geq, vb_eql, vb_neq, vb_seql, vb_sneq, vb_beql, vb_bneq, vun_not, vlen_str, vlen_sl, vlen_nil, vext_tup, frame0, HX.ev, List.length_cons, List.length_nil, List.replicate, Nat.sub, List.append_nil, List.nil_append, List.cons_append, List.set_cons_succ, List.set_cons_zero, List.getElem?_cons_succ, List.getElem?_cons_zero, Option.getD_some, Option.map_some, Option.map_none, List.map_cons, List.map_nil, if_true, Bool.not_true, Bool.not_false, Bool.false_eq_true, if_false, hlt, hS.sOk, hp1, hp2]
    refine vcall_of ok15 rfl (word ws[i] hs) ?_
    rintro _ _ ⟨rfl, rfl⟩
    cases hwd : W.wordL ws[i]
    · simp (disch := first | omega | decide) only [vwp_skip, vwp_ret, vwp_exit, vwp_lab, vwp_seq, vwp_cond, vwp_block, vwp_scope, vwp_region, vwp_draw, vwp_loop, vcnd_tt, vcnd_ff, vthen_normal, vthen_ret, vthen_exit, vblock_normal, vblock_ret, vblock_exit, vreg_nil, vreg_cons, vhl_nil, vhl_op, vhl_guard, vguard_tt, vguard_ff, vguard_tf, vguard_ft, vguard_no, vact_op, vop_some, vput_some, vput_none, vsame_sm, vunit_sm, vget_nil, vget_cons, vget_some,
    vo_mv, vo_bin, vo_un, vo_ext, vo_len, vo_idxS, vo_idxStr, vo_load, vo_pick, vb_lss, vb_leq, vb_gtr, vb_geq, vb_eql, vb_neq, vb_seql, vb_sneq, vb_beql, vb_bneq, vun_not, vlen_str, vlen_sl, vlen_nil, vext_tup, frame0, HX.ev, List.length_cons, List.length_nil, List.replicate, Nat.sub, List.append_nil, List.nil_append, List.cons_append, List.set_cons_succ, List.set_cons_zero, List.getElem?_cons_succ, List.getElem?_cons_zero, Option.getD_some, Option.map_some, Option.map_none, List.map_cons, List.map_nil, if_true, Bool.not_true, Bool.not_false, Bool.false_eq_true, if_false]
      exact ⟨rfl, _, rfl, by rw [wordsL_bad hw hwd]; rfl, trivial⟩
    · simp (disch := first | omega | decide) only [vwp_skip, vwp_ret, vwp_exit, vwp_lab, vwp_seq, vwp_cond, vwp_block, vwp_scope, vwp_region, vwp_draw, vwp_loop, vcnd_tt, vcnd_ff, vthen_normal, vthen_ret, vthen_exit, vblock_normal, vblock_ret, vblock_exit, vreg_nil, vreg_cons, vhl_nil, vhl_op, vhl_guard, vguard_tt, vguard_ff, vguard_tf, vguard_ft, vguard_no, vact_op, vop_some, vput_some, vput_none, vsame_sm, vunit_sm, vget_nil, vget_cons, vget_some,
    vo_mv, vo_bin, vo_un, vo_ext, vo_len, vo_idxS, vo_idxStr, vo_load, vo_pick, vb_lss, vb_leq, vb_gtr, vb_geq, vb_eql, vb_neq, vb_seql, vb_sneq, vb_beql, vb_bneq, vun_not, vlen_str, vlen_sl, vlen_nil, vext_tup, frame0, HX.ev, List.length_cons, List.length_nil, List.replicate, Nat.sub, List.append_nil, List.nil_append, List.cons_append, List.set_cons_succ, List.set_cons_zero, List.getElem?_cons_succ, List.getElem?_cons_zero, Option.getD_some, Option.map_some, Option.map_none, List.map_cons, List.map_nil, if_true, Bool.not_true, Bool.not_false, Bool.false_eq_true, if_false, vadd1]
      refine ⟨i + 1, by omega, ⟨by omega, fun k w hk hkw => ?_⟩, trivial, by (repeat first | exact Less.nil | refine Less.undef _ ?_ | refine Less.keep _ ?_)⟩
      rcases Nat.lt_or_ge k i with h1 | h1
      · exact hpre k w h1 hkw
      · obtain rfl : k = i := by omega
        rw [hw] at hkw; simp at hkw; subst hkw
        exact hwd
  · obtain rfl : i = ws.length := by omega
    have hlt : decide (((ws.length : Nat) : Int) < (ws.length : Nat)) = false := by simp
    simp (disch := first | omega | decide) only [vwp_skip, vwp_ret, vwp_exit, vwp_lab, vwp_seq, vwp_cond, vwp_block, vwp_scope, vwp_region, vwp_draw, vwp_loop, vcnd_tt, vcnd_ff, vthen_normal, vthen_ret, vthen_exit, vblock_normal, vblock_ret, vblock_exit, vreg_nil, vreg_cons, vhl_nil, vhl_op, vhl_guard, vguard_tt, vguard_ff, vguard_tf, vguard_ft, vguard_no, vact_op, vop_some, vput_some, vput_none, vsame_sm, vunit_sm, vget_nil, vget_cons, vget_some,
    vo_mv, vo_bin, vo_un, vo_ext, vo_len, vo_idxS, vo_idxStr, vo_load, vo_pick, vb_lss, vb_leq, vb_gtr, vb_geq, vb_eql, vb_neq, vb_seql, vb_sneq, vb_beql, vb_bneq, vun_not, vlen_str, vlen_sl, vlen_nil, vext_tup, frame0, HX.ev, List.length_cons, List.length_nil, List.replicate, Nat.sub, List.append_nil, List.nil_append, List.cons_append, List.set_cons_succ, List.set_cons_zero, List.getElem?_cons_succ, List.getElem?_cons_zero, Option.getD_some, Option.map_some, Option.map_none, List.map_cons, List.map_nil, if_true, Bool.not_true, Bool.not_false, Bool.false_eq_true, if_false, hlt, hlen]
    refine ⟨rfl, _, rfl, ?_, trivial⟩
    rw [wordsL_end fun k w hk => hpre k w (lt_of_get hk) hk]
    cases ws <;> simp

theorem same (hs : HS) (u v : HV) (xs ys : List (List UInt8)) (hU : SlAt hs u (xs.map HV.str)) (hV : SlAt hs v (ys.map HV.str)) (hb : xs.length < 4611686018427387904) :
    HC Tryd.prog 22 [u, v] hs fun r hs' => r = .bool (decide (xs = ys)) ∧ hs' = hs := by
  have hlu := hU.len
  have hlv := hV.len
  rw [List.length_map] at hlu hlv
  refine HC.wp mixed Tryd.func22 c22 ?_
  by_cases hl : xs.length = ys.length
  · have hd : decide ((xs.length : Int) = (ys.length : Nat)) = true := by simp; omega
    simp (disch := first | omega | decide) only [vwp_skip, vwp_ret, vwp_exit, vwp_lab, vwp_seq, vwp_cond, vwp_block, vwp_scope, vwp_region, vwp_draw, vwp_loop, vcnd_tt, vcnd_ff, vthen_normal, vthen_ret, vthen_exit, vblock_normal, vblock_ret, vblock_exit, vreg_nil, vreg_cons, vhl_nil, vhl_op, vhl_guard, vguard_tt, vguard_ff, vguard_tf, vguard_ft, vguard_no, vact_op, vop_some, vput_some, vput_none, vsame_sm, vunit_sm, vget_nil, vget_cons, vget_some,
    vo_mv, vo_bin, vo_un, vo_ext, vo_len, vo_idxS, vo_idxStr, vo_load, vo_pick, vb_lss, vb_leq, vb_gtr, vb_geq, vb_eql, vb_neq, vb_seql, vb_sneq, vb_beql, vb_bneq, vun_not, vlen_str, vlen_sl, vlen_nil, vext_tup, frame0, HX.ev, List.length_cons, List.length_nil, List.replicate, Nat.sub, List.append_nil, List.nil_append, List.cons_append, List.set_cons_succ, List.set_cons_zero, List.getElem?_cons_succ, List.getElem?_cons_zero, Option.getD_some, Option.map_some, Option.map_none, List.map_cons, List.map_nil, if_true, Bool.not_true, Bool.not_false, Bool.false_eq_true, if_false, h22, hlu, hlv, hd]
    refine HW.loopS mixed (fun i : Nat => [u, v, .undef, .undef, .bool false, .int .i64 (i : Nat), .undef, .undef, .undef, .undef, .undef, .undef, .undef, .undef, .undef, .undef, .undef, .undef, .undef, .undef, .undef, .undef, .undef, .undef, .undef, .undef]) (fun _ => hs) (fun i => xs.length - i)
      (fun i => i ≤ xs.length ∧ ∀ (k : Nat), k < i → xs[k]? = ys[k]?) 0 ⟨by omega, fun k h => absurd h (by omega)⟩ rfl (by (repeat first | exact Less.nil | refine Less.undef _ ?_ | refine Less.keep _ ?_)) ?_
    rintro i ⟨hi, hpre⟩
    by_cases h : i < xs.length
    · have hx : xs[i]? = some xs[i] := List.getElem?_eq_getElem h
      have hy : ys[i]? = some (ys[i]'(by omega)) := List.getElem?_eq_getElem (by omega)
      obtain ⟨p, hp1, hp2⟩ := hU.idx (show (xs.map HV.str)[i]? = some (.str xs[i]) by rw [List.getElem?_map, hx]; rfl) .i64
      obtain ⟨q, hq1, hq2⟩ := hV.idx (show (ys.map HV.str)[i]? = some (.str (ys[i]'(by omega))) by rw [List.getElem?_map, hy]; rfl) .i64
      have hlt : decide ((i : Int) < (xs.length : Nat)) = true := by simp; omega
      simp (disch := first | omega | decide) only [vwp_skip, vwp_ret, vwp_exit, vwp_lab, vwp_seq, vwp_cond, vwp_block, vwp_scope, vwp_region, vwp_draw, vwp_loop, vcnd_tt, vcnd_ff, vthen_normal, vthen_ret, vthen_exit, vblock_normal, vblock_ret, vblock_exit, vreg_nil, vreg_cons, vhl_nil, vhl_op, vhl_guard, vguard_tt, vguard_ff, vguard_tf, vguard_ft, vguard_no, vact_op, vop_some, vput_some, vput_none, vsame_sm, vunit_sm, vget_nil, vget_cons, vget_some,
    vo_mv, vo_bin, vo_un, vo_ext, vo_len, vo_idxS, vo_idxStr, vo_load, vo_pick, vb_lss, vb_leq, vb_gtr, vb_geq, vb_eql, vb_neq, vb_seql, vb_sneq, vb_beql, vb_bneq, vun_not, vlen_str, vlen_sl, vlen_nil, vext_tup, frame0, HX.ev, List.length_cons, List.length_nil, List.replicate, Nat.sub, List.append_nil, List.nil_append, List.cons_append, List.set_cons_succ, List.set_cons_zero, List.getElem?_cons_succ, List.getElem?_cons_zero, Option.getD_some, Option.map_some, Option.map_none, List.map_cons, List.map_nil, if_true, Bool.not_true, Bool.not_false, Bool.false_eq_true, if_false, hlt, hlu, hU.sOk, hV.sOk, hp1, hp2, hq1, hq2]
      cases hwd : (xs[i] == ys[i]'(by omega))
      · simp (disch := first | omega | decide) only [vwp_skip, vwp_ret, vwp_exit, vwp_lab, vwp_seq, vwp_cond, vwp_block, vwp_scope, vwp_region, vwp_draw, vwp_loop, vcnd_tt, vcnd_ff, vthen_normal, vthen_ret, vthen_exit, vblock_normal, vblock_ret, vblock_exit, vreg_nil, vreg_cons, vhl_nil, vhl_op, vhl_guard, vguard_tt, vguard_ff, vguard_tf, vguard_ft, vguard_no, vact_op, vop_some, vput_some, vput_none, vsame_sm, vunit_sm, vget_nil, vget_cons, vget_some,
    vo_mv, vo_bin, vo_un, vo_ext, vo_len, vo_idxS, vo_idxStr, vo_load, vo_pick, vb_lss, vb_leq, vb_gtr, vb_geq, vb_eql, vb_neq, vb_seql, vb_sneq, vb_beql, vb_bneq, vun_not, vlen_str, vlen_sl, vlen_nil, vext_tup, frame0, HX.ev, List.length_cons, List.length_nil, List.replicate, Nat.sub, List.append_nil, List.nil_append, List.cons_append, List.set_cons_succ, List.set_cons_zero, List.getElem?_cons_succ, List.getElem?_cons_zero, Option.getD_some, Option.map_some, Option.map_none, List.map_cons, List.map_nil, if_true, Bool.not_true, Bool.not_false, Bool.false_eq_true, if_false]
        refine ⟨rfl, _, rfl, ?_, trivial⟩
        have : xs ≠ ys := by
          intro he
          subst he
          simp at hwd
        simp [this]
      · simp (disch := first | omega | decide) only [vwp_skip, vwp_ret, vwp_exit, vwp_lab, vwp_seq, vwp_cond, vwp_block, vwp_scope, vwp_region, vwp_draw, vwp_loop, vcnd_tt, vcnd_ff, vthen_normal, vthen_ret, vthen_exit, vblock_normal, vblock_ret, vblock_exit, vreg_nil, vreg_cons, vhl_nil, vhl_op, vhl_guard, vguard_tt, vguard_ff, vguard_tf, vguard_ft, vguard_no, vact_op, vop_some, vput_some, vput_none, vsame_sm, vunit_sm, vget_nil, vget_cons, vget_some,
    vo_mv, vo_bin, vo_un, vo_ext, vo_len, vo_idxS, vo_idxStr, vo_load, vo_pick, vb_lss, vb_leq, vb_gtr, vb_geq, vb_eql, vb_neq, vb_seql, vb_sneq, vb_beql, vb_bneq, vun_not, vlen_str, vlen_sl, vlen_nil, vext_tup, frame0, HX.ev, List.length_cons, List.length_nil, List.replicate, Nat.sub, List.append_nil, List.nil_append, List.cons_append, List.set_cons_succ, List.set_cons_zero, List.getElem?_cons_succ, List.getElem?_cons_zero, Option.getD_some, Option.map_some, Option.map_none, List.map_cons, List.map_nil, if_true, Bool.not_true, Bool.not_false, Bool.false_eq_true, if_false, vadd1]
        refine ⟨i + 1, by omega, ⟨by omega, fun k hk => ?_⟩, trivial, by (repeat first | exact Less.nil | refine Less.undef _ ?_ | refine Less.keep _ ?_)⟩
        rcases Nat.lt_or_ge k i with h1 | h1
        · exact hpre k h1
        · obtain rfl : k = i := by omega
          rw [hx, hy]
          simp at hwd
          rw [hwd]
    · obtain rfl : i = xs.length := by omega
      have hlt : decide (((xs.length : Nat) : Int) < (xs.length : Nat)) = false := by simp
      simp (disch := first | omega | decide) only [vwp_skip, vwp_ret, vwp_exit, vwp_lab, vwp_seq, vwp_cond, vwp_block, vwp_scope, vwp_region, vwp_draw, vwp_loop, vcnd_tt, vcnd_ff, vthen_normal, vthen_ret, vthen_exit, vblock_normal, vblock_ret, vblock_exit, vreg_nil, vreg_cons, vhl_nil, vhl_op, vhl_guard, vguard_tt, vguard_ff, vguard_tf, vguard_ft, vguard_no, vact_op, vop_some, vput_some, vput_none, vsame_sm, vunit_sm, vget_nil, vget_cons, vget_some,
    vo_mv, vo_bin, vo_un, vo_ext, vo_len, vo_idxS, vo_idxStr, vo_load, vo_pick, vb_lss, vb_leq, vb_gtr, vb_geq, vb_eql, vb_neq, vb_seql, vb_sneq, vb_beql, vb_bneq, vun_not, vlen_str, vlen_sl, vlen_nil, vext_tup, frame0, HX.ev, List.length_cons, List.length_nil, List.replicate, Nat.sub, List.append_nil, List.nil_append, List.cons_append, List.set_cons_succ, List.set_cons_zero, List.getElem?_cons_succ, List.getElem?_cons_zero, Option.getD_some, Option.map_some, Option.map_none, List.map_cons, List.map_nil, if_true, Bool.not_true, Bool.not_false, Bool.false_eq_true, if_false, hlt, hlu]
      refine ⟨rfl, _, rfl, ?_, trivial⟩
      have : xs = ys := List.ext_getElem? fun k => by
        rcases Nat.lt_or_ge k xs.length with h1 | h1
        · exact hpre k h1
        · rw [List.getElem?_eq_none h1, List.getElem?_eq_none (by omega)]
      simp [this]
  · have hd : decide ((xs.length : Int) = (ys.length : Nat)) = false := by simp; omega
    simp (disch := first | omega | decide) only [vwp_skip, vwp_ret, vwp_exit, vwp_lab, vwp_seq, vwp_cond, vwp_block, vwp_scope, vwp_region, vwp_draw, vwp_loop, vcnd_tt, vcnd_ff, vthen_normal, vthen_ret, vthen_exit, vblock_normal, vblock_ret, vblock_exit, vreg_nil, vreg_cons, vhl_nil, vhl_op, vhl_guard, vguard_tt, vguard_ff, vguard_tf, vguard_ft, vguard_no, vact_op, vop_some, vput_some, vput_none, vsame_sm, vunit_sm, vget_nil, vget_cons, vget_some,
    vo_mv, vo_bin, vo_un, vo_ext, vo_len, vo_idxS, vo_idxStr, vo_load, vo_pick, vb_lss, vb_leq, vb_gtr, vb_geq, vb_eql, vb_neq, vb_seql, vb_sneq, vb_beql, vb_bneq, vun_not, vlen_str, vlen_sl, vlen_nil, vext_tup, frame0, HX.ev, List.length_cons, List.length_nil, List.replicate, Nat.sub, List.append_nil, List.nil_append, List.cons_append, List.set_cons_succ, List.set_cons_zero, List.getElem?_cons_succ, List.getElem?_cons_zero, Option.getD_some, Option.map_some, Option.map_none, List.map_cons, List.map_nil, if_true, Bool.not_true, Bool.not_false, Bool.false_eq_true, if_false, h22, hlu, hlv, hd]
    refine ⟨rfl, _, rfl, ?_, trivial⟩
    have : xs ≠ ys := fun he => hl (by rw [he])
    simp [this]

def sumL (ws : List (List UInt8)) : Nat := (ws.map fun w => w.length + 1).sum
theorem sumL_take {ws : List (List UInt8)} {i : Nat} {w : List UInt8} (h : ws[i]? = some w) : sumL (ws.take (i + 1)) = sumL (ws.take i) + (w.length + 1) := by
  unfold sumL
  rw [List.take_add_one, h]
  simp
theorem sumL_le (ws : List (List UInt8)) (i : Nat) : sumL (ws.take i) ≤ sumL ws := by
  have : sumL ws = sumL (ws.take i) + sumL (ws.drop i) := by unfold sumL; rw [← List.sum_append, ← List.map_append, List.take_append_drop]
  omega
theorem sumL_len (ws : List (List UInt8)) : ws.length ≤ sumL ws := by
  induction ws with
  | nil => simp [sumL]
  | cons w ws ih => simp only [sumL, List.map_cons, List.sum_cons, List.length_cons] at *; omega

theorem beyond (hs : HS) (v : HV) (ws : List (List UInt8)) (hS : SlAt hs v (ws.map HV.str)) (hb : sumL ws < 2147483647) : HC Tryd.prog 19 [v] hs fun r hs' => r = .bool false ∧ hs' = hs := by
  have hlen := hS.len
  rw [List.length_map] at hlen
  have hwl := sumL_len ws
  refine HC.wp mixed Tryd.func19 c19 ?_
  simp (disch := first | omega | decide) only [vwp_skip, vwp_ret, vwp_exit, vwp_lab, vwp_seq, vwp_cond, vwp_block, vwp_scope, vwp_region, vwp_draw, vwp_loop, vcnd_tt, vcnd_ff, vthen_normal, vthen_ret, vthen_exit, vblock_normal, vblock_ret, vblock_exit, vreg_nil, vreg_cons, vhl_nil, vhl_op, vhl_guard, vguard_tt, vguard_ff, vguard_tf, vguard_ft, vguard_no, vact_op, vop_some, vput_some, vput_none, vsame_sm, vunit_sm, vget_nil, vget_cons, vget_some,
    vo_mv, vo_bin, vo_un, vo_ext, vo_len, vo_idxS, vo_idxStr, vo_load, vo_pick, vb_lss, vb_leq, vb_gtr, vb_geq, vb_eql, vb_neq, vb_seql, vb_sneq, vb_beql, vb_bneq, vun_not, vlen_str, vlen_sl, vlen_nil, vext_tup, frame0, HX.ev, List.length_cons, List.length_nil, List.replicate, Nat.sub, List.append_nil, List.nil_append, List.cons_append, List.set_cons_succ, List.set_cons_zero, List.getElem?_cons_succ, List.getElem?_cons_zero, Option.getD_some, Option.map_some, Option.map_none, List.map_cons, List.map_nil, if_true, Bool.not_true, Bool.not_false, Bool.false_eq_true, if_false, h19]
  refine HW.loopS mixed (fun i : Nat => [v, .undef, .bool false, .int .i64 (sumL (ws.take i) : Nat), .int .i64 (i : Nat), .undef, .undef, .undef, .undef, .undef, .undef, .undef, .undef, .undef, .undef, .undef, .undef, .undef, .undef, .undef, .undef, .undef, .undef, .undef, .undef, .undef, .undef, .undef, .undef, .undef, .undef, .undef]) (fun _ => hs) (fun i => ws.length - i)
    (fun i => i ≤ ws.length) 0 (by omega) rfl (by (repeat first | exact Less.nil | refine Less.undef _ ?_ | refine Less.keep _ ?_)) ?_
  rintro i hi
  by_cases h : i < ws.length
  · have hw : ws[i]? = some ws[i] := List.getElem?_eq_getElem h
    obtain ⟨p, hp1, hp2⟩ := hS.idx (show (ws.map HV.str)[i]? = some (.str ws[i]) by rw [List.getElem?_map, hw]; rfl) .i64
    have hlt : decide ((i : Int) < (ws.length : Nat)) = true := by simp; omega
    have ht := sumL_take hw
    have hle := sumL_le ws (i + 1)
    have hge : decide ((2147483647 : Int) ≤ ((sumL (ws.take i) + 1 : Nat) : Int)) = false := by simp; omega
    have hgt : decide ((2147483647 : Int) - ((sumL (ws.take i) + 1 : Nat) : Int) < (ws[i].length : Nat)) = false := by simp; omega
    simp (disch := first | omega | decide) only [vwp_skip, vwp_ret, vwp_exit, vwp_lab, vwp_seq, vwp_cond, vwp_block, vwp_scope, vwp_region, vwp_draw, vwp_loop, vcnd_tt, vcnd_ff, vthen_normal, vthen_ret, vthen_exit, vblock_normal, vblock_ret, vblock_exit, vreg_nil, vreg_cons, vhl_nil, vhl_op, vhl_guard, vguard_tt, vguard_ff, vguard_tf, vguard_ft, vguard_no, vact_op, vop_some, vput_some, vput_none, vsame_sm, vunit_sm, vget_nil, vget_cons, vget_some,
    vo_mv, vo_bin, vo_un, vo_ext, vo_len, vo_idxS, vo_idxStr, vo_load, vo_pick, vb_lss, vb_leq, vb_gtr, vb_geq, vb_eql, vb_neq, vb_seql, vb_sneq, vb_beql, vb_bneq, vun_not, vlen_str, vlen_sl, vlen_nil, vext_tup, frame0, HX.ev, List.length_cons, List.length_nil, List.replicate, Nat.sub, List.append_nil, List.nil_append, List.cons_append, List.set_cons_succ, List.set_cons_zero, List.getElem?_cons_succ, List.getElem?_cons_zero, Option.getD_some, Option.map_some, Option.map_none, List.map_cons, List.map_nil, if_true, Bool.not_true, Bool.not_false, Bool.false_eq_true, if_false, hlt, hlen, hS.sOk, hp1, hp2, vadd1, hge, vb_sub, vwr_i64, hgt, vaddn]
    refine ⟨i + 1, by omega, by omega, trivial, ?_⟩
    rw [ht, ← Nat.add_assoc, Nat.add_right_comm]
    (repeat first | exact Less.nil | refine Less.undef _ ?_ | refine Less.keep _ ?_)
  · obtain rfl : i = ws.length := by omega
    have hlt : decide (((ws.length : Nat) : Int) < (ws.length : Nat)) = false := by simp
    simp (disch := first | omega | decide) only [vwp_skip, vwp_ret, vwp_exit, vwp_lab, vwp_seq, vwp_cond, vwp_block, vwp_scope, vwp_region, vwp_draw, vwp_loop, vcnd_tt, vcnd_ff, vthen_normal, vthen_ret, vthen_exit, vblock_normal, vblock_ret, vblock_exit, vreg_nil, vreg_cons, vhl_nil, vhl_op, vhl_guard, vguard_tt, vguard_ff, vguard_tf, vguard_ft, vguard_no, vact_op, vop_some, vput_some, vput_none, vsame_sm, vunit_sm, vget_nil, vget_cons, vget_some,
    vo_mv, vo_bin, vo_un, vo_ext, vo_len, vo_idxS, vo_idxStr, vo_load, vo_pick, vb_lss, vb_leq, vb_gtr, vb_geq, vb_eql, vb_neq, vb_seql, vb_sneq, vb_beql, vb_bneq, vun_not, vlen_str, vlen_sl, vlen_nil, vext_tup, frame0, HX.ev, List.length_cons, List.length_nil, List.replicate, Nat.sub, List.append_nil, List.nil_append, List.cons_append, List.set_cons_succ, List.set_cons_zero, List.getElem?_cons_succ, List.getElem?_cons_zero, Option.getD_some, Option.map_some, Option.map_none, List.map_cons, List.map_nil, if_true, Bool.not_true, Bool.not_false, Bool.false_eq_true, if_false, hlt, hlen]
    exact ⟨rfl, _, rfl, rfl, trivial⟩
end B
end Go.Proofs.YteedidafobfijaaDoor
