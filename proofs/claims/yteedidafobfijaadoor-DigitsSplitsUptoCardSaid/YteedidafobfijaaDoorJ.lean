/-
  The reference's Join and the law DigitsJoins: what they answer, at any list of texts.
-/
import Derived.Test.YteedidafobfijaaDoorD
import Derived.Test.YteedidafobfijaaDoorHLOwn
namespace Go.Proofs.YteedidafobfijaaDoor
open Go Go.HL P5
namespace B
set_option maxRecDepth 100000
set_option maxHeartbeats 4000000
set_option linter.unusedSimpArgs false
theorem ok16 : okF Tryd.prog 16 := ⟨_, Tryd.func16, by kernel_rfl, by kernel_rfl⟩
theorem ok21 : okF Tryd.prog 21 := ⟨_, Tryd.func21, by kernel_rfl, by kernel_rfl⟩
theorem ref16 (s : List UInt8) (hl : s.length < 9223372036854775808) (hs : HS) : HC Tryd.prog 16 [.str s] hs fun v hs' => v = .bool (W.wordL s) ∧ hs' = hs := W.ref16' s hl hs

/-- the words, joined, so far. -/
def pre (ws : List (List UInt8)) (i : Nat) : List UInt8 := Lib.join (ws.take i) [32]
theorem join_snoc : ∀ (ws : List (List UInt8)) (w : List UInt8), Lib.join (ws ++ [w]) [32] = if ws = [] then w else Lib.join ws [32] ++ [32] ++ w
  | [], w => by simp [Lib.join_one]
  | x :: r, w => by
    rw [List.cons_append, Lib.join_cons, Lib.join_cons, if_neg (by simp)]
    simp [Lib.joinTail]
theorem pre_next {ws : List (List UInt8)} {i : Nat} {w : List UInt8} (h : ws[i]? = some w) : pre ws (i + 1) = if i = 0 then w else pre ws i ++ [32] ++ w := by
  unfold pre
  rw [List.take_add_one, h, Option.toList_some, join_snoc]
  have : (ws.take i = []) ↔ i = 0 := by
    have := lt_of_get h
    constructor
    · intro h0
      have := congrArg List.length h0
      simp at this
      rcases this with h1 | h1
      · exact h1
      · subst h1; simp at h
    · rintro rfl; simp
  by_cases h0 : i = 0
  · rw [if_pos h0, if_pos (this.2 h0)]
  · rw [if_neg h0, if_neg (fun x => h0 (this.1 x))]
theorem pre_le (ws : List (List UInt8)) (i : Nat) : (pre ws i).length ≤ sumL ws := Nat.le_trans (join_len _) (sumL_le ws i)

theorem refJoin (hs : HS) (v : HV) (ws : List (List UInt8)) (hS : SlAt hs v (ws.map HV.str)) (hb : sumL ws < 2147483648) :
    HC Tryd.prog 21 [v] hs fun r hs' => r = .tup [.str (joinL ws), .bool (wordsL ws)] ∧ Keeps hs.length hs hs' := by
  have hwl := sumL_len ws
  have hlen := hS.len
  rw [List.length_map] at hlen
  refine HC.wp mixed Tryd.func21 c21 ?_
  by_cases h0 : ws.length = 0
  · have hd : decide (((ws.length : Nat) : Int) = 0) = true := by simp; exact List.eq_nil_of_length_eq_zero h0
    simp (disch := first | omega | decide) only [vwp_skip, vwp_ret, vwp_exit, vwp_lab, vwp_seq, vwp_cond, vwp_block, vwp_scope, vwp_region, vwp_draw, vwp_loop, vcnd_tt, vcnd_ff, vthen_normal, vthen_ret, vthen_exit, vblock_normal, vblock_ret, vblock_exit, vreg_nil, vreg_cons, vhl_nil, vhl_op, vhl_guard, vguard_tt, vguard_ff, vguard_tf, vguard_ft, vguard_no, vact_op, vop_some, vput_some, vput_none, vsame_sm, vunit_sm, vget_nil, vget_cons, vget_some,
    vo_mv, vo_bin, vo_un, vo_ext, vo_len, vo_idxS, vo_idxStr, vo_load, vo_pick, vb_lss, vb_leq, vb_gtr, vb_geq, vb_eql, vb_neq, vb_seql, vb_sneq, vb_beql, vb_bneq, vun_not, vlen_str, vlen_sl, vlen_nil, vext_tup, frame0, HX.ev, List.length_cons, List.length_nil, List.replicate, Nat.sub, List.append_nil, List.nil_append, List.cons_append, List.set_cons_succ, List.set_cons_zero, List.getElem?_cons_succ, List.getElem?_cons_zero, Option.getD_some, Option.map_some, Option.map_none, List.map_cons, List.map_nil, if_true, Bool.not_true, Bool.not_false, Bool.false_eq_true, if_false, h21, hlen, hd]
    obtain rfl := List.eq_nil_of_length_eq_zero h0
    exact ⟨rfl, _, rfl, rfl, Keeps.refl (Nat.le_refl _)⟩
  · have hd : decide (((ws.length : Nat) : Int) = 0) = false := by simp; intro h; subst h; simp at h0
    have hbs : hbuildSlice hs 1 0 [] [] = some (.slice hs.length 0 0 (some 0), hs ++ [some (.cells 1 [] false false [])]) := rfl
    simp (disch := first | omega | decide) only [vwp_skip, vwp_ret, vwp_exit, vwp_lab, vwp_seq, vwp_cond, vwp_block, vwp_scope, vwp_region, vwp_draw, vwp_loop, vcnd_tt, vcnd_ff, vthen_normal, vthen_ret, vthen_exit, vblock_normal, vblock_ret, vblock_exit, vreg_nil, vreg_cons, vhl_nil, vhl_op, vhl_guard, vguard_tt, vguard_ff, vguard_tf, vguard_ft, vguard_no, vact_op, vop_some, vput_some, vput_none, vsame_sm, vunit_sm, vget_nil, vget_cons, vget_some,
    vo_mv, vo_bin, vo_un, vo_ext, vo_len, vo_idxS, vo_idxStr, vo_load, vo_pick, vb_lss, vb_leq, vb_gtr, vb_geq, vb_eql, vb_neq, vb_seql, vb_sneq, vb_beql, vb_bneq, vun_not, vlen_str, vlen_sl, vlen_nil, vext_tup, frame0, HX.ev, List.length_cons, List.length_nil, List.replicate, Nat.sub, List.append_nil, List.nil_append, List.cons_append, List.set_cons_succ, List.set_cons_zero, List.getElem?_cons_succ, List.getElem?_cons_zero, Option.getD_some, Option.map_some, Option.map_none, List.map_cons, List.map_nil, if_true, Bool.not_true, Bool.not_false, Bool.false_eq_true, if_false, h21, hlen, hd, vo_bslice, evp, hbs]
    refine HW.loopS (σ := Nat × HV × HS) mixed (fun s => [v, .undef, .str [], .bool false, s.2.1, .int .i64 (s.1 : Nat), .undef, .undef, .undef, .undef, .undef, .undef, .undef, .undef, .undef, .undef, .undef, .undef, .undef, .undef, .undef, .undef, .undef, .undef, .undef, .undef, .undef, .undef, .undef, .undef, .undef, .undef, .undef, .undef, .undef]) (fun s => s.2.2) (fun s => ws.length - s.1)
      (fun s => s.1 ≤ ws.length ∧ Keeps hs.length hs s.2.2 ∧ OwnSl hs.length s.2.2 1 s.2.1 (pre ws s.1).length (bcells (pre ws s.1)) ∧ ∀ (k : Nat) (w : List UInt8), k < s.1 → ws[k]? = some w → W.wordL w = true)
      (0, .slice hs.length 0 0 (some 0), hs ++ [some (.cells 1 [] false false [])]) ⟨by simp, Keeps.app (Nat.le_refl _), OwnSl.empty (ro := false) (opn := false) (olds := []) (by simp), fun k w h => absurd h (by simp)⟩ rfl (by (repeat first | exact Less.nil | refine Less.undef _ ?_ | refine Less.keep _ ?_)) ?_
    rintro ⟨i, u, g⟩ ⟨hi, hk, ho, hpre⟩
    simp only at hi hk ho hpre ⊢
    have hSg := hS.keep (Nat.le_refl _) hk
    have hleng := hSg.len
    rw [List.length_map] at hleng
    by_cases h : i < ws.length
    · have hx : ws[i]? = some ws[i] := List.getElem?_eq_getElem h
      obtain ⟨p, hp1, hp2⟩ := hSg.idx (show (ws.map HV.str)[i]? = some (.str ws[i]) by rw [List.getElem?_map, hx]; rfl) .i64
      have hlt : decide ((i : Int) < (ws.length : Nat)) = true := by simp; omega
      have hsum := sumL_take hx
      have hle := sumL_le ws (i + 1)
      simp (disch := first | omega | decide) only [vwp_skip, vwp_ret, vwp_exit, vwp_lab, vwp_seq, vwp_cond, vwp_block, vwp_scope, vwp_region, vwp_draw, vwp_loop, vcnd_tt, vcnd_ff, vthen_normal, vthen_ret, vthen_exit, vblock_normal, vblock_ret, vblock_exit, vreg_nil, vreg_cons, vhl_nil, vhl_op, vhl_guard, vguard_tt, vguard_ff, vguard_tf, vguard_ft, vguard_no, vact_op, vop_some, vput_some, vput_none, vsame_sm, vunit_sm, vget_nil, vget_cons, vget_some,
    vo_mv, vo_bin, vo_un, vo_ext, vo_len, vo_idxS, vo_idxStr, vo_load, vo_pick, vb_lss, vb_leq, vb_gtr, vb_geq, vb_eql, vb_neq, vb_seql, vb_sneq, vb_beql, vb_bneq, vun_not, vlen_str, vlen_sl, vlen_nil, vext_tup, frame0, HX.ev, List.length_cons, List.length_nil, List.replicate, Nat.sub, List.append_nil, List.nil_append, List.cons_append, List.set_cons_succ, List.set_cons_zero, List.getElem?_cons_succ, List.getElem?_cons_zero, Option.getD_some, Option.map_some, Option.map_none, List.map_cons, List.map_nil, if_true, Bool.not_true, Bool.not_false, Bool.false_eq_true, if_false, hlt, hleng, hSg.sOk, hp1, hp2]
      refine vcall_of ok16 rfl (ref16 ws[i] (by omega) g) ?_
      rintro _ g ⟨rfl, rfl⟩
      cases hwd : W.wordL ws[i]
      · simp (disch := first | omega | decide) only [vwp_skip, vwp_ret, vwp_exit, vwp_lab, vwp_seq, vwp_cond, vwp_block, vwp_scope, vwp_region, vwp_draw, vwp_loop, vcnd_tt, vcnd_ff, vthen_normal, vthen_ret, vthen_exit, vblock_normal, vblock_ret, vblock_exit, vreg_nil, vreg_cons, vhl_nil, vhl_op, vhl_guard, vguard_tt, vguard_ff, vguard_tf, vguard_ft, vguard_no, vact_op, vop_some, vput_some, vput_none, vsame_sm, vunit_sm, vget_nil, vget_cons, vget_some,
    vo_mv, vo_bin, vo_un, vo_ext, vo_len, vo_idxS, vo_idxStr, vo_load, vo_pick, vb_lss, vb_leq, vb_gtr, vb_geq, vb_eql, vb_neq, vb_seql, vb_sneq, vb_beql, vb_bneq, vun_not, vlen_str, vlen_sl, vlen_nil, vext_tup, frame0, HX.ev, List.length_cons, List.length_nil, List.replicate, Nat.sub, List.append_nil, List.nil_append, List.cons_append, List.set_cons_succ, List.set_cons_zero, List.getElem?_cons_succ, List.getElem?_cons_zero, Option.getD_some, Option.map_some, Option.map_none, List.map_cons, List.map_nil, if_true, Bool.not_true, Bool.not_false, Bool.false_eq_true, if_false]
        exact ⟨rfl, _, rfl, by rw [wordsL_bad hx hwd]; simp [joinL, wordsL_bad hx hwd], hk⟩
      · have hnext := pre_next hx
        have hpl := pre_le ws (i + 1)
        have hmax : maxLen = 9223372036854775807 := rfl
        have hall : ∀ (k : Nat) (w : List UInt8), k < i + 1 → ws[k]? = some w → W.wordL w = true := fun k w hk hkw => by
          rcases Nat.lt_or_ge k i with h1 | h1
          · exact hpre k w h1 hkw
          · obtain rfl : k = i := by omega
            rw [hx] at hkw; simp at hkw; subst hkw
            exact hwd
        by_cases hi0 : i = 0
        · subst hi0
          have hg0 : decide ((0 : Int) < ((0 : Nat) : Int)) = false := by simp
          have hp0 : pre ws 0 = [] := by simp [pre, Lib.join_nil]
          rw [if_pos rfl] at hnext
          rw [hp0] at ho
          rw [hnext] at hpl
          obtain ⟨u2, g2, ha, ho2, hk2⟩ := OwnSl.app (bytes := 1) ho hk.1 (take_str _ ws[0]) (by rw [bcells_length]; omega) (by simp only [List.length_nil]; omega) (by simp only [List.length_nil]; omega)
          simp (disch := first | omega | decide) only [vwp_skip, vwp_ret, vwp_exit, vwp_lab, vwp_seq, vwp_cond, vwp_block, vwp_scope, vwp_region, vwp_draw, vwp_loop, vcnd_tt, vcnd_ff, vthen_normal, vthen_ret, vthen_exit, vblock_normal, vblock_ret, vblock_exit, vreg_nil, vreg_cons, vhl_nil, vhl_op, vhl_guard, vguard_tt, vguard_ff, vguard_tf, vguard_ft, vguard_no, vact_op, vop_some, vput_some, vput_none, vsame_sm, vunit_sm, vget_nil, vget_cons, vget_some,
    vo_mv, vo_bin, vo_un, vo_ext, vo_len, vo_idxS, vo_idxStr, vo_load, vo_pick, vb_lss, vb_leq, vb_gtr, vb_geq, vb_eql, vb_neq, vb_seql, vb_sneq, vb_beql, vb_bneq, vun_not, vlen_str, vlen_sl, vlen_nil, vext_tup, frame0, HX.ev, List.length_cons, List.length_nil, List.replicate, Nat.sub, List.append_nil, List.nil_append, List.cons_append, List.set_cons_succ, List.set_cons_zero, List.getElem?_cons_succ, List.getElem?_cons_zero, Option.getD_some, Option.map_some, Option.map_none, List.map_cons, List.map_nil, if_true, Bool.not_true, Bool.not_false, Bool.false_eq_true, if_false, hg0, hSg.sOk, hp1, hp2, vo_append, ha, vadd1]
          refine ⟨(1, u2, g2), by simp only; omega, ⟨by simp only; omega, hk.trans hk2, ?_, hall⟩, rfl, by (repeat first | exact Less.nil | refine Less.undef _ ?_ | refine Less.keep _ ?_)⟩
          simp only [hnext]
          simpa [bcells] using ho2
        · have hg0 : decide ((0 : Int) < (i : Nat)) = true := by simp; omega
          rw [if_neg hi0] at hnext
          rw [hnext] at hpl
          simp only [List.length_append, List.length_cons, List.length_nil] at hpl
          have hbs1 : hbuildSlice g 1 1 [.int .u8 0] [(0, 1, .int .u8 32)] = some (.slice g.length 0 1 (some 1), g ++ [some (.cells 1 [.int .u8 32] false false [])]) := rfl
          have hk1 : Keeps g.length g (g ++ [some (.cells 1 [.int .u8 32] false false [])]) := Keeps.app (Nat.le_refl _)
          have ho1 := ho.keep (Nat.le_refl _) hk1
          obtain ⟨u2, g2, ha, ho2, hk2⟩ := OwnSl.app (bytes := 1) ho1 (by simp; have := hk.1; omega) (take_one g (.int .u8 32)) rfl (by omega) (by omega)
          have hk02 : Keeps hs.length hs g2 := (hk.trans (hk1.less hk.1)).trans hk2
          have hS2 := hS.keep (Nat.le_refl _) hk02
          obtain ⟨p2, hq1, hq2⟩ := hS2.idx (show (ws.map HV.str)[i]? = some (.str ws[i]) by rw [List.getElem?_map, hx]; rfl) .i64
          obtain ⟨u3, g3, hc, ho3, hk3⟩ := OwnSl.app (bytes := 1) ho2 hk02.1 (take_str _ ws[i]) (by rw [bcells_length]; omega) (by omega) (by omega)
          simp (disch := first | omega | decide) only [vwp_skip, vwp_ret, vwp_exit, vwp_lab, vwp_seq, vwp_cond, vwp_block, vwp_scope, vwp_region, vwp_draw, vwp_loop, vcnd_tt, vcnd_ff, vthen_normal, vthen_ret, vthen_exit, vblock_normal, vblock_ret, vblock_exit, vreg_nil, vreg_cons, vhl_nil, vhl_op, vhl_guard, vguard_tt, vguard_ff, vguard_tf, vguard_ft, vguard_no, vact_op, vop_some, vput_some, vput_none, vsame_sm, vunit_sm, vget_nil, vget_cons, vget_some,
    vo_mv, vo_bin, vo_un, vo_ext, vo_len, vo_idxS, vo_idxStr, vo_load, vo_pick, vb_lss, vb_leq, vb_gtr, vb_geq, vb_eql, vb_neq, vb_seql, vb_sneq, vb_beql, vb_bneq, vun_not, vlen_str, vlen_sl, vlen_nil, vext_tup, frame0, HX.ev, List.length_cons, List.length_nil, List.replicate, Nat.sub, List.append_nil, List.nil_append, List.cons_append, List.set_cons_succ, List.set_cons_zero, List.getElem?_cons_succ, List.getElem?_cons_zero, Option.getD_some, Option.map_some, Option.map_none, List.map_cons, List.map_nil, if_true, Bool.not_true, Bool.not_false, Bool.false_eq_true, if_false, hg0, vo_bslice, evp, hbs1, vo_append, ha, hS2.sOk, hq1, hq2, hc, vadd1]
          refine ⟨(i + 1, u3, g3), by simp only; omega, ⟨by simp only; omega, hk02.trans hk3, ?_, hall⟩, rfl, by (repeat first | exact Less.nil | refine Less.undef _ ?_ | refine Less.keep _ ?_)⟩
          simp only [hnext, bcells_app, List.length_append, List.length_cons, List.length_nil]
          exact ho3
    · obtain rfl : i = ws.length := by omega
      have hlt : decide (((ws.length : Nat) : Int) < (ws.length : Nat)) = false := by simp
      have hwe : wordsL ws = true := by
        rw [wordsL_end fun k w hk => hpre k w (lt_of_get hk) hk]
        cases ws <;> simp at h0 ⊢
      have hfull : pre ws ws.length = joinL ws := by simp [pre, joinL, hwe]
      simp (disch := first | omega | decide) only [vwp_skip, vwp_ret, vwp_exit, vwp_lab, vwp_seq, vwp_cond, vwp_block, vwp_scope, vwp_region, vwp_draw, vwp_loop, vcnd_tt, vcnd_ff, vthen_normal, vthen_ret, vthen_exit, vblock_normal, vblock_ret, vblock_exit, vreg_nil, vreg_cons, vhl_nil, vhl_op, vhl_guard, vguard_tt, vguard_ff, vguard_tf, vguard_ft, vguard_no, vact_op, vop_some, vput_some, vput_none, vsame_sm, vunit_sm, vget_nil, vget_cons, vget_some,
    vo_mv, vo_bin, vo_un, vo_ext, vo_len, vo_idxS, vo_idxStr, vo_load, vo_pick, vb_lss, vb_leq, vb_gtr, vb_geq, vb_eql, vb_neq, vb_seql, vb_sneq, vb_beql, vb_bneq, vun_not, vlen_str, vlen_sl, vlen_nil, vext_tup, frame0, HX.ev, List.length_cons, List.length_nil, List.replicate, Nat.sub, List.append_nil, List.nil_append, List.cons_append, List.set_cons_succ, List.set_cons_zero, List.getElem?_cons_succ, List.getElem?_cons_zero, Option.getD_some, Option.map_some, Option.map_none, List.map_cons, List.map_nil, if_true, Bool.not_true, Bool.not_false, Bool.false_eq_true, if_false, hlt, hleng]
      rw [vb2s (v := u) (by intro c; exact ho.notStr c) rfl ho.take]
      simp (disch := first | omega | decide) only [vwp_skip, vwp_ret, vwp_exit, vwp_lab, vwp_seq, vwp_cond, vwp_block, vwp_scope, vwp_region, vwp_draw, vwp_loop, vcnd_tt, vcnd_ff, vthen_normal, vthen_ret, vthen_exit, vblock_normal, vblock_ret, vblock_exit, vreg_nil, vreg_cons, vhl_nil, vhl_op, vhl_guard, vguard_tt, vguard_ff, vguard_tf, vguard_ft, vguard_no, vact_op, vop_some, vput_some, vput_none, vsame_sm, vunit_sm, vget_nil, vget_cons, vget_some,
    vo_mv, vo_bin, vo_un, vo_ext, vo_len, vo_idxS, vo_idxStr, vo_load, vo_pick, vb_lss, vb_leq, vb_gtr, vb_geq, vb_eql, vb_neq, vb_seql, vb_sneq, vb_beql, vb_bneq, vun_not, vlen_str, vlen_sl, vlen_nil, vext_tup, frame0, HX.ev, List.length_cons, List.length_nil, List.replicate, Nat.sub, List.append_nil, List.nil_append, List.cons_append, List.set_cons_succ, List.set_cons_zero, List.getElem?_cons_succ, List.getElem?_cons_zero, Option.getD_some, Option.map_some, Option.map_none, List.map_cons, List.map_nil, if_true, Bool.not_true, Bool.not_false, Bool.false_eq_true, if_false]
      exact ⟨rfl, _, rfl, by rw [hfull, hwe]; rfl, hk⟩
end B
end Go.Proofs.YteedidafobfijaaDoor
