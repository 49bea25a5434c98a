/-
  The law DigitsJoins: what (HV.str [105, 116]) answers, at any list of texts.
-/
import Derived.Test.YteedidafobfijaaDoorJ
namespace Go.Proofs.YteedidafobfijaaDoor
open Go Go.HL P5
namespace B
set_option maxRecDepth 100000
set_option maxHeartbeats 4000000
set_option linter.unusedSimpArgs false

/-- one's own list, turned round up to i. -/
def csI (ws : List (List UInt8)) (i : Nat) : List HV := (ws.reverse.take i ++ ws.drop i).map HV.str ++ [(HV.str [98, 101, 104, 105, 110, 100]), (HV.str [105, 116])]
theorem csI_length (ws : List (List UInt8)) (i : Nat) : (csI ws i).length = ws.length + 2 := by
  simp [csI]; omega
theorem csI_zero (ws : List (List UInt8)) : csI ws 0 = ws.map HV.str ++ [(HV.str [98, 101, 104, 105, 110, 100]), (HV.str [105, 116])] := by simp [csI]
theorem csI_all (ws : List (List UInt8)) : csI ws ws.length = ws.reverse.map HV.str ++ [(HV.str [98, 101, 104, 105, 110, 100]), (HV.str [105, 116])] := by
  unfold csI
  rw [List.take_of_length_le (by simp), List.drop_length, List.append_nil]
theorem csI_next {ws : List (List UInt8)} {i : Nat} (h : i < ws.length) : (csI ws i).set i (.str (ws[ws.length - 1 - i]'(by omega))) = csI ws (i + 1) := by
  unfold csI
  have h1 : ws.reverse.take (i + 1) = ws.reverse.take i ++ [ws[ws.length - 1 - i]'(by omega)] := by
    rw [List.take_add_one, List.getElem?_eq_getElem (by simpa using h), List.getElem_reverse, Option.toList_some]
  have h2 : ws.drop i = ws[i] :: ws.drop (i + 1) := List.drop_eq_getElem_cons h
  rw [h1, h2]
  simp only [List.map_append, List.map_cons, List.append_assoc, List.cons_append, List.nil_append, List.map_nil]
  have hl : ((ws.reverse.take i).map HV.str).length = i := by simp; omega
  rw [List.set_append_right _ _ (by omega), hl, Nat.sub_self, List.set_cons_zero]

/-- one's own list. -/
theorem own_sl {hs : HS} {h : Nat} {ro opn : Bool} {olds : List Nat} {xs ys : List HV} {n c : Nat} (hb : hs[h]? = some (some (.cells 1 (xs ++ ys) ro opn olds))) (hn : n = xs.length) : SlAt hs (.slice h 0 n (some c)) xs := by
  subst hn
  exact .inr ⟨h, 0, _, _, _, _, _, rfl, hb, fun i x h => by
    rw [Nat.zero_add, List.getElem?_append_left (lt_of_get h)]; exact h⟩
theorem ok_sl {hs : HS} {h : Nat} {cs : List HV} {ro opn : Bool} {olds : List Nat} (n c : Nat) (hb : hs[h]? = some (some (.cells 1 cs ro opn olds))) : sOk hs 1 (.slice h 0 n (some c)) = true := by simp [sOk, hb]
theorem get_last (hs : HS) (c : Option HB) : (hs ++ [c])[hs.length]? = some c := by simp

theorem sum_reverse (ws : List (List UInt8)) : sumL ws.reverse = sumL ws := by
  unfold sumL; rw [List.map_reverse, List.sum_reverse]

theorem law7 (hs : HS) (v : HV) (ws : List (List UInt8)) (hsh : HC Tryd.prog 10 [] hs fun v hs' => v = .bool true ∧ hs' = hs) (hS : SlAt hs v (ws.map HV.str)) (hlen : ws.length < 9223372036854775808) (hw : ∀ w ∈ ws, w.length < 9223372036854775808) :
    HC Tryd.prog 7 [v] hs fun r _ => r = .bool true := by
  have hsl := hS.len
  rw [List.length_map] at hsl
  refine HC.wp mixed Tryd.func7 c7 ?_
  simp -implicitDefEqProofs (disch := first | omega | decide) only [vwp_skip, vwp_ret, vwp_exit, vwp_lab, vwp_seq, vwp_cond, vwp_block, vwp_scope, vwp_region, vwp_draw, vwp_loop, vcnd_tt, vcnd_ff, vthen_normal, vthen_ret, vthen_exit, vblock_normal, vblock_ret, vblock_exit, vreg_nil, vreg_cons, vhl_nil, vhl_op, vhl_guard, vguard_tt, vguard_ff, vguard_tf, vguard_ft, vguard_no, vact_op, vop_some, vput_some, vput_none, vsame_sm, vunit_sm, vget_nil, vget_cons, vget_some,
    vo_mv, vo_bin, vo_un, vo_ext, vo_len, vo_idxS, vo_idxStr, vo_load, vo_pick, vb_lss, vb_leq, vb_gtr, vb_geq, vb_eql, vb_neq, vb_seql, vb_sneq, vb_beql, vb_bneq, vun_not, vlen_str, vlen_sl, vlen_nil, vext_tup, HX.ev, List.length_cons, List.length_nil, List.append_nil, List.nil_append, List.cons_append, List.set_cons_succ, List.set_cons_zero, List.getElem?_cons_succ, List.getElem?_cons_zero, Option.getD_some, Option.map_some, Option.map_none, List.map_cons, List.map_nil, if_true, Bool.not_true, Bool.not_false, Bool.false_eq_true, if_false, h7, frame0, List.replicate, Nat.sub]
  refine vcall_of ok19 rfl (beyond2 hs v ws hS hlen hw) ?_
  rintro _ hs ⟨bb, rfl, rfl, hbb⟩
  cases bb
  · have hsum := hbb rfl
    have hwl := sumL_len ws
    have hmax : maxLen = 9223372036854775807 := rfl
    simp -implicitDefEqProofs (disch := first | omega | decide) only [vwp_skip, vwp_ret, vwp_exit, vwp_lab, vwp_seq, vwp_cond, vwp_block, vwp_scope, vwp_region, vwp_draw, vwp_loop, vcnd_tt, vcnd_ff, vthen_normal, vthen_ret, vthen_exit, vblock_normal, vblock_ret, vblock_exit, vreg_nil, vreg_cons, vhl_nil, vhl_op, vhl_guard, vguard_tt, vguard_ff, vguard_tf, vguard_ft, vguard_no, vact_op, vop_some, vput_some, vput_none, vsame_sm, vunit_sm, vget_nil, vget_cons, vget_some,
    vo_mv, vo_bin, vo_un, vo_ext, vo_len, vo_idxS, vo_idxStr, vo_load, vo_pick, vb_lss, vb_leq, vb_gtr, vb_geq, vb_eql, vb_neq, vb_seql, vb_sneq, vb_beql, vb_bneq, vun_not, vlen_str, vlen_sl, vlen_nil, vext_tup, HX.ev, List.length_cons, List.length_nil, List.append_nil, List.nil_append, List.cons_append, List.set_cons_succ, List.set_cons_zero, List.getElem?_cons_succ, List.getElem?_cons_zero, Option.getD_some, Option.map_some, Option.map_none, List.map_cons, List.map_nil, if_true, Bool.not_true, Bool.not_false, Bool.false_eq_true, if_false]
    refine vcall_of ok10 rfl hsh ?_
    rintro _ hs ⟨rfl, rfl⟩
    have hadd2 : hbin .add none (.int .i64 (ws.length : Nat)) (.int .i64 2) = some (.int .i64 ((ws.length + 2 : Nat) : Int)) := by
      rw [vaddI (by omega)]; simp
    have hmk := make_at hs 16 (ws.length + 2) (.str []) rfl (by omega) (by omega)
    have hcp := copy_new (m := ws.length + 2) (x := .str []) hS (by rw [List.length_map]; omega)
    have hrep : ws.length + 2 - (ws.map HV.str).length = 2 := by rw [List.length_map]; omega
    rw [hrep, List.length_map] at hcp
    have e1 : ((ws.map HV.str) ++ List.replicate 2 (HV.str [])).set ws.length (HV.str [98, 101, 104, 105, 110, 100]) = (ws.map HV.str) ++ [(HV.str [98, 101, 104, 105, 110, 100]), .str []] := by
      rw [List.set_append_right _ _ (by simp)]; simp [List.replicate]
    have e2 : ((ws.map HV.str) ++ [(HV.str [98, 101, 104, 105, 110, 100]), .str []]).set (ws.length + 1) (HV.str [105, 116]) = csI ws 0 := by
      rw [List.set_append_right _ _ (by simp), csI_zero]; simp
    obtain ⟨A, hA⟩ : ∃ A, A = (ws.map HV.str) ++ List.replicate 2 (HV.str []) := ⟨_, rfl⟩
    obtain ⟨A1, hA1⟩ : ∃ A1, A1 = (ws.map HV.str) ++ [(HV.str [98, 101, 104, 105, 110, 100]), .str []] := ⟨_, rfl⟩
    rw [← hA] at hcp e1
    rw [← hA1] at e1 e2
    have hAl : A.length = ws.length + 2 := by simp [hA]
    have hA1l : A1.length = ws.length + 2 := by simp [hA1]
    have st1 := store_at (get_last hs (some (.cells 1 A false false []))) (k := ws.length) (x := (HV.str [98, 101, 104, 105, 110, 100])) (by omega) rfl rfl
    rw [e1, set_last] at st1
    have st2 := store_at (get_last hs (some (.cells 1 A1 false false []))) (k := ws.length + 1) (x := (HV.str [105, 116])) (by omega) rfl rfl
    rw [e2, set_last] at st2
    have k1 := ok_sl (ws.length + 2) (ws.length + 2) (get_last hs (some (.cells 1 A false false [])))
    have k2 := ok_sl (ws.length + 2) (ws.length + 2) (get_last hs (some (.cells 1 A1 false false [])))
    have k3 := ok_sl (ws.length + 2) (ws.length + 2) (get_last hs (some (.cells 1 (csI ws 0) false false [])))
    have ix1 : hindexAddr 1 (.slice hs.length 0 (ws.length + 2) (some (ws.length + 2))) (.int .i64 (ws.length : Nat)) = some (.ptr hs.length ws.length) := by
      rw [vidx_some (by omega)]; simp
    have ix2 : hindexAddr 1 (.slice hs.length 0 (ws.length + 2) (some (ws.length + 2))) (.int .i64 ((ws.length + 1 : Nat) : Int)) = some (.ptr hs.length (ws.length + 1)) := by
      rw [vidx_some (by omega)]; simp
    have cut : hslice (.slice hs.length 0 (ws.length + 2) (some (ws.length + 2))) none (some (.int .i64 (ws.length : Nat))) none = some (.slice hs.length 0 ws.length (some (ws.length + 2))) := cut_to (by omega)
    have n1 := vadd1 (i := ws.length) (by omega)
    simp -implicitDefEqProofs (disch := first | omega | decide) only [vwp_skip, vwp_ret, vwp_exit, vwp_lab, vwp_seq, vwp_cond, vwp_block, vwp_scope, vwp_region, vwp_draw, vwp_loop, vcnd_tt, vcnd_ff, vthen_normal, vthen_ret, vthen_exit, vblock_normal, vblock_ret, vblock_exit, vreg_nil, vreg_cons, vhl_nil, vhl_op, vhl_guard, vguard_tt, vguard_ff, vguard_tf, vguard_ft, vguard_no, vact_op, vop_some, vput_some, vput_none, vsame_sm, vunit_sm, vget_nil, vget_cons, vget_some,
    vo_mv, vo_bin, vo_un, vo_ext, vo_len, vo_idxS, vo_idxStr, vo_load, vo_pick, vb_lss, vb_leq, vb_gtr, vb_geq, vb_eql, vb_neq, vb_seql, vb_sneq, vb_beql, vb_bneq, vun_not, vlen_str, vlen_sl, vlen_nil, vext_tup, HX.ev, List.length_cons, List.length_nil, List.append_nil, List.nil_append, List.cons_append, List.set_cons_succ, List.set_cons_zero, List.getElem?_cons_succ, List.getElem?_cons_zero, Option.getD_some, Option.map_some, Option.map_none, List.map_cons, List.map_nil, if_true, Bool.not_true, Bool.not_false, Bool.false_eq_true, if_false, hsl, hadd2, vo_mkSlice, hmk, vo_copy, hcp, k1, k2, k3, ix1, ix2, vo_store, st1, st2, n1, vo_sliceSl, cut]
    have hn : ws.length = (ws.map HV.str).length := by simp
    have hO : SlAt (hs ++ [some (.cells 1 (csI ws 0) false false [])]) (.slice hs.length 0 ws.length (some (ws.length + 2))) (ws.map HV.str) :=
      own_sl (by rw [get_last, csI_zero]) hn
    refine vcall_of ok20 rfl (join20 _ _ ws hO (by omega)) ?_
    rintro _ _ ⟨rfl, rfl⟩
    simp -implicitDefEqProofs (disch := first | omega | decide) only [vwp_skip, vwp_ret, vwp_exit, vwp_lab, vwp_seq, vwp_cond, vwp_block, vwp_scope, vwp_region, vwp_draw, vwp_loop, vcnd_tt, vcnd_ff, vthen_normal, vthen_ret, vthen_exit, vblock_normal, vblock_ret, vblock_exit, vreg_nil, vreg_cons, vhl_nil, vhl_op, vhl_guard, vguard_tt, vguard_ff, vguard_tf, vguard_ft, vguard_no, vact_op, vop_some, vput_some, vput_none, vsame_sm, vunit_sm, vget_nil, vget_cons, vget_some,
    vo_mv, vo_bin, vo_un, vo_ext, vo_len, vo_idxS, vo_idxStr, vo_load, vo_pick, vb_lss, vb_leq, vb_gtr, vb_geq, vb_eql, vb_neq, vb_seql, vb_sneq, vb_beql, vb_bneq, vun_not, vlen_str, vlen_sl, vlen_nil, vext_tup, HX.ev, List.length_cons, List.length_nil, List.append_nil, List.nil_append, List.cons_append, List.set_cons_succ, List.set_cons_zero, List.getElem?_cons_succ, List.getElem?_cons_zero, Option.getD_some, Option.map_some, Option.map_none, List.map_cons, List.map_nil, if_true, Bool.not_true, Bool.not_false, Bool.false_eq_true, if_false, k3, vo_sliceSl, cut]
    refine vcall_of ok20 rfl (join20 _ _ ws hO (by omega)) ?_
    rintro _ _ ⟨rfl, rfl⟩
    simp -implicitDefEqProofs (disch := first | omega | decide) only [vwp_skip, vwp_ret, vwp_exit, vwp_lab, vwp_seq, vwp_cond, vwp_block, vwp_scope, vwp_region, vwp_draw, vwp_loop, vcnd_tt, vcnd_ff, vthen_normal, vthen_ret, vthen_exit, vblock_normal, vblock_ret, vblock_exit, vreg_nil, vreg_cons, vhl_nil, vhl_op, vhl_guard, vguard_tt, vguard_ff, vguard_tf, vguard_ft, vguard_no, vact_op, vop_some, vput_some, vput_none, vsame_sm, vunit_sm, vget_nil, vget_cons, vget_some,
    vo_mv, vo_bin, vo_un, vo_ext, vo_len, vo_idxS, vo_idxStr, vo_load, vo_pick, vb_lss, vb_leq, vb_gtr, vb_geq, vb_eql, vb_neq, vb_seql, vb_sneq, vb_beql, vb_bneq, vun_not, vlen_str, vlen_sl, vlen_nil, vext_tup, HX.ev, List.length_cons, List.length_nil, List.append_nil, List.nil_append, List.cons_append, List.set_cons_succ, List.set_cons_zero, List.getElem?_cons_succ, List.getElem?_cons_zero, Option.getD_some, Option.map_some, Option.map_none, List.map_cons, List.map_nil, if_true, Bool.not_true, Bool.not_false, Bool.false_eq_true, if_false]
    have hV1 : SlAt (hs ++ [some (.cells 1 (csI ws 0) false false [])]) v (ws.map HV.str) := hS.mono ⟨_, rfl⟩
    refine vcall_of ok21 rfl (refJoin _ _ ws hV1 (by omega)) ?_
    rintro _ g ⟨rfl, hk⟩
    have hV := hV1.keep (Nat.le_refl _) hk
    have hO2 := hO.keep (Nat.le_refl _) hk
    have hg : g[hs.length]? = some (some (.cells 1 (csI ws 0) false false [])) := hk.get (by simp) (get_last hs _)
    have k4 := ok_sl (ws.length + 2) (ws.length + 2) hg
    simp -implicitDefEqProofs (disch := first | omega | decide) only [vwp_skip, vwp_ret, vwp_exit, vwp_lab, vwp_seq, vwp_cond, vwp_block, vwp_scope, vwp_region, vwp_draw, vwp_loop, vcnd_tt, vcnd_ff, vthen_normal, vthen_ret, vthen_exit, vblock_normal, vblock_ret, vblock_exit, vreg_nil, vreg_cons, vhl_nil, vhl_op, vhl_guard, vguard_tt, vguard_ff, vguard_tf, vguard_ft, vguard_no, vact_op, vop_some, vput_some, vput_none, vsame_sm, vunit_sm, vget_nil, vget_cons, vget_some,
    vo_mv, vo_bin, vo_un, vo_ext, vo_len, vo_idxS, vo_idxStr, vo_load, vo_pick, vb_lss, vb_leq, vb_gtr, vb_geq, vb_eql, vb_neq, vb_seql, vb_sneq, vb_beql, vb_bneq, vun_not, vlen_str, vlen_sl, vlen_nil, vext_tup, HX.ev, List.length_cons, List.length_nil, List.append_nil, List.nil_append, List.cons_append, List.set_cons_succ, List.set_cons_zero, List.getElem?_cons_succ, List.getElem?_cons_zero, Option.getD_some, Option.map_some, Option.map_none, List.map_cons, List.map_nil, if_true, Bool.not_true, Bool.not_false, Bool.false_eq_true, if_false, k4, vo_sliceSl, cut]
    refine vcall_of ok22 rfl (same g _ _ ws ws hO2 hV (by omega)) ?_
    rintro _ g ⟨rfl, rfl⟩
    have ld1 : hload none g (.ptr hs.length ws.length) = some (HV.str [98, 101, 104, 105, 110, 100]) := by
      simp only [hload, hg, csI_zero]
      rw [List.getElem?_append_right (by simp)]; simp
    have ld2 : hload none g (.ptr hs.length (ws.length + 1)) = some (HV.str [105, 116]) := by
      simp only [hload, hg, csI_zero]
      rw [List.getElem?_append_right (by simp)]; simp
    simp -implicitDefEqProofs (disch := first | omega | decide) only [vwp_skip, vwp_ret, vwp_exit, vwp_lab, vwp_seq, vwp_cond, vwp_block, vwp_scope, vwp_region, vwp_draw, vwp_loop, vcnd_tt, vcnd_ff, vthen_normal, vthen_ret, vthen_exit, vblock_normal, vblock_ret, vblock_exit, vreg_nil, vreg_cons, vhl_nil, vhl_op, vhl_guard, vguard_tt, vguard_ff, vguard_tf, vguard_ft, vguard_no, vact_op, vop_some, vput_some, vput_none, vsame_sm, vunit_sm, vget_nil, vget_cons, vget_some,
    vo_mv, vo_bin, vo_un, vo_ext, vo_len, vo_idxS, vo_idxStr, vo_load, vo_pick, vb_lss, vb_leq, vb_gtr, vb_geq, vb_eql, vb_neq, vb_seql, vb_sneq, vb_beql, vb_bneq, vun_not, vlen_str, vlen_sl, vlen_nil, vext_tup, HX.ev, List.length_cons, List.length_nil, List.append_nil, List.nil_append, List.cons_append, List.set_cons_succ, List.set_cons_zero, List.getElem?_cons_succ, List.getElem?_cons_zero, Option.getD_some, Option.map_some, Option.map_none, List.map_cons, List.map_nil, if_true, Bool.not_true, Bool.not_false, Bool.false_eq_true, if_false, k4, ix1, ix2, ld1, ld2, n1, beq_self_eq_true, eq_self, decide_true]
    have hgl : hs.length < g.length := lt_of_get hg
    have hset : ∀ c, (g.set hs.length c)[hs.length]? = some c := fun c => by rw [List.getElem?_set]; simp [hgl]
    have hkset : ∀ c, Keeps hs.length g (g.set hs.length c) := fun c => Keeps.set (Nat.le_of_lt hgl) (Nat.le_refl _)
    have hSg : SlAt g v (ws.map HV.str) := hV
    have hVs : ∀ c, SlAt (g.set hs.length c) v (ws.map HV.str) := fun c => hS.keep (Nat.le_refl _) ((Keeps.app (Nat.le_refl _)).trans ((hk.less (by simp)).trans (hkset c)))
    refine HW.loopS mixed (fun i : Nat => (v :: .undef :: .bool false :: .bool true :: .int .i64 (ws.length : Nat) :: (.slice hs.length 0 (ws.length + 2) (some (ws.length + 2))) :: .undef :: .undef :: .undef :: .undef :: .undef :: .undef :: .undef :: .undef :: .int .i64 (i : Nat) :: .undef :: .undef :: .undef :: .undef :: .undef :: .undef :: .undef :: .undef :: .undef :: .undef :: .undef :: .undef :: .undef :: .undef :: .undef :: .undef :: .undef :: .undef :: .undef :: .undef :: .undef :: .undef :: .undef :: .undef :: .undef :: .undef :: .undef :: .undef :: .undef :: .undef :: .undef :: .undef :: .undef :: .undef :: .undef :: .undef :: .undef :: .undef :: .undef :: .undef :: .undef :: .undef :: .undef :: .undef :: .undef :: .undef :: .undef :: .undef :: .undef :: .undef :: .undef :: .undef :: .undef :: .undef :: .undef :: .undef :: .undef :: .undef :: .undef :: .undef :: .undef :: .undef :: .undef :: .undef :: .undef :: .undef :: .undef :: .undef :: .undef :: .undef :: .undef :: .undef :: .undef :: .undef :: .undef :: .undef :: .undef :: .undef :: .undef :: .undef :: .undef :: .undef :: .undef :: .undef :: .undef :: .undef :: .undef :: .undef :: .undef :: .undef :: .undef :: .undef :: .undef :: .undef :: .undef :: .undef :: .undef :: .undef :: .undef :: .undef :: .undef :: .undef :: .undef :: .undef :: .undef :: .undef :: .undef :: .undef :: .undef :: .undef :: .undef :: .undef :: .undef :: .undef :: .undef :: .undef :: .undef :: .undef :: .undef :: .undef :: .undef :: .undef :: .undef :: .undef :: .undef :: .undef :: .undef :: [])) (fun i => g.set hs.length (some (.cells 1 (csI ws i) false false []))) (fun i => ws.length - i) (fun i => i ≤ ws.length) 0 (by omega)
      (by
        apply List.ext_getElem?
        intro j
        rw [List.getElem?_set]
        split
        · rename_i h; subst h; simpa [hgl] using hg
        · rfl) (by (repeat first | exact Less.nil | refine Less.undef _ ?_ | refine Less.keep _ ?_)) ?_
    rintro i hi
    by_cases h : i < ws.length
    · have hlt : decide ((i : Int) < (ws.length : Nat)) = true := by simp; omega
      have hj : ws[ws.length - 1 - i]? = some (ws[ws.length - 1 - i]'(by omega)) := List.getElem?_eq_getElem (by omega)
      obtain ⟨p, hp1, hp2⟩ := (hVs (some (.cells 1 (csI ws i) false false []))).idx (show (ws.map HV.str)[ws.length - 1 - i]? = some (.str (ws[ws.length - 1 - i]'(by omega))) by rw [List.getElem?_map, hj]; rfl) .i64
      have sk := (hVs (some (.cells 1 (csI ws i) false false []))).sOk
      have ko := ok_sl (ws.length + 2) (ws.length + 2) (hset (some (.cells 1 (csI ws i) false false [])))
      have ixi : hindexAddr 1 (.slice hs.length 0 (ws.length + 2) (some (ws.length + 2))) (.int .i64 (i : Nat)) = some (.ptr hs.length i) := by
        rw [vidx_some (by omega)]; simp
      have st := store_at (hset (some (.cells 1 (csI ws i) false false []))) (k := i) (x := .str (ws[ws.length - 1 - i]'(by omega))) (by rw [csI_length]; omega) rfl rfl
      rw [csI_next h, List.set_set] at st
      simp -implicitDefEqProofs (disch := first | omega | decide) only [vwp_skip, vwp_ret, vwp_exit, vwp_lab, vwp_seq, vwp_cond, vwp_block, vwp_scope, vwp_region, vwp_draw, vwp_loop, vcnd_tt, vcnd_ff, vthen_normal, vthen_ret, vthen_exit, vblock_normal, vblock_ret, vblock_exit, vreg_nil, vreg_cons, vhl_nil, vhl_op, vhl_guard, vguard_tt, vguard_ff, vguard_tf, vguard_ft, vguard_no, vact_op, vop_some, vput_some, vput_none, vsame_sm, vunit_sm, vget_nil, vget_cons, vget_some,
    vo_mv, vo_bin, vo_un, vo_ext, vo_len, vo_idxS, vo_idxStr, vo_load, vo_pick, vb_lss, vb_leq, vb_gtr, vb_geq, vb_eql, vb_neq, vb_seql, vb_sneq, vb_beql, vb_bneq, vun_not, vlen_str, vlen_sl, vlen_nil, vext_tup, HX.ev, List.length_cons, List.length_nil, List.append_nil, List.nil_append, List.cons_append, List.set_cons_succ, List.set_cons_zero, List.getElem?_cons_succ, List.getElem?_cons_zero, Option.getD_some, Option.map_some, Option.map_none, List.map_cons, List.map_nil, if_true, Bool.not_true, Bool.not_false, Bool.false_eq_true, if_false, hlt, vsub1, vsubn, sk, hp1, hp2, ko, ixi, vo_store, st, vadd1]
      exact ⟨i + 1, by omega, by omega, rfl, by (repeat first | exact Less.nil | refine Less.undef _ ?_ | refine Less.keep _ ?_)⟩
    · obtain rfl : i = ws.length := by omega
      have hlt : decide (((ws.length : Nat) : Int) < (ws.length : Nat)) = false := by simp
      obtain ⟨g3, hg3⟩ : ∃ g3, g3 = g.set hs.length (some (.cells 1 (csI ws ws.length) false false [])) := ⟨_, rfl⟩
      have hb3 : g3[hs.length]? = some (some (.cells 1 (csI ws ws.length) false false [])) := by rw [hg3]; exact hset _
      rw [← hg3]
      have ko := ok_sl (ws.length + 2) (ws.length + 2) hb3
      simp -implicitDefEqProofs (disch := first | omega | decide) only [vwp_skip, vwp_ret, vwp_exit, vwp_lab, vwp_seq, vwp_cond, vwp_block, vwp_scope, vwp_region, vwp_draw, vwp_loop, vcnd_tt, vcnd_ff, vthen_normal, vthen_ret, vthen_exit, vblock_normal, vblock_ret, vblock_exit, vreg_nil, vreg_cons, vhl_nil, vhl_op, vhl_guard, vguard_tt, vguard_ff, vguard_tf, vguard_ft, vguard_no, vact_op, vop_some, vput_some, vput_none, vsame_sm, vunit_sm, vget_nil, vget_cons, vget_some,
    vo_mv, vo_bin, vo_un, vo_ext, vo_len, vo_idxS, vo_idxStr, vo_load, vo_pick, vb_lss, vb_leq, vb_gtr, vb_geq, vb_eql, vb_neq, vb_seql, vb_sneq, vb_beql, vb_bneq, vun_not, vlen_str, vlen_sl, vlen_nil, vext_tup, HX.ev, List.length_cons, List.length_nil, List.append_nil, List.nil_append, List.cons_append, List.set_cons_succ, List.set_cons_zero, List.getElem?_cons_succ, List.getElem?_cons_zero, Option.getD_some, Option.map_some, Option.map_none, List.map_cons, List.map_nil, if_true, Bool.not_true, Bool.not_false, Bool.false_eq_true, if_false, hlt, ko, vo_sliceSl, cut]
      have hn2 : ws.length = (ws.reverse.map HV.str).length := by simp
      have hO3 : SlAt g3 (.slice hs.length 0 ws.length (some (ws.length + 2))) (ws.reverse.map HV.str) := own_sl (by rw [hb3, csI_all]) hn2
      refine vcall_of ok20 rfl (join20 _ _ ws.reverse hO3 (by rw [sum_reverse]; omega)) ?_
      rintro _ g3 ⟨rfl, rfl⟩
      have hbs : hbuildSlice g3 1 0 [] [] = some (.slice g3.length 0 0 (some 0), g3 ++ [some (.cells 1 [] false false [])]) := rfl
      have ho0 : OwnSl g3.length (g3 ++ [some (.cells 1 [] false false [])]) 1 (.slice g3.length 0 0 (some 0)) 0 [] := OwnSl.empty (ro := false) (opn := false) (olds := []) (by simp)
      have hO4 : SlAt (g3 ++ [some (.cells 1 [] false false [])]) (.slice hs.length 0 ws.length (some (ws.length + 2))) (ws.reverse.map HV.str) := hO3.mono ⟨_, rfl⟩
      have ht4 := hO4.take
      obtain ⟨u, g4, ha, ho4, hk4⟩ := OwnSl.app (bytes := 16) ho0 (by simp) ht4 (by simp) (by simp; omega) (by simp; omega)
      have ko4 : sOk (g3 ++ [some (.cells 1 [] false false [])]) 1 (.slice hs.length 0 (ws.length + 2) (some (ws.length + 2))) = true :=
        ok_sl _ _ (show (g3 ++ [some (.cells 1 [] false false [])])[hs.length]? = _ by rw [List.getElem?_append_left (lt_of_get hb3)]; exact hb3)
      simp -implicitDefEqProofs (disch := first | omega | decide) only [vwp_skip, vwp_ret, vwp_exit, vwp_lab, vwp_seq, vwp_cond, vwp_block, vwp_scope, vwp_region, vwp_draw, vwp_loop, vcnd_tt, vcnd_ff, vthen_normal, vthen_ret, vthen_exit, vblock_normal, vblock_ret, vblock_exit, vreg_nil, vreg_cons, vhl_nil, vhl_op, vhl_guard, vguard_tt, vguard_ff, vguard_tf, vguard_ft, vguard_no, vact_op, vop_some, vput_some, vput_none, vsame_sm, vunit_sm, vget_nil, vget_cons, vget_some,
    vo_mv, vo_bin, vo_un, vo_ext, vo_len, vo_idxS, vo_idxStr, vo_load, vo_pick, vb_lss, vb_leq, vb_gtr, vb_geq, vb_eql, vb_neq, vb_seql, vb_sneq, vb_beql, vb_bneq, vun_not, vlen_str, vlen_sl, vlen_nil, vext_tup, HX.ev, List.length_cons, List.length_nil, List.append_nil, List.nil_append, List.cons_append, List.set_cons_succ, List.set_cons_zero, List.getElem?_cons_succ, List.getElem?_cons_zero, Option.getD_some, Option.map_some, Option.map_none, List.map_cons, List.map_nil, if_true, Bool.not_true, Bool.not_false, Bool.false_eq_true, if_false, vo_bslice, evp, hbs, ko4, vo_sliceSl, cut, vo_append, ha]
      have hU : SlAt g4 u (ws.reverse.map HV.str) := by simpa using ho4.sl
      refine vcall_of ok21 rfl (refJoin _ _ ws.reverse hU (by rw [sum_reverse]; omega)) ?_
      rintro _ g5 ⟨rfl, hk5⟩
      simp -implicitDefEqProofs (disch := first | omega | decide) only [vwp_skip, vwp_ret, vwp_exit, vwp_lab, vwp_seq, vwp_cond, vwp_block, vwp_scope, vwp_region, vwp_draw, vwp_loop, vcnd_tt, vcnd_ff, vthen_normal, vthen_ret, vthen_exit, vblock_normal, vblock_ret, vblock_exit, vreg_nil, vreg_cons, vhl_nil, vhl_op, vhl_guard, vguard_tt, vguard_ff, vguard_tf, vguard_ft, vguard_no, vact_op, vop_some, vput_some, vput_none, vsame_sm, vunit_sm, vget_nil, vget_cons, vget_some,
    vo_mv, vo_bin, vo_un, vo_ext, vo_len, vo_idxS, vo_idxStr, vo_load, vo_pick, vb_lss, vb_leq, vb_gtr, vb_geq, vb_eql, vb_neq, vb_seql, vb_sneq, vb_beql, vb_bneq, vun_not, vlen_str, vlen_sl, vlen_nil, vext_tup, HX.ev, List.length_cons, List.length_nil, List.append_nil, List.nil_append, List.cons_append, List.set_cons_succ, List.set_cons_zero, List.getElem?_cons_succ, List.getElem?_cons_zero, Option.getD_some, Option.map_some, Option.map_none, List.map_cons, List.map_nil, if_true, Bool.not_true, Bool.not_false, Bool.false_eq_true, if_false, beq_self_eq_true]
      exact ⟨rfl, _, rfl, rfl⟩
  · simp -implicitDefEqProofs (disch := first | omega | decide) only [vwp_skip, vwp_ret, vwp_exit, vwp_lab, vwp_seq, vwp_cond, vwp_block, vwp_scope, vwp_region, vwp_draw, vwp_loop, vcnd_tt, vcnd_ff, vthen_normal, vthen_ret, vthen_exit, vblock_normal, vblock_ret, vblock_exit, vreg_nil, vreg_cons, vhl_nil, vhl_op, vhl_guard, vguard_tt, vguard_ff, vguard_tf, vguard_ft, vguard_no, vact_op, vop_some, vput_some, vput_none, vsame_sm, vunit_sm, vget_nil, vget_cons, vget_some,
    vo_mv, vo_bin, vo_un, vo_ext, vo_len, vo_idxS, vo_idxStr, vo_load, vo_pick, vb_lss, vb_leq, vb_gtr, vb_geq, vb_eql, vb_neq, vb_seql, vb_sneq, vb_beql, vb_bneq, vun_not, vlen_str, vlen_sl, vlen_nil, vext_tup, HX.ev, List.length_cons, List.length_nil, List.append_nil, List.nil_append, List.cons_append, List.set_cons_succ, List.set_cons_zero, List.getElem?_cons_succ, List.getElem?_cons_zero, Option.getD_some, Option.map_some, Option.map_none, List.map_cons, List.map_nil, if_true, Bool.not_true, Bool.not_false, Bool.false_eq_true, if_false]
    exact ⟨rfl, _, rfl, rfl⟩
end B
end Go.Proofs.YteedidafobfijaaDoor
