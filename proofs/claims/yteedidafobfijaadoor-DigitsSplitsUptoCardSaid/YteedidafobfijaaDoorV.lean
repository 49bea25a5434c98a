/-
  digits' law DigitsSplits: whoever has the lists marks them, then lets them grow.
-/
import Derived.Test.YteedidafobfijaaDoorT
namespace Go.Proofs.YteedidafobfijaaDoor
open Go Go.HL P5
namespace B
set_option maxRecDepth 100000
set_option maxHeartbeats 4000000
set_option linter.unusedSimpArgs false
variable {n : Nat} {hB : Nat} {fresh : Nat} {vo vw : HV}

theorem Full.own {hs : HS} {x : Two} (h : Full x) (w : Wr hs x.out x.co) (n : Nat) : OwnSl n hs 1 x.out x.co.length x.co := by
  rcases w with ⟨e1, e2⟩ | ⟨b, cap, opn, e1, e2⟩
  · rw [e1, e2]; exact OwnSl.nil n hs 1
  · rcases h with h | ⟨b', h⟩
    · rw [h] at e1; simp at e1
    · rw [h] at e1 ⊢
      simp at e1
      obtain ⟨rfl, _⟩ := e1
      exact ⟨by simp, .inr (.inl ⟨b', false, opn, [], rfl, e2⟩)⟩

theorem spoil18 (hs : HS) {C : List Two} (B : Bk isStr n hs hB C fresh fresh C.length vo vw) (hn : n ≤ hs.length) {b : Nat} (hf : Fit b C) (hbb : b ≤ 1099511627776) (hsz : C.length < 1000000) (hfr : fresh ≤ C.length) (hfull : ∀ (j : Nat) (x : Two), C[j]? = some x → fresh ≤ j → Full x) :
    HC Tryd.prog 18 [.ptr hB 0] hs fun r hs' => r = .bool true ∧ ∃ C' vo' vw', Bk isStr n hs' hB C' C'.length C'.length C'.length vo' vw' ∧ Fit (b + 12) C' ∧ C'.length = C.length + (C.length - fresh) ∧ Keeps n hs hs' := by
  have l0 : hload none hs (.ptr hB 0) = some vo := by simp only [hload, B.box]; rfl
  have l2 : hload none hs (.ptr hB 2) = some (.int .i64 (fresh : Nat)) := by simp only [hload, B.box]; rfl
  have hlo := B.out.len
  refine HC.wp mixed Tryd.func18 c18 ?_
  simp -implicitDefEqProofs (disch := first | omega | decide) only [vwp_skip, vwp_ret, vwp_exit, vwp_lab, vwp_seq, vwp_cond, vwp_block, vwp_scope, vwp_region, vwp_draw, vwp_loop, vcnd_tt, vcnd_ff, vthen_normal, vthen_ret, vthen_exit, vblock_normal, vblock_ret, vblock_exit, vreg_nil, vreg_cons, vhl_nil, vhl_op, vhl_guard, vguard_tt, vguard_ff, vguard_tf, vguard_ft, vguard_no, vact_op, vop_some, vput_some, vput_none, vsame_sm, vunit_sm, vget_nil, vget_cons, vget_some,
    vo_mv, vo_bin, vo_un, vo_ext, vo_len, vo_idxS, vo_idxStr, vo_load, vo_pick, vo_append, vo_bslice, evp, vo_nilc, vo_faddr, vo_store, vo_sliceSl, vo_sliceStr, vo_cInt, vo_copy, vo_mkSlice, vo_box, vo_build, vo_b2s, vb2s_sl, vb2s_nil, vcInt, vnil_ptr, vfaddr_ptr, beq_self_eq_true, eq_self, decide_true, decide_false, vb_lss, vb_leq, vb_gtr, vb_geq, vb_eql, vb_neq, vb_seql, vb_sneq, vb_beql, vb_bneq, vun_not, vlen_str, vlen_sl, vlen_nil, vext_tup, HX.ev, List.length_cons, List.length_nil, List.append_nil, List.nil_append, List.cons_append, List.set_cons_succ, List.set_cons_zero, List.getElem?_cons_succ, List.getElem?_cons_zero, Option.getD_some, Option.map_some, Option.map_none, List.map_cons, List.map_nil, if_true, Bool.not_true, Bool.not_false, Bool.false_eq_true, if_false, h18, frame0, List.replicate, Nat.sub]
  refine vcall_of ok27 rfl (holds hs B hf (by omega) (by omega)) ?_
  rintro _ hs ⟨rfl, rfl⟩
  simp -implicitDefEqProofs (disch := first | omega | decide) only [vwp_skip, vwp_ret, vwp_exit, vwp_lab, vwp_seq, vwp_cond, vwp_block, vwp_scope, vwp_region, vwp_draw, vwp_loop, vcnd_tt, vcnd_ff, vthen_normal, vthen_ret, vthen_exit, vblock_normal, vblock_ret, vblock_exit, vreg_nil, vreg_cons, vhl_nil, vhl_op, vhl_guard, vguard_tt, vguard_ff, vguard_tf, vguard_ft, vguard_no, vact_op, vop_some, vput_some, vput_none, vsame_sm, vunit_sm, vget_nil, vget_cons, vget_some,
    vo_mv, vo_bin, vo_un, vo_ext, vo_len, vo_idxS, vo_idxStr, vo_load, vo_pick, vo_append, vo_bslice, evp, vo_nilc, vo_faddr, vo_store, vo_sliceSl, vo_sliceStr, vo_cInt, vo_copy, vo_mkSlice, vo_box, vo_build, vo_b2s, vb2s_sl, vb2s_nil, vcInt, vnil_ptr, vfaddr_ptr, beq_self_eq_true, eq_self, decide_true, decide_false, vb_lss, vb_leq, vb_gtr, vb_geq, vb_eql, vb_neq, vb_seql, vb_sneq, vb_beql, vb_bneq, vun_not, vlen_str, vlen_sl, vlen_nil, vext_tup, HX.ev, List.length_cons, List.length_nil, List.append_nil, List.nil_append, List.cons_append, List.set_cons_succ, List.set_cons_zero, List.getElem?_cons_succ, List.getElem?_cons_zero, Option.getD_some, Option.map_some, Option.map_none, List.map_cons, List.map_nil, if_true, Bool.not_true, Bool.not_false, Bool.false_eq_true, if_false, l0, l2, hlo]
  refine HW.loopS (σ := Nat × List Two × HS) mixed (fun s => (.ptr hB 0 :: .undef :: .bool false :: .bool true :: .int .i64 (fresh : Nat) :: .int .i64 (C.length : Nat) :: .int .i64 (s.1 : Nat) :: .undef :: .undef :: .undef :: .undef :: .undef :: .undef :: .undef :: .undef :: .undef :: .undef :: .undef :: .undef :: .undef :: .undef :: .undef :: .undef :: .undef :: .undef :: .undef :: .undef :: .undef :: .undef :: .undef :: .undef :: .undef :: .undef :: .undef :: .undef :: .undef :: .undef :: .undef :: .undef :: .undef :: .undef :: .undef :: .undef :: .undef :: .undef :: .undef :: .undef :: .undef :: .undef :: .undef :: .undef :: .undef :: .undef :: .undef :: .undef :: .undef :: .undef :: .undef :: .undef :: .undef :: .undef :: .undef :: .undef :: .undef :: .undef :: .undef :: .undef :: .undef :: .undef :: .undef :: .undef :: .undef :: .undef :: .undef :: .undef :: .undef :: .undef :: .undef :: .undef :: .undef :: .undef :: .undef :: .undef :: .undef :: .undef :: .undef :: .undef :: .undef :: .undef :: .undef :: .undef :: .undef :: .undef :: .undef :: .undef :: .undef :: .undef :: .undef :: .undef :: .undef :: .undef :: .undef :: .undef :: .undef :: .undef :: .undef :: .undef :: .undef :: .undef :: .undef :: .undef :: .undef :: .undef :: .undef :: .undef :: .undef :: .undef :: .undef :: .undef :: .undef :: .undef :: .undef :: .undef :: .undef :: .undef :: .undef :: .undef :: .undef :: .undef :: .undef :: .undef :: .undef :: .undef :: .undef :: .undef :: .undef :: .undef :: .undef :: .undef :: .undef :: .undef :: .undef :: [])) (fun s => s.2.2) (fun s => C.length - s.1)
    (fun s => fresh ≤ s.1 ∧ s.1 ≤ C.length ∧ s.2.1.length = C.length ∧ Fit b s.2.1 ∧ Keeps n hs s.2.2 ∧ n ≤ s.2.2.length ∧ Bk isStr n s.2.2 hB s.2.1 fresh fresh C.length vo vw ∧ ∀ (j : Nat) (x : Two), s.2.1[j]? = some x → fresh ≤ j → Full x)
    (fresh, C, hs) ⟨Nat.le_refl _, hfr, rfl, hf, Keeps.refl hn, hn, B, hfull⟩ rfl (by (repeat first | exact Less.nil | refine Less.undef _ ?_ | refine Less.keep _ ?_)) ?_
  rintro ⟨i, D, g⟩ ⟨h1, h2, hD, hfD, hk, hng, BD, hFD⟩
  simp only at h1 h2 hD hfD hk hng BD hFD ⊢
  by_cases hi : i < C.length
  · have hlt : decide ((i : Int) < (C.length : Nat)) = true := by simp; omega
    have hx : D[i]? = some D[i] := List.getElem?_eq_getElem (by omega)
    obtain ⟨L, hL⟩ : ∃ L, L = D[i].co.length := ⟨_, rfl⟩
    have hLb := (hfD _ (List.getElem_mem (show i < D.length by omega))).2
    simp -implicitDefEqProofs (disch := first | omega | decide) only [vwp_skip, vwp_ret, vwp_exit, vwp_lab, vwp_seq, vwp_cond, vwp_block, vwp_scope, vwp_region, vwp_draw, vwp_loop, vcnd_tt, vcnd_ff, vthen_normal, vthen_ret, vthen_exit, vblock_normal, vblock_ret, vblock_exit, vreg_nil, vreg_cons, vhl_nil, vhl_op, vhl_guard, vguard_tt, vguard_ff, vguard_tf, vguard_ft, vguard_no, vact_op, vop_some, vput_some, vput_none, vsame_sm, vunit_sm, vget_nil, vget_cons, vget_some,
    vo_mv, vo_bin, vo_un, vo_ext, vo_len, vo_idxS, vo_idxStr, vo_load, vo_pick, vo_append, vo_bslice, evp, vo_nilc, vo_faddr, vo_store, vo_sliceSl, vo_sliceStr, vo_cInt, vo_copy, vo_mkSlice, vo_box, vo_build, vo_b2s, vb2s_sl, vb2s_nil, vcInt, vnil_ptr, vfaddr_ptr, beq_self_eq_true, eq_self, decide_true, decide_false, vb_lss, vb_leq, vb_gtr, vb_geq, vb_eql, vb_neq, vb_seql, vb_sneq, vb_beql, vb_bneq, vun_not, vlen_str, vlen_sl, vlen_nil, vext_tup, HX.ev, List.length_cons, List.length_nil, List.append_nil, List.nil_append, List.cons_append, List.set_cons_succ, List.set_cons_zero, List.getElem?_cons_succ, List.getElem?_cons_zero, Option.getD_some, Option.map_some, Option.map_none, List.map_cons, List.map_nil, if_true, Bool.not_true, Bool.not_false, Bool.false_eq_true, if_false, hlt]
    refine HW.loopS (σ := Nat × List Two × HS) mixed (fun s => (.ptr hB 0 :: .undef :: .bool false :: .bool true :: .int .i64 (fresh : Nat) :: .int .i64 (C.length : Nat) :: .int .i64 (i : Nat) :: .int .i64 (s.1 : Nat) :: .undef :: .undef :: .undef :: .undef :: .undef :: .undef :: .undef :: .undef :: .undef :: .undef :: .undef :: .undef :: .undef :: .undef :: .undef :: .undef :: .undef :: .undef :: .undef :: .undef :: .undef :: .undef :: .undef :: .undef :: .undef :: .undef :: .undef :: .undef :: .undef :: .undef :: .undef :: .undef :: .undef :: .undef :: .undef :: .undef :: .undef :: .undef :: .undef :: .undef :: .undef :: .undef :: .undef :: .undef :: .undef :: .undef :: .undef :: .undef :: .undef :: .undef :: .undef :: .undef :: .undef :: .undef :: .undef :: .undef :: .undef :: .undef :: .undef :: .undef :: .undef :: .undef :: .undef :: .undef :: .undef :: .undef :: .undef :: .undef :: .undef :: .undef :: .undef :: .undef :: .undef :: .undef :: .undef :: .undef :: .undef :: .undef :: .undef :: .undef :: .undef :: .undef :: .undef :: .undef :: .undef :: .undef :: .undef :: .undef :: .undef :: .undef :: .undef :: .undef :: .undef :: .undef :: .undef :: .undef :: .undef :: .undef :: .undef :: .undef :: .undef :: .undef :: .undef :: .undef :: .undef :: .undef :: .undef :: .undef :: .undef :: .undef :: .undef :: .undef :: .undef :: .undef :: .undef :: .undef :: .undef :: .undef :: .undef :: .undef :: .undef :: .undef :: .undef :: .undef :: .undef :: .undef :: .undef :: .undef :: .undef :: .undef :: .undef :: .undef :: .undef :: .undef :: [])) (fun s => s.2.2) (fun s => L - s.1)
      (fun s => s.1 ≤ L ∧ s.2.1.length = C.length ∧ Fit b s.2.1 ∧ Keeps n hs s.2.2 ∧ n ≤ s.2.2.length ∧ Bk isStr n s.2.2 hB s.2.1 fresh fresh C.length vo vw ∧ (∃ a, s.2.1[i]? = some a ∧ a.co.length = L) ∧ ∀ (j : Nat) (x : Two), s.2.1[j]? = some x → fresh ≤ j → Full x)
      (0, D, g) ⟨by simp, hD, hfD, hk, hng, BD, ⟨D[i], hx, hL.symm⟩, hFD⟩ rfl (by (repeat first | exact Less.nil | refine Less.undef _ ?_ | refine Less.keep _ ?_)) ?_
    rintro ⟨k, E, g⟩ ⟨g1, g2, g3, g4, g5, BE, ⟨a, ha, haL⟩, hFE⟩
    simp only at g1 g2 g3 g4 g5 BE ha haL hFE ⊢
    have m0 : hload none g (.ptr hB 0) = some vo := by simp only [hload, BE.box]; rfl
    have m1 : hload none g (.ptr hB 1) = some vw := by simp only [hload, BE.box]; rfl
    have so := BE.out.sl
    obtain ⟨p, hp1, hp2⟩ := so.idx (show (E.map Two.out)[i]? = some a.out by rw [List.getElem?_map, ha]; rfl) .i64
    obtain ⟨r1, r2, r3, r4⟩ := BE.rd a (List.mem_of_getElem? ha)
    have hal := r1.len
    rw [haL] at hal
    by_cases hkl : k < L
    · have hltk : decide ((k : Int) < (L : Nat)) = true := by simp; omega
      simp -implicitDefEqProofs (disch := first | omega | decide) only [vwp_skip, vwp_ret, vwp_exit, vwp_lab, vwp_seq, vwp_cond, vwp_block, vwp_scope, vwp_region, vwp_draw, vwp_loop, vcnd_tt, vcnd_ff, vthen_normal, vthen_ret, vthen_exit, vblock_normal, vblock_ret, vblock_exit, vreg_nil, vreg_cons, vhl_nil, vhl_op, vhl_guard, vguard_tt, vguard_ff, vguard_tf, vguard_ft, vguard_no, vact_op, vop_some, vput_some, vput_none, vsame_sm, vunit_sm, vget_nil, vget_cons, vget_some,
    vo_mv, vo_bin, vo_un, vo_ext, vo_len, vo_idxS, vo_idxStr, vo_load, vo_pick, vo_append, vo_bslice, evp, vo_nilc, vo_faddr, vo_store, vo_sliceSl, vo_sliceStr, vo_cInt, vo_copy, vo_mkSlice, vo_box, vo_build, vo_b2s, vb2s_sl, vb2s_nil, vcInt, vnil_ptr, vfaddr_ptr, beq_self_eq_true, eq_self, decide_true, decide_false, vb_lss, vb_leq, vb_gtr, vb_geq, vb_eql, vb_neq, vb_seql, vb_sneq, vb_beql, vb_bneq, vun_not, vlen_str, vlen_sl, vlen_nil, vext_tup, HX.ev, List.length_cons, List.length_nil, List.append_nil, List.nil_append, List.cons_append, List.set_cons_succ, List.set_cons_zero, List.getElem?_cons_succ, List.getElem?_cons_zero, Option.getD_some, Option.map_some, Option.map_none, List.map_cons, List.map_nil, if_true, Bool.not_true, Bool.not_false, Bool.false_eq_true, if_false, m0, so.sOk, hp1, hp2, hal, hltk]
      refine hwp_draw mixed rfl ?_
      simp -implicitDefEqProofs (disch := first | omega | decide) only [vwp_skip, vwp_ret, vwp_exit, vwp_lab, vwp_seq, vwp_cond, vwp_block, vwp_scope, vwp_region, vwp_draw, vwp_loop, vcnd_tt, vcnd_ff, vthen_normal, vthen_ret, vthen_exit, vblock_normal, vblock_ret, vblock_exit, vreg_nil, vreg_cons, vhl_nil, vhl_op, vhl_guard, vguard_tt, vguard_ff, vguard_tf, vguard_ft, vguard_no, vact_op, vop_some, vput_some, vput_none, vsame_sm, vunit_sm, vget_nil, vget_cons, vget_some,
    vo_mv, vo_bin, vo_un, vo_ext, vo_len, vo_idxS, vo_idxStr, vo_load, vo_pick, vo_append, vo_bslice, evp, vo_nilc, vo_faddr, vo_store, vo_sliceSl, vo_sliceStr, vo_cInt, vo_copy, vo_mkSlice, vo_box, vo_build, vo_b2s, vb2s_sl, vb2s_nil, vcInt, vnil_ptr, vfaddr_ptr, beq_self_eq_true, eq_self, decide_true, decide_false, vb_lss, vb_leq, vb_gtr, vb_geq, vb_eql, vb_neq, vb_seql, vb_sneq, vb_beql, vb_bneq, vun_not, vlen_str, vlen_sl, vlen_nil, vext_tup, HX.ev, List.length_cons, List.length_nil, List.append_nil, List.nil_append, List.cons_append, List.set_cons_succ, List.set_cons_zero, List.getElem?_cons_succ, List.getElem?_cons_zero, Option.getD_some, Option.map_some, Option.map_none, List.map_cons, List.map_nil, if_true, Bool.not_true, Bool.not_false, Bool.false_eq_true, if_false, vdr_nil, vdr_cons, vdr_op, vdr_some, vdr_loud, vdr_lsome, HOp.looks, Nat.reduceAdd, m0, so.sOk, hp1, hp2]
      refine vdr_call ok28 rfl (mark g i (by omega)) ?_
      rintro _ g6 ⟨rfl, hk6⟩
      have B6 := BE.keep hk6
      have o6 : hload none g6 (.ptr hB 0) = some vo := by simp only [hload, B6.box]; rfl
      have s6 := B6.out.sl
      obtain ⟨p6, hp61, hp62⟩ := s6.idx (show (E.map Two.out)[i]? = some a.out by rw [List.getElem?_map, ha]; rfl) .i64
      obtain rfl : p = p6 := by rw [hp1] at hp61; exact Option.some.inj hp61
      obtain ⟨x, hx0⟩ : ∃ x, x = HV.str (markL i) := ⟨_, rfl⟩
      rw [← hx0]
      obtain ⟨b, g7, e1, e2, e3, e4, e5, B7⟩ := B6.setOut ha h1 hi (by omega) (x := x) (by rw [hx0]; rfl) (by rw [hx0]; rfl) ⟨_, hx0⟩ (k := k) .i64
      refine ⟨⟨fun _ => ?_, fun _ => ?_, fun _ => ?_, trivial⟩, ?_⟩
      · simp -implicitDefEqProofs (disch := first | omega | decide) only [vwp_skip, vwp_ret, vwp_exit, vwp_lab, vwp_seq, vwp_cond, vwp_block, vwp_scope, vwp_region, vwp_draw, vwp_loop, vcnd_tt, vcnd_ff, vthen_normal, vthen_ret, vthen_exit, vblock_normal, vblock_ret, vblock_exit, vreg_nil, vreg_cons, vhl_nil, vhl_op, vhl_guard, vguard_tt, vguard_ff, vguard_tf, vguard_ft, vguard_no, vact_op, vop_some, vput_some, vput_none, vsame_sm, vunit_sm, vget_nil, vget_cons, vget_some,
    vo_mv, vo_bin, vo_un, vo_ext, vo_len, vo_idxS, vo_idxStr, vo_load, vo_pick, vo_append, vo_bslice, evp, vo_nilc, vo_faddr, vo_store, vo_sliceSl, vo_sliceStr, vo_cInt, vo_copy, vo_mkSlice, vo_box, vo_build, vo_b2s, vb2s_sl, vb2s_nil, vcInt, vnil_ptr, vfaddr_ptr, beq_self_eq_true, eq_self, decide_true, decide_false, vb_lss, vb_leq, vb_gtr, vb_geq, vb_eql, vb_neq, vb_seql, vb_sneq, vb_beql, vb_bneq, vun_not, vlen_str, vlen_sl, vlen_nil, vext_tup, HX.ev, List.length_cons, List.length_nil, List.append_nil, List.nil_append, List.cons_append, List.set_cons_succ, List.set_cons_zero, List.getElem?_cons_succ, List.getElem?_cons_zero, Option.getD_some, Option.map_some, Option.map_none, List.map_cons, List.map_nil, if_true, Bool.not_true, Bool.not_false, Bool.false_eq_true, if_false, hp62]
      · simp -implicitDefEqProofs (disch := first | omega | decide) only [vwp_skip, vwp_ret, vwp_exit, vwp_lab, vwp_seq, vwp_cond, vwp_block, vwp_scope, vwp_region, vwp_draw, vwp_loop, vcnd_tt, vcnd_ff, vthen_normal, vthen_ret, vthen_exit, vblock_normal, vblock_ret, vblock_exit, vreg_nil, vreg_cons, vhl_nil, vhl_op, vhl_guard, vguard_tt, vguard_ff, vguard_tf, vguard_ft, vguard_no, vact_op, vop_some, vput_some, vput_none, vsame_sm, vunit_sm, vget_nil, vget_cons, vget_some,
    vo_mv, vo_bin, vo_un, vo_ext, vo_len, vo_idxS, vo_idxStr, vo_load, vo_pick, vo_append, vo_bslice, evp, vo_nilc, vo_faddr, vo_store, vo_sliceSl, vo_sliceStr, vo_cInt, vo_copy, vo_mkSlice, vo_box, vo_build, vo_b2s, vb2s_sl, vb2s_nil, vcInt, vnil_ptr, vfaddr_ptr, beq_self_eq_true, eq_self, decide_true, decide_false, vb_lss, vb_leq, vb_gtr, vb_geq, vb_eql, vb_neq, vb_seql, vb_sneq, vb_beql, vb_bneq, vun_not, vlen_str, vlen_sl, vlen_nil, vext_tup, HX.ev, List.length_cons, List.length_nil, List.append_nil, List.nil_append, List.cons_append, List.set_cons_succ, List.set_cons_zero, List.getElem?_cons_succ, List.getElem?_cons_zero, Option.getD_some, Option.map_some, Option.map_none, List.map_cons, List.map_nil, if_true, Bool.not_true, Bool.not_false, Bool.false_eq_true, if_false, s6.sOk, hp1]
      · simp -implicitDefEqProofs (disch := first | omega | decide) only [vwp_skip, vwp_ret, vwp_exit, vwp_lab, vwp_seq, vwp_cond, vwp_block, vwp_scope, vwp_region, vwp_draw, vwp_loop, vcnd_tt, vcnd_ff, vthen_normal, vthen_ret, vthen_exit, vblock_normal, vblock_ret, vblock_exit, vreg_nil, vreg_cons, vhl_nil, vhl_op, vhl_guard, vguard_tt, vguard_ff, vguard_tf, vguard_ft, vguard_no, vact_op, vop_some, vput_some, vput_none, vsame_sm, vunit_sm, vget_nil, vget_cons, vget_some,
    vo_mv, vo_bin, vo_un, vo_ext, vo_len, vo_idxS, vo_idxStr, vo_load, vo_pick, vo_append, vo_bslice, evp, vo_nilc, vo_faddr, vo_store, vo_sliceSl, vo_sliceStr, vo_cInt, vo_copy, vo_mkSlice, vo_box, vo_build, vo_b2s, vb2s_sl, vb2s_nil, vcInt, vnil_ptr, vfaddr_ptr, beq_self_eq_true, eq_self, decide_true, decide_false, vb_lss, vb_leq, vb_gtr, vb_geq, vb_eql, vb_neq, vb_seql, vb_sneq, vb_beql, vb_bneq, vun_not, vlen_str, vlen_sl, vlen_nil, vext_tup, HX.ev, List.length_cons, List.length_nil, List.append_nil, List.nil_append, List.cons_append, List.set_cons_succ, List.set_cons_zero, List.getElem?_cons_succ, List.getElem?_cons_zero, Option.getD_some, Option.map_some, Option.map_none, List.map_cons, List.map_nil, if_true, Bool.not_true, Bool.not_false, Bool.false_eq_true, if_false, o6]
      simp -implicitDefEqProofs (disch := first | omega | decide) only [vwp_skip, vwp_ret, vwp_exit, vwp_lab, vwp_seq, vwp_cond, vwp_block, vwp_scope, vwp_region, vwp_draw, vwp_loop, vcnd_tt, vcnd_ff, vthen_normal, vthen_ret, vthen_exit, vblock_normal, vblock_ret, vblock_exit, vreg_nil, vreg_cons, vhl_nil, vhl_op, vhl_guard, vguard_tt, vguard_ff, vguard_tf, vguard_ft, vguard_no, vact_op, vop_some, vput_some, vput_none, vsame_sm, vunit_sm, vget_nil, vget_cons, vget_some,
    vo_mv, vo_bin, vo_un, vo_ext, vo_len, vo_idxS, vo_idxStr, vo_load, vo_pick, vo_append, vo_bslice, evp, vo_nilc, vo_faddr, vo_store, vo_sliceSl, vo_sliceStr, vo_cInt, vo_copy, vo_mkSlice, vo_box, vo_build, vo_b2s, vb2s_sl, vb2s_nil, vcInt, vnil_ptr, vfaddr_ptr, beq_self_eq_true, eq_self, decide_true, decide_false, vb_lss, vb_leq, vb_gtr, vb_geq, vb_eql, vb_neq, vb_seql, vb_sneq, vb_beql, vb_bneq, vun_not, vlen_str, vlen_sl, vlen_nil, vext_tup, HX.ev, List.length_cons, List.length_nil, List.append_nil, List.nil_append, List.cons_append, List.set_cons_succ, List.set_cons_zero, List.getElem?_cons_succ, List.getElem?_cons_zero, Option.getD_some, Option.map_some, Option.map_none, List.map_cons, List.map_nil, if_true, Bool.not_true, Bool.not_false, Bool.false_eq_true, if_false, vdr_nil, vdr_cons, vdr_op, vdr_some, vdr_loud, vdr_lsome, HOp.looks, Nat.reduceAdd, e1, e2, e3]
      refine ⟨⟨fun h => absurd (show true = false from h) (by decide), fun h => absurd (show true = false from h) (by decide), fun h => absurd (show true = false from h) (by decide), fun h => absurd (show true = false from h) (by decide), trivial⟩, ?_⟩
      have ha7 : (E.set i ⟨a.out, a.want, a.co.set k x, a.cw⟩)[i]? = some ⟨a.out, a.want, a.co.set k x, a.cw⟩ := by rw [List.getElem?_set]; simp [lt_of_get ha]
      have q1 : hload none g7 (.ptr hB 1) = some vw := by simp only [hload, B7.box]; rfl
      have s7 := B7.want.sl
      obtain ⟨p7, hp71, hp72⟩ := s7.idx (show ((E.set i ⟨a.out, a.want, a.co.set k x, a.cw⟩).map Two.want)[i]? = some a.want by rw [List.getElem?_map, ha7]; rfl) .i64
      refine hwp_draw mixed rfl ?_
      simp -implicitDefEqProofs (disch := first | omega | decide) only [vwp_skip, vwp_ret, vwp_exit, vwp_lab, vwp_seq, vwp_cond, vwp_block, vwp_scope, vwp_region, vwp_draw, vwp_loop, vcnd_tt, vcnd_ff, vthen_normal, vthen_ret, vthen_exit, vblock_normal, vblock_ret, vblock_exit, vreg_nil, vreg_cons, vhl_nil, vhl_op, vhl_guard, vguard_tt, vguard_ff, vguard_tf, vguard_ft, vguard_no, vact_op, vop_some, vput_some, vput_none, vsame_sm, vunit_sm, vget_nil, vget_cons, vget_some,
    vo_mv, vo_bin, vo_un, vo_ext, vo_len, vo_idxS, vo_idxStr, vo_load, vo_pick, vo_append, vo_bslice, evp, vo_nilc, vo_faddr, vo_store, vo_sliceSl, vo_sliceStr, vo_cInt, vo_copy, vo_mkSlice, vo_box, vo_build, vo_b2s, vb2s_sl, vb2s_nil, vcInt, vnil_ptr, vfaddr_ptr, beq_self_eq_true, eq_self, decide_true, decide_false, vb_lss, vb_leq, vb_gtr, vb_geq, vb_eql, vb_neq, vb_seql, vb_sneq, vb_beql, vb_bneq, vun_not, vlen_str, vlen_sl, vlen_nil, vext_tup, HX.ev, List.length_cons, List.length_nil, List.append_nil, List.nil_append, List.cons_append, List.set_cons_succ, List.set_cons_zero, List.getElem?_cons_succ, List.getElem?_cons_zero, Option.getD_some, Option.map_some, Option.map_none, List.map_cons, List.map_nil, if_true, Bool.not_true, Bool.not_false, Bool.false_eq_true, if_false, vdr_nil, vdr_cons, vdr_op, vdr_some, vdr_loud, vdr_lsome, HOp.looks, Nat.reduceAdd, q1, s7.sOk, hp71, hp72]
      refine vdr_call ok28 rfl (mark g7 i (by omega)) ?_
      rintro _ g8 ⟨rfl, hk8⟩
      rw [← hx0]
      have B8 := B7.keep hk8
      have o8 : hload none g8 (.ptr hB 1) = some vw := by simp only [hload, B8.box]; rfl
      have s8 := B8.want.sl
      obtain ⟨p8, hp81, hp82⟩ := s8.idx (show ((E.set i ⟨a.out, a.want, a.co.set k x, a.cw⟩).map Two.want)[i]? = some a.want by rw [List.getElem?_map, ha7]; rfl) .i64
      obtain rfl : p7 = p8 := by rw [hp71] at hp81; exact Option.some.inj hp81
      have hcw : a.cw.length = L := by rw [← (g3 a (List.mem_of_getElem? ha)).1]; exact haL
      obtain ⟨b', g9, f1, f2, f3, f4, f5, B9⟩ := B8.setWant ha7 h1 hi (by simp only; omega) (x := x) (by rw [hx0]; rfl) (by rw [hx0]; rfl) ⟨_, hx0⟩ (k := k) .i64
      refine ⟨⟨fun _ => ?_, fun _ => ?_, fun _ => ?_, trivial⟩, ?_⟩
      · simp -implicitDefEqProofs (disch := first | omega | decide) only [vwp_skip, vwp_ret, vwp_exit, vwp_lab, vwp_seq, vwp_cond, vwp_block, vwp_scope, vwp_region, vwp_draw, vwp_loop, vcnd_tt, vcnd_ff, vthen_normal, vthen_ret, vthen_exit, vblock_normal, vblock_ret, vblock_exit, vreg_nil, vreg_cons, vhl_nil, vhl_op, vhl_guard, vguard_tt, vguard_ff, vguard_tf, vguard_ft, vguard_no, vact_op, vop_some, vput_some, vput_none, vsame_sm, vunit_sm, vget_nil, vget_cons, vget_some,
    vo_mv, vo_bin, vo_un, vo_ext, vo_len, vo_idxS, vo_idxStr, vo_load, vo_pick, vo_append, vo_bslice, evp, vo_nilc, vo_faddr, vo_store, vo_sliceSl, vo_sliceStr, vo_cInt, vo_copy, vo_mkSlice, vo_box, vo_build, vo_b2s, vb2s_sl, vb2s_nil, vcInt, vnil_ptr, vfaddr_ptr, beq_self_eq_true, eq_self, decide_true, decide_false, vb_lss, vb_leq, vb_gtr, vb_geq, vb_eql, vb_neq, vb_seql, vb_sneq, vb_beql, vb_bneq, vun_not, vlen_str, vlen_sl, vlen_nil, vext_tup, HX.ev, List.length_cons, List.length_nil, List.append_nil, List.nil_append, List.cons_append, List.set_cons_succ, List.set_cons_zero, List.getElem?_cons_succ, List.getElem?_cons_zero, Option.getD_some, Option.map_some, Option.map_none, List.map_cons, List.map_nil, if_true, Bool.not_true, Bool.not_false, Bool.false_eq_true, if_false, hp82]
      · simp -implicitDefEqProofs (disch := first | omega | decide) only [vwp_skip, vwp_ret, vwp_exit, vwp_lab, vwp_seq, vwp_cond, vwp_block, vwp_scope, vwp_region, vwp_draw, vwp_loop, vcnd_tt, vcnd_ff, vthen_normal, vthen_ret, vthen_exit, vblock_normal, vblock_ret, vblock_exit, vreg_nil, vreg_cons, vhl_nil, vhl_op, vhl_guard, vguard_tt, vguard_ff, vguard_tf, vguard_ft, vguard_no, vact_op, vop_some, vput_some, vput_none, vsame_sm, vunit_sm, vget_nil, vget_cons, vget_some,
    vo_mv, vo_bin, vo_un, vo_ext, vo_len, vo_idxS, vo_idxStr, vo_load, vo_pick, vo_append, vo_bslice, evp, vo_nilc, vo_faddr, vo_store, vo_sliceSl, vo_sliceStr, vo_cInt, vo_copy, vo_mkSlice, vo_box, vo_build, vo_b2s, vb2s_sl, vb2s_nil, vcInt, vnil_ptr, vfaddr_ptr, beq_self_eq_true, eq_self, decide_true, decide_false, vb_lss, vb_leq, vb_gtr, vb_geq, vb_eql, vb_neq, vb_seql, vb_sneq, vb_beql, vb_bneq, vun_not, vlen_str, vlen_sl, vlen_nil, vext_tup, HX.ev, List.length_cons, List.length_nil, List.append_nil, List.nil_append, List.cons_append, List.set_cons_succ, List.set_cons_zero, List.getElem?_cons_succ, List.getElem?_cons_zero, Option.getD_some, Option.map_some, Option.map_none, List.map_cons, List.map_nil, if_true, Bool.not_true, Bool.not_false, Bool.false_eq_true, if_false, s8.sOk, hp71]
      · simp -implicitDefEqProofs (disch := first | omega | decide) only [vwp_skip, vwp_ret, vwp_exit, vwp_lab, vwp_seq, vwp_cond, vwp_block, vwp_scope, vwp_region, vwp_draw, vwp_loop, vcnd_tt, vcnd_ff, vthen_normal, vthen_ret, vthen_exit, vblock_normal, vblock_ret, vblock_exit, vreg_nil, vreg_cons, vhl_nil, vhl_op, vhl_guard, vguard_tt, vguard_ff, vguard_tf, vguard_ft, vguard_no, vact_op, vop_some, vput_some, vput_none, vsame_sm, vunit_sm, vget_nil, vget_cons, vget_some,
    vo_mv, vo_bin, vo_un, vo_ext, vo_len, vo_idxS, vo_idxStr, vo_load, vo_pick, vo_append, vo_bslice, evp, vo_nilc, vo_faddr, vo_store, vo_sliceSl, vo_sliceStr, vo_cInt, vo_copy, vo_mkSlice, vo_box, vo_build, vo_b2s, vb2s_sl, vb2s_nil, vcInt, vnil_ptr, vfaddr_ptr, beq_self_eq_true, eq_self, decide_true, decide_false, vb_lss, vb_leq, vb_gtr, vb_geq, vb_eql, vb_neq, vb_seql, vb_sneq, vb_beql, vb_bneq, vun_not, vlen_str, vlen_sl, vlen_nil, vext_tup, HX.ev, List.length_cons, List.length_nil, List.append_nil, List.nil_append, List.cons_append, List.set_cons_succ, List.set_cons_zero, List.getElem?_cons_succ, List.getElem?_cons_zero, Option.getD_some, Option.map_some, Option.map_none, List.map_cons, List.map_nil, if_true, Bool.not_true, Bool.not_false, Bool.false_eq_true, if_false, o8]
      simp -implicitDefEqProofs (disch := first | omega | decide) only [vwp_skip, vwp_ret, vwp_exit, vwp_lab, vwp_seq, vwp_cond, vwp_block, vwp_scope, vwp_region, vwp_draw, vwp_loop, vcnd_tt, vcnd_ff, vthen_normal, vthen_ret, vthen_exit, vblock_normal, vblock_ret, vblock_exit, vreg_nil, vreg_cons, vhl_nil, vhl_op, vhl_guard, vguard_tt, vguard_ff, vguard_tf, vguard_ft, vguard_no, vact_op, vop_some, vput_some, vput_none, vsame_sm, vunit_sm, vget_nil, vget_cons, vget_some,
    vo_mv, vo_bin, vo_un, vo_ext, vo_len, vo_idxS, vo_idxStr, vo_load, vo_pick, vo_append, vo_bslice, evp, vo_nilc, vo_faddr, vo_store, vo_sliceSl, vo_sliceStr, vo_cInt, vo_copy, vo_mkSlice, vo_box, vo_build, vo_b2s, vb2s_sl, vb2s_nil, vcInt, vnil_ptr, vfaddr_ptr, beq_self_eq_true, eq_self, decide_true, decide_false, vb_lss, vb_leq, vb_gtr, vb_geq, vb_eql, vb_neq, vb_seql, vb_sneq, vb_beql, vb_bneq, vun_not, vlen_str, vlen_sl, vlen_nil, vext_tup, HX.ev, List.length_cons, List.length_nil, List.append_nil, List.nil_append, List.cons_append, List.set_cons_succ, List.set_cons_zero, List.getElem?_cons_succ, List.getElem?_cons_zero, Option.getD_some, Option.map_some, Option.map_none, List.map_cons, List.map_nil, if_true, Bool.not_true, Bool.not_false, Bool.false_eq_true, if_false, vdr_nil, vdr_cons, vdr_op, vdr_some, vdr_loud, vdr_lsome, HOp.looks, Nat.reduceAdd, f1, f2, f3]
      refine ⟨⟨fun h => absurd (show true = false from h) (by decide), fun h => absurd (show true = false from h) (by decide), fun h => absurd (show true = false from h) (by decide), fun h => absurd (show true = false from h) (by decide), trivial⟩, ?_⟩
      simp -implicitDefEqProofs (disch := first | omega | decide) only [vwp_skip, vwp_ret, vwp_exit, vwp_lab, vwp_seq, vwp_cond, vwp_block, vwp_scope, vwp_region, vwp_draw, vwp_loop, vcnd_tt, vcnd_ff, vthen_normal, vthen_ret, vthen_exit, vblock_normal, vblock_ret, vblock_exit, vreg_nil, vreg_cons, vhl_nil, vhl_op, vhl_guard, vguard_tt, vguard_ff, vguard_tf, vguard_ft, vguard_no, vact_op, vop_some, vput_some, vput_none, vsame_sm, vunit_sm, vget_nil, vget_cons, vget_some,
    vo_mv, vo_bin, vo_un, vo_ext, vo_len, vo_idxS, vo_idxStr, vo_load, vo_pick, vo_append, vo_bslice, evp, vo_nilc, vo_faddr, vo_store, vo_sliceSl, vo_sliceStr, vo_cInt, vo_copy, vo_mkSlice, vo_box, vo_build, vo_b2s, vb2s_sl, vb2s_nil, vcInt, vnil_ptr, vfaddr_ptr, beq_self_eq_true, eq_self, decide_true, decide_false, vb_lss, vb_leq, vb_gtr, vb_geq, vb_eql, vb_neq, vb_seql, vb_sneq, vb_beql, vb_bneq, vun_not, vlen_str, vlen_sl, vlen_nil, vext_tup, HX.ev, List.length_cons, List.length_nil, List.append_nil, List.nil_append, List.cons_append, List.set_cons_succ, List.set_cons_zero, List.getElem?_cons_succ, List.getElem?_cons_zero, Option.getD_some, Option.map_some, Option.map_none, List.map_cons, List.map_nil, if_true, Bool.not_true, Bool.not_false, Bool.false_eq_true, if_false, vadd1]
      rw [List.set_set] at B9
      have ha9 : (E.set i ⟨a.out, a.want, a.co.set k x, a.cw.set k x⟩)[i]? = some ⟨a.out, a.want, a.co.set k x, a.cw.set k x⟩ := by rw [List.getElem?_set]; simp [lt_of_get ha]
      have kk : Keeps n g g9 := ⟨by rw [f4]; have := hk8.1; have := hk6.1; omega, fun j hj => by
        rw [f5 j hj, hk8.2 j (by have := hk6.1; omega), e5 j hj, hk6.2 j (by omega)]⟩
      refine ⟨(k + 1, E.set i ⟨a.out, a.want, a.co.set k x, a.cw.set k x⟩, g9), by simp only; omega, ⟨by simp only; omega, by simpa using g2, fun y hy => ?_, g4.trans kk, kk.1, B9, ⟨_, ha9, by simpa using haL⟩, fun j y hy hj => ?_⟩, rfl, by (repeat first | exact Less.nil | refine Less.undef _ ?_ | refine Less.keep _ ?_)⟩
      · rcases mem_set_two hy with rfl | hy
        · obtain ⟨z1, z2⟩ := g3 a (List.mem_of_getElem? ha)
          exact ⟨by simp only [z1], by simpa using z2⟩
        · exact g3 y hy
      · rw [List.getElem?_set] at hy
        split at hy
        · rename_i hij
          subst hij
          rw [if_pos (lt_of_get ha)] at hy
          simp at hy; subst hy
          have := hFE i a ha hj
          simpa [Full] using this
        · exact hFE j y hy hj
    · obtain rfl : k = L := by omega
      have hltk : decide (((k : Nat) : Int) < (k : Nat)) = false := by simp
      simp -implicitDefEqProofs (disch := first | omega | decide) only [vwp_skip, vwp_ret, vwp_exit, vwp_lab, vwp_seq, vwp_cond, vwp_block, vwp_scope, vwp_region, vwp_draw, vwp_loop, vcnd_tt, vcnd_ff, vthen_normal, vthen_ret, vthen_exit, vblock_normal, vblock_ret, vblock_exit, vreg_nil, vreg_cons, vhl_nil, vhl_op, vhl_guard, vguard_tt, vguard_ff, vguard_tf, vguard_ft, vguard_no, vact_op, vop_some, vput_some, vput_none, vsame_sm, vunit_sm, vget_nil, vget_cons, vget_some,
    vo_mv, vo_bin, vo_un, vo_ext, vo_len, vo_idxS, vo_idxStr, vo_load, vo_pick, vo_append, vo_bslice, evp, vo_nilc, vo_faddr, vo_store, vo_sliceSl, vo_sliceStr, vo_cInt, vo_copy, vo_mkSlice, vo_box, vo_build, vo_b2s, vb2s_sl, vb2s_nil, vcInt, vnil_ptr, vfaddr_ptr, beq_self_eq_true, eq_self, decide_true, decide_false, vb_lss, vb_leq, vb_gtr, vb_geq, vb_eql, vb_neq, vb_seql, vb_sneq, vb_beql, vb_bneq, vun_not, vlen_str, vlen_sl, vlen_nil, vext_tup, HX.ev, List.length_cons, List.length_nil, List.append_nil, List.nil_append, List.cons_append, List.set_cons_succ, List.set_cons_zero, List.getElem?_cons_succ, List.getElem?_cons_zero, Option.getD_some, Option.map_some, Option.map_none, List.map_cons, List.map_nil, if_true, Bool.not_true, Bool.not_false, Bool.false_eq_true, if_false, m0, so.sOk, hp1, hp2, hal, hltk, vadd1]
      exact ⟨(i + 1, E, g), by simp only; omega, ⟨by simp only; omega, by simp only; omega, g2, g3, g4, g5, BE, hFE⟩, rfl, by (repeat first | exact Less.nil | refine Less.undef _ ?_ | refine Less.keep _ ?_)⟩
  · obtain rfl : i = C.length := by omega
    have hlt : decide (((C.length : Nat) : Int) < (C.length : Nat)) = false := by simp
    simp -implicitDefEqProofs (disch := first | omega | decide) only [vwp_skip, vwp_ret, vwp_exit, vwp_lab, vwp_seq, vwp_cond, vwp_block, vwp_scope, vwp_region, vwp_draw, vwp_loop, vcnd_tt, vcnd_ff, vthen_normal, vthen_ret, vthen_exit, vblock_normal, vblock_ret, vblock_exit, vreg_nil, vreg_cons, vhl_nil, vhl_op, vhl_guard, vguard_tt, vguard_ff, vguard_tf, vguard_ft, vguard_no, vact_op, vop_some, vput_some, vput_none, vsame_sm, vunit_sm, vget_nil, vget_cons, vget_some,
    vo_mv, vo_bin, vo_un, vo_ext, vo_len, vo_idxS, vo_idxStr, vo_load, vo_pick, vo_append, vo_bslice, evp, vo_nilc, vo_faddr, vo_store, vo_sliceSl, vo_sliceStr, vo_cInt, vo_copy, vo_mkSlice, vo_box, vo_build, vo_b2s, vb2s_sl, vb2s_nil, vcInt, vnil_ptr, vfaddr_ptr, beq_self_eq_true, eq_self, decide_true, decide_false, vb_lss, vb_leq, vb_gtr, vb_geq, vb_eql, vb_neq, vb_seql, vb_sneq, vb_beql, vb_bneq, vun_not, vlen_str, vlen_sl, vlen_nil, vext_tup, HX.ev, List.length_cons, List.length_nil, List.append_nil, List.nil_append, List.cons_append, List.set_cons_succ, List.set_cons_zero, List.getElem?_cons_succ, List.getElem?_cons_zero, Option.getD_some, Option.map_some, Option.map_none, List.map_cons, List.map_nil, if_true, Bool.not_true, Bool.not_false, Bool.false_eq_true, if_false, hlt]
    refine vcall_of ok27 rfl (holds g BD hfD (by omega) (by omega)) ?_
    rintro _ g ⟨rfl, rfl⟩
    simp -implicitDefEqProofs (disch := first | omega | decide) only [vwp_skip, vwp_ret, vwp_exit, vwp_lab, vwp_seq, vwp_cond, vwp_block, vwp_scope, vwp_region, vwp_draw, vwp_loop, vcnd_tt, vcnd_ff, vthen_normal, vthen_ret, vthen_exit, vblock_normal, vblock_ret, vblock_exit, vreg_nil, vreg_cons, vhl_nil, vhl_op, vhl_guard, vguard_tt, vguard_ff, vguard_tf, vguard_ft, vguard_no, vact_op, vop_some, vput_some, vput_none, vsame_sm, vunit_sm, vget_nil, vget_cons, vget_some,
    vo_mv, vo_bin, vo_un, vo_ext, vo_len, vo_idxS, vo_idxStr, vo_load, vo_pick, vo_append, vo_bslice, evp, vo_nilc, vo_faddr, vo_store, vo_sliceSl, vo_sliceStr, vo_cInt, vo_copy, vo_mkSlice, vo_box, vo_build, vo_b2s, vb2s_sl, vb2s_nil, vcInt, vnil_ptr, vfaddr_ptr, beq_self_eq_true, eq_self, decide_true, decide_false, vb_lss, vb_leq, vb_gtr, vb_geq, vb_eql, vb_neq, vb_seql, vb_sneq, vb_beql, vb_bneq, vun_not, vlen_str, vlen_sl, vlen_nil, vext_tup, HX.ev, List.length_cons, List.length_nil, List.append_nil, List.nil_append, List.cons_append, List.set_cons_succ, List.set_cons_zero, List.getElem?_cons_succ, List.getElem?_cons_zero, Option.getD_some, Option.map_some, Option.map_none, List.map_cons, List.map_nil, if_true, Bool.not_true, Bool.not_false, Bool.false_eq_true, if_false]
    clear hlo l0 l2
    refine HW.loopS (σ := Nat × List Two × HS × HV × HV) mixed (fun s => (.ptr hB 0 :: .undef :: .bool false :: .bool true :: .int .i64 (fresh : Nat) :: .int .i64 (C.length : Nat) :: .undef :: .undef :: .int .i64 (s.1 : Nat) :: .undef :: .undef :: .undef :: .undef :: .undef :: .undef :: .undef :: .undef :: .undef :: .undef :: .undef :: .undef :: .undef :: .undef :: .undef :: .undef :: .undef :: .undef :: .undef :: .undef :: .undef :: .undef :: .undef :: .undef :: .undef :: .undef :: .undef :: .undef :: .undef :: .undef :: .undef :: .undef :: .undef :: .undef :: .undef :: .undef :: .undef :: .undef :: .undef :: .undef :: .undef :: .undef :: .undef :: .undef :: .undef :: .undef :: .undef :: .undef :: .undef :: .undef :: .undef :: .undef :: .undef :: .undef :: .undef :: .undef :: .undef :: .undef :: .undef :: .undef :: .undef :: .undef :: .undef :: .undef :: .undef :: .undef :: .undef :: .undef :: .undef :: .undef :: .undef :: .undef :: .undef :: .undef :: .undef :: .undef :: .undef :: .undef :: .undef :: .undef :: .undef :: .undef :: .undef :: .undef :: .undef :: .undef :: .undef :: .undef :: .undef :: .undef :: .undef :: .undef :: .undef :: .undef :: .undef :: .undef :: .undef :: .undef :: .undef :: .undef :: .undef :: .undef :: .undef :: .undef :: .undef :: .undef :: .undef :: .undef :: .undef :: .undef :: .undef :: .undef :: .undef :: .undef :: .undef :: .undef :: .undef :: .undef :: .undef :: .undef :: .undef :: .undef :: .undef :: .undef :: .undef :: .undef :: .undef :: .undef :: .undef :: .undef :: .undef :: .undef :: .undef :: [])) (fun s => s.2.2.1) (fun s => C.length - s.1)
      (fun s => fresh ≤ s.1 ∧ s.1 ≤ C.length ∧ s.2.1.length = s.1 - fresh ∧ Fit (b + 12) (D ++ s.2.1) ∧ Keeps n hs s.2.2.1 ∧ n ≤ s.2.2.1.length ∧ Bk isStr n s.2.2.1 hB (D ++ s.2.1) fresh fresh C.length s.2.2.2.1 s.2.2.2.2)
      (fresh, [], g, vo, vw) ⟨Nat.le_refl _, hfr, by simp, fun x hx => ⟨(hfD x (by simpa using hx)).1, Nat.le_trans (hfD x (by simpa using hx)).2 (by omega)⟩, hk, hng, by simpa using BD⟩ rfl (by (repeat first | exact Less.nil | refine Less.undef _ ?_ | refine Less.keep _ ?_)) ?_
    rintro ⟨i, G, g, vo, vw⟩ ⟨h1, h2, hG, hfG, hk, hng, BG⟩
    simp only at h1 h2 hG hfG hk hng BG ⊢
    have hDG : (D ++ G).length = C.length + (i - fresh) := by rw [List.length_append, hD, hG]
    have hmax : maxLen = 9223372036854775807 := rfl
    have m0 : hload none g (.ptr hB 0) = some vo := by simp only [hload, BG.box]; rfl
    by_cases hi : i < C.length
    · have hlt : decide ((i : Int) < (C.length : Nat)) = true := by simp; omega
      have hx : D[i]? = some D[i] := List.getElem?_eq_getElem (by omega)
      obtain ⟨a, ha0⟩ : ∃ a, a = D[i] := ⟨_, rfl⟩
      rw [← ha0] at hx
      have ha : (D ++ G)[i]? = some a := by rw [List.getElem?_append_left (by omega)]; exact hx
      have ham := List.mem_of_getElem? ha
      obtain ⟨eqa, lena⟩ := hfD a (List.mem_of_getElem? hx)
      obtain ⟨w1, w2⟩ := BG.own i a ha h1 hi
      obtain ⟨r1, r2, r3, r4⟩ := BG.rd a ham
      have oa := (hFD i a hx h1).own w1 g.length
      have so := BG.out.sl
      obtain ⟨p, hp1, hp2⟩ := so.idx (show ((D ++ G).map Two.out)[i]? = some a.out by rw [List.getElem?_map, ha]; rfl) .i64
      have hbs : hbuildSlice g 1 0 [] [] = some (.slice g.length 0 0 (some 0), g ++ [some (.cells 1 [] false false [])]) := rfl
      have kA : Keeps g.length g (g ++ [some (.cells 1 [] false false [])]) := Keeps.app (Nat.le_refl _)
      have BA := BG.keep kA
      have mA : hload none (g ++ [some (.cells 1 [] false false [])]) (.ptr hB 1) = some vw := by simp only [hload, BA.box]; rfl
      have sA := BA.want.sl
      obtain ⟨q, hq1, hq2⟩ := sA.idx (show ((D ++ G).map Two.want)[i]? = some a.want by rw [List.getElem?_map, ha]; rfl) .i64
      have rA := (BA.rd a ham).2.1
      have htA := rA.take
      have hcw : a.cw = a.co := eqa.symm
      rw [hcw] at htA
      have like : ∃ m a2, happend (g ++ [some (.cells 1 [] false false [])]) 1 16 (.slice g.length 0 0 (some 0)) a.want = some (m, a2) ∧ Keeps g.length g a2 ∧ OwnSl g.length a2 1 m a.co.length a.co ∧ ∀ h ∈ hd m, g.length ≤ h := by
        by_cases h0 : a.co.length = 0
        · have hn := List.eq_nil_of_length_eq_zero h0
          rw [hn] at htA ⊢
          refine ⟨_, _, app_none htA (.inr ⟨_, _, _, _, rfl⟩), kA, OwnSl.empty (ro := false) (opn := false) (olds := []) (by simp), ?_⟩
          intro h hh; simp [hd] at hh; omega
        · refine ⟨_, _, app_new htA h0 (ro := false) (opn := false) (olds := []) (by simp) (by omega) (by omega), kA.trans (Keeps.app (by simp)), ⟨by simp, .inr (.inr ⟨_, [], rfl, by simp, by simp, by simp⟩)⟩, ?_⟩
          intro h hh; simp [hd] at hh; omega
      obtain ⟨m1, gB, hap, kB, om, mh⟩ := like
      simp -implicitDefEqProofs (disch := first | omega | decide) only [vwp_skip, vwp_ret, vwp_exit, vwp_lab, vwp_seq, vwp_cond, vwp_block, vwp_scope, vwp_region, vwp_draw, vwp_loop, vcnd_tt, vcnd_ff, vthen_normal, vthen_ret, vthen_exit, vblock_normal, vblock_ret, vblock_exit, vreg_nil, vreg_cons, vhl_nil, vhl_op, vhl_guard, vguard_tt, vguard_ff, vguard_tf, vguard_ft, vguard_no, vact_op, vop_some, vput_some, vput_none, vsame_sm, vunit_sm, vget_nil, vget_cons, vget_some,
    vo_mv, vo_bin, vo_un, vo_ext, vo_len, vo_idxS, vo_idxStr, vo_load, vo_pick, vo_append, vo_bslice, evp, vo_nilc, vo_faddr, vo_store, vo_sliceSl, vo_sliceStr, vo_cInt, vo_copy, vo_mkSlice, vo_box, vo_build, vo_b2s, vb2s_sl, vb2s_nil, vcInt, vnil_ptr, vfaddr_ptr, beq_self_eq_true, eq_self, decide_true, decide_false, vb_lss, vb_leq, vb_gtr, vb_geq, vb_eql, vb_neq, vb_seql, vb_sneq, vb_beql, vb_bneq, vun_not, vlen_str, vlen_sl, vlen_nil, vext_tup, HX.ev, List.length_cons, List.length_nil, List.append_nil, List.nil_append, List.cons_append, List.set_cons_succ, List.set_cons_zero, List.getElem?_cons_succ, List.getElem?_cons_zero, Option.getD_some, Option.map_some, Option.map_none, List.map_cons, List.map_nil, if_true, Bool.not_true, Bool.not_false, Bool.false_eq_true, if_false, m0, hlt, so.sOk, hp1, hp2, hbs, mA, sA.sOk, hq1, hq2, hap]
      refine HW.loopS (σ := Nat × HV × HV × List HV × HS) mixed (fun s => (.ptr hB 0 :: .undef :: .bool false :: .bool true :: .int .i64 (fresh : Nat) :: .int .i64 (C.length : Nat) :: .undef :: .undef :: .int .i64 (i : Nat) :: s.2.1 :: s.2.2.1 :: .int .i64 (s.1 : Nat) :: .undef :: .undef :: .undef :: .undef :: .undef :: .undef :: .undef :: .undef :: .undef :: .undef :: .undef :: .undef :: .undef :: .undef :: .undef :: .undef :: .undef :: .undef :: .undef :: .undef :: .undef :: .undef :: .undef :: .undef :: .undef :: .undef :: .undef :: .undef :: .undef :: .undef :: .undef :: .undef :: .undef :: .undef :: .undef :: .undef :: .undef :: .undef :: .undef :: .undef :: .undef :: .undef :: .undef :: .undef :: .undef :: .undef :: .undef :: .undef :: .undef :: .undef :: .undef :: .undef :: .undef :: .undef :: .undef :: .undef :: .undef :: .undef :: .undef :: .undef :: .undef :: .undef :: .undef :: .undef :: .undef :: .undef :: .undef :: .undef :: .undef :: .undef :: .undef :: .undef :: .undef :: .undef :: .undef :: .undef :: .undef :: .undef :: .undef :: .undef :: .undef :: .undef :: .undef :: .undef :: .undef :: .undef :: .undef :: .undef :: .undef :: .undef :: .undef :: .undef :: .undef :: .undef :: .undef :: .undef :: .undef :: .undef :: .undef :: .undef :: .undef :: .undef :: .undef :: .undef :: .undef :: .undef :: .undef :: .undef :: .undef :: .undef :: .undef :: .undef :: .undef :: .undef :: .undef :: .undef :: .undef :: .undef :: .undef :: .undef :: .undef :: .undef :: .undef :: .undef :: .undef :: .undef :: .undef :: .undef :: .undef :: .undef :: [])) (fun s => s.2.2.2.2) (fun s => 12 - s.1)
        (fun s => s.1 ≤ 12 ∧ Keeps g.length g s.2.2.2.2 ∧ OwnSl g.length s.2.2.2.2 1 s.2.1 s.2.2.2.1.length s.2.2.2.1 ∧ OwnSl g.length s.2.2.2.2 1 s.2.2.1 s.2.2.2.1.length s.2.2.2.1 ∧ (∀ z ∈ hd s.2.1, z ∉ hd s.2.2.1) ∧
          (0 < s.1 → ∀ z ∈ hd s.2.1, g.length ≤ z) ∧ (∀ z ∈ hd s.2.2.1, g.length ≤ z) ∧ s.2.2.2.1.length = a.co.length + s.1 ∧ ∀ y ∈ s.2.2.2.1, isStr y)
        (0, a.out, m1, a.co, gB) ⟨by simp, kB, oa.same fun z hz => kB.2 z (oa.lt z hz), om, fun z hz hz2 => by have := oa.lt z hz; have := mh z hz2; omega, fun h => absurd h (by simp), mh, by simp, r3⟩ rfl (by (repeat first | exact Less.nil | refine Less.undef _ ?_ | refine Less.keep _ ?_)) ?_
      rintro ⟨k, l, m, xs, h⟩ ⟨k1, k2, ol, om, hlm, hl0, hm0, hxl, hxs⟩
      simp only at k1 k2 ol om hlm hl0 hm0 hxl hxs ⊢
      by_cases hkk : k < 12
      · have hltk : decide ((k : Int) < 12) = true := by simp; omega
        simp -implicitDefEqProofs (disch := first | omega | decide) only [vwp_skip, vwp_ret, vwp_exit, vwp_lab, vwp_seq, vwp_cond, vwp_block, vwp_scope, vwp_region, vwp_draw, vwp_loop, vcnd_tt, vcnd_ff, vthen_normal, vthen_ret, vthen_exit, vblock_normal, vblock_ret, vblock_exit, vreg_nil, vreg_cons, vhl_nil, vhl_op, vhl_guard, vguard_tt, vguard_ff, vguard_tf, vguard_ft, vguard_no, vact_op, vop_some, vput_some, vput_none, vsame_sm, vunit_sm, vget_nil, vget_cons, vget_some,
    vo_mv, vo_bin, vo_un, vo_ext, vo_len, vo_idxS, vo_idxStr, vo_load, vo_pick, vo_append, vo_bslice, evp, vo_nilc, vo_faddr, vo_store, vo_sliceSl, vo_sliceStr, vo_cInt, vo_copy, vo_mkSlice, vo_box, vo_build, vo_b2s, vb2s_sl, vb2s_nil, vcInt, vnil_ptr, vfaddr_ptr, beq_self_eq_true, eq_self, decide_true, decide_false, vb_lss, vb_leq, vb_gtr, vb_geq, vb_eql, vb_neq, vb_seql, vb_sneq, vb_beql, vb_bneq, vun_not, vlen_str, vlen_sl, vlen_nil, vext_tup, HX.ev, List.length_cons, List.length_nil, List.append_nil, List.nil_append, List.cons_append, List.set_cons_succ, List.set_cons_zero, List.getElem?_cons_succ, List.getElem?_cons_zero, Option.getD_some, Option.map_some, Option.map_none, List.map_cons, List.map_nil, if_true, Bool.not_true, Bool.not_false, Bool.false_eq_true, if_false, hltk, vaddn]
        refine vcall_of ok28 rfl (mark h (C.length + i) (by omega)) ?_
        rintro _ h1' ⟨rfl, hk1'⟩
        obtain ⟨x, hx0⟩ : ∃ x, x = HV.str (markL (C.length + i)) := ⟨_, rfl⟩
        rw [← hx0]
        have c1 := slice_one (hs := h1') (z := .str []) (x := x) rfl (by rw [hx0]; rfl) (by rw [hx0]; rfl)
        have kk1 : Keeps h1'.length h1' (h1' ++ [some (.cells 1 [x] false false [])]) := Keeps.app (Nat.le_refl _)
        have hkA := hk1'.trans (kk1.less hk1'.1)
        have gA := k2.trans (hkA.less k2.1)
        obtain ⟨h3, d1, d2, d3, d4, d5, d6⟩ := OwnSl.app3 (bytes := 16) (ol.keep (Nat.le_refl _) hkA) gA.1 (take_one h1' x) rfl (by omega) (by omega) (by omega)
        have om3 : OwnSl g.length h3 1 m xs.length xs := om.same fun z hz => by
          have := om.lt z hz
          have := hkA.1
          rw [d6 z (by omega) (fun e => hlm z e hz)]
          exact hkA.2 z (by omega)
        simp -implicitDefEqProofs (disch := first | omega | decide) only [vwp_skip, vwp_ret, vwp_exit, vwp_lab, vwp_seq, vwp_cond, vwp_block, vwp_scope, vwp_region, vwp_draw, vwp_loop, vcnd_tt, vcnd_ff, vthen_normal, vthen_ret, vthen_exit, vblock_normal, vblock_ret, vblock_exit, vreg_nil, vreg_cons, vhl_nil, vhl_op, vhl_guard, vguard_tt, vguard_ff, vguard_tf, vguard_ft, vguard_no, vact_op, vop_some, vput_some, vput_none, vsame_sm, vunit_sm, vget_nil, vget_cons, vget_some,
    vo_mv, vo_bin, vo_un, vo_ext, vo_len, vo_idxS, vo_idxStr, vo_load, vo_pick, vo_append, vo_bslice, evp, vo_nilc, vo_faddr, vo_store, vo_sliceSl, vo_sliceStr, vo_cInt, vo_copy, vo_mkSlice, vo_box, vo_build, vo_b2s, vb2s_sl, vb2s_nil, vcInt, vnil_ptr, vfaddr_ptr, beq_self_eq_true, eq_self, decide_true, decide_false, vb_lss, vb_leq, vb_gtr, vb_geq, vb_eql, vb_neq, vb_seql, vb_sneq, vb_beql, vb_bneq, vun_not, vlen_str, vlen_sl, vlen_nil, vext_tup, HX.ev, List.length_cons, List.length_nil, List.append_nil, List.nil_append, List.cons_append, List.set_cons_succ, List.set_cons_zero, List.getElem?_cons_succ, List.getElem?_cons_zero, Option.getD_some, Option.map_some, Option.map_none, List.map_cons, List.map_nil, if_true, Bool.not_true, Bool.not_false, Bool.false_eq_true, if_false, c1, d1, vaddn]
        refine vcall_of ok28 rfl (mark h3 (C.length + i) (by omega)) ?_
        rintro _ h4 ⟨rfl, hk4⟩
        rw [← hx0]
        have c4 := slice_one (hs := h4) (z := .str []) (x := x) rfl (by rw [hx0]; rfl) (by rw [hx0]; rfl)
        have kk4 : Keeps h4.length h4 (h4 ++ [some (.cells 1 [x] false false [])]) := Keeps.app (Nat.le_refl _)
        have hkB := hk4.trans (kk4.less hk4.1)
        have g3k := gA.trans d4
        have gB' := g3k.trans (hkB.less g3k.1)
        obtain ⟨h6, f1, f2, f3, f4, f5, f6⟩ := OwnSl.app3 (bytes := 16) (om3.keep (Nat.le_refl _) hkB) gB'.1 (take_one h4 x) rfl (by omega) (by omega) (by omega)
        simp -implicitDefEqProofs (disch := first | omega | decide) only [vwp_skip, vwp_ret, vwp_exit, vwp_lab, vwp_seq, vwp_cond, vwp_block, vwp_scope, vwp_region, vwp_draw, vwp_loop, vcnd_tt, vcnd_ff, vthen_normal, vthen_ret, vthen_exit, vblock_normal, vblock_ret, vblock_exit, vreg_nil, vreg_cons, vhl_nil, vhl_op, vhl_guard, vguard_tt, vguard_ff, vguard_tf, vguard_ft, vguard_no, vact_op, vop_some, vput_some, vput_none, vsame_sm, vunit_sm, vget_nil, vget_cons, vget_some,
    vo_mv, vo_bin, vo_un, vo_ext, vo_len, vo_idxS, vo_idxStr, vo_load, vo_pick, vo_append, vo_bslice, evp, vo_nilc, vo_faddr, vo_store, vo_sliceSl, vo_sliceStr, vo_cInt, vo_copy, vo_mkSlice, vo_box, vo_build, vo_b2s, vb2s_sl, vb2s_nil, vcInt, vnil_ptr, vfaddr_ptr, beq_self_eq_true, eq_self, decide_true, decide_false, vb_lss, vb_leq, vb_gtr, vb_geq, vb_eql, vb_neq, vb_seql, vb_sneq, vb_beql, vb_bneq, vun_not, vlen_str, vlen_sl, vlen_nil, vext_tup, HX.ev, List.length_cons, List.length_nil, List.append_nil, List.nil_append, List.cons_append, List.set_cons_succ, List.set_cons_zero, List.getElem?_cons_succ, List.getElem?_cons_zero, Option.getD_some, Option.map_some, Option.map_none, List.map_cons, List.map_nil, if_true, Bool.not_true, Bool.not_false, Bool.false_eq_true, if_false, c4, f1, vadd1]
        have hl1 : (h1' ++ [some (HB.cells 1 [x] false false [])]).length = h1'.length + 1 := by simp
        have hl4 : (h4 ++ [some (HB.cells 1 [x] false false [])]).length = h4.length + 1 := by simp
        have e3 := d3.lt
        have e34 : h3.length ≤ h4.length := hk4.1
        have hxs' : (xs ++ [x]).length = xs.length + 1 := by simp
        have em := om.lt
        refine ⟨(k + 1, .slice (h1' ++ [some (HB.cells 1 [x] false false [])]).length 0 (xs.length + 1) none, .slice (h4 ++ [some (HB.cells 1 [x] false false [])]).length 0 (xs.length + 1) none, xs ++ [x], h6), by simp only; omega, ⟨by simp only; omega, gB'.trans f4, ?_, ?_, ?_, ?_, ?_, by simp only [hxs']; omega, ?_⟩, rfl, by (repeat first | exact Less.nil | refine Less.undef _ ?_ | refine Less.keep _ ?_)⟩
        · simp only [hxs']
          refine d3.same fun z hz => ?_
          have hz' := e3 z hz
          simp [hd] at hz
          rw [f6 z (by omega) (fun e => by have := em z e; have := hkA.1; omega)]
          exact hkB.2 z (by omega)
        · simp only [hxs']; exact f3
        · intro z hz hz2
          simp [hd] at hz hz2
          omega
        · intro _ z hz
          simp [hd] at hz
          have := gA.1
          omega
        · intro z hz
          simp [hd] at hz
          have := gB'.1
          omega
        · intro y hy
          rcases List.mem_append.1 hy with h | h
          · exact hxs y h
          · simp at h; rw [h]; exact ⟨_, hx0⟩
      · obtain rfl : k = 12 := by omega
        have hltk : decide (((12 : Nat) : Int) < 12) = false := by decide
        obtain ⟨vo', a4, vw', a7, e1, e2, e3, e4, e5, e6, o1, o2, o3, o4, e7, e8⟩ := BG.push hng k2 ol.sl om.sl hxs hxs (hl0 (by omega)) hm0 hlm (by omega) C.length (fun _ => Nat.le_refl _) (fun _ h => by omega) (by omega) (fun h => by omega)
        obtain ⟨i1, i2⟩ := ol.sl.isOne
        obtain ⟨j1, j2⟩ := om.sl.isOne
        have b1 := slice_one (hs := h) (z := .nilSlice) rfl i2 i1
        have b2 := slice_one (hs := (a4.set hB (some (.cells 1 [vo', vw, .int .i64 (fresh : Nat)] false false [])))) (z := .nilSlice) rfl j2 j1
        rw [List.length_set] at b2
        simp -implicitDefEqProofs (disch := first | omega | decide) only [vwp_skip, vwp_ret, vwp_exit, vwp_lab, vwp_seq, vwp_cond, vwp_block, vwp_scope, vwp_region, vwp_draw, vwp_loop, vcnd_tt, vcnd_ff, vthen_normal, vthen_ret, vthen_exit, vblock_normal, vblock_ret, vblock_exit, vreg_nil, vreg_cons, vhl_nil, vhl_op, vhl_guard, vguard_tt, vguard_ff, vguard_tf, vguard_ft, vguard_no, vact_op, vop_some, vput_some, vput_none, vsame_sm, vunit_sm, vget_nil, vget_cons, vget_some,
    vo_mv, vo_bin, vo_un, vo_ext, vo_len, vo_idxS, vo_idxStr, vo_load, vo_pick, vo_append, vo_bslice, evp, vo_nilc, vo_faddr, vo_store, vo_sliceSl, vo_sliceStr, vo_cInt, vo_copy, vo_mkSlice, vo_box, vo_build, vo_b2s, vb2s_sl, vb2s_nil, vcInt, vnil_ptr, vfaddr_ptr, beq_self_eq_true, eq_self, decide_true, decide_false, vb_lss, vb_leq, vb_gtr, vb_geq, vb_eql, vb_neq, vb_seql, vb_sneq, vb_beql, vb_bneq, vun_not, vlen_str, vlen_sl, vlen_nil, vext_tup, HX.ev, List.length_cons, List.length_nil, List.append_nil, List.nil_append, List.cons_append, List.set_cons_succ, List.set_cons_zero, List.getElem?_cons_succ, List.getElem?_cons_zero, Option.getD_some, Option.map_some, Option.map_none, List.map_cons, List.map_nil, if_true, Bool.not_true, Bool.not_false, Bool.false_eq_true, if_false, hltk, e1, b1, e2, e3, e4, b2, e5, e6, vadd1]
        refine ⟨(i + 1, G ++ [⟨l, m, xs, xs⟩], _, vo', vw'), by simp only; omega, ⟨by simp only; omega, by simp only; omega, by simp only [List.length_append, List.length_cons, List.length_nil]; omega, ?_, hk.trans e7, ?_, ?_⟩, rfl, by (repeat first | exact Less.nil | refine Less.undef _ ?_ | refine Less.keep _ ?_)⟩
        · intro y hy
          rw [← List.append_assoc] at hy
          rcases List.mem_append.1 hy with h | h
          · exact hfG y h
          · simp at h; subst h
            exact ⟨rfl, by simp only; omega⟩
        · exact e7.1
        · rw [← List.append_assoc]; exact e8
    · obtain rfl : i = C.length := by omega
      have hlt : decide (((C.length : Nat) : Int) < (C.length : Nat)) = false := by simp
      obtain ⟨g2, st, B2, hl2, hs2⟩ := BG.setFresh (D ++ G).length (D ++ G).length
      have hlo2 := BG.out.len
      simp -implicitDefEqProofs (disch := first | omega | decide) only [vwp_skip, vwp_ret, vwp_exit, vwp_lab, vwp_seq, vwp_cond, vwp_block, vwp_scope, vwp_region, vwp_draw, vwp_loop, vcnd_tt, vcnd_ff, vthen_normal, vthen_ret, vthen_exit, vblock_normal, vblock_ret, vblock_exit, vreg_nil, vreg_cons, vhl_nil, vhl_op, vhl_guard, vguard_tt, vguard_ff, vguard_tf, vguard_ft, vguard_no, vact_op, vop_some, vput_some, vput_none, vsame_sm, vunit_sm, vget_nil, vget_cons, vget_some,
    vo_mv, vo_bin, vo_un, vo_ext, vo_len, vo_idxS, vo_idxStr, vo_load, vo_pick, vo_append, vo_bslice, evp, vo_nilc, vo_faddr, vo_store, vo_sliceSl, vo_sliceStr, vo_cInt, vo_copy, vo_mkSlice, vo_box, vo_build, vo_b2s, vb2s_sl, vb2s_nil, vcInt, vnil_ptr, vfaddr_ptr, beq_self_eq_true, eq_self, decide_true, decide_false, vb_lss, vb_leq, vb_gtr, vb_geq, vb_eql, vb_neq, vb_seql, vb_sneq, vb_beql, vb_bneq, vun_not, vlen_str, vlen_sl, vlen_nil, vext_tup, HX.ev, List.length_cons, List.length_nil, List.append_nil, List.nil_append, List.cons_append, List.set_cons_succ, List.set_cons_zero, List.getElem?_cons_succ, List.getElem?_cons_zero, Option.getD_some, Option.map_some, Option.map_none, List.map_cons, List.map_nil, if_true, Bool.not_true, Bool.not_false, Bool.false_eq_true, if_false, hlt, m0, hlo2, st]
      refine vcall_of ok27 rfl (holds g2 B2 hfG (by omega) (by omega)) ?_
      rintro _ g2 ⟨rfl, rfl⟩
      simp -implicitDefEqProofs (disch := first | omega | decide) only [vwp_skip, vwp_ret, vwp_exit, vwp_lab, vwp_seq, vwp_cond, vwp_block, vwp_scope, vwp_region, vwp_draw, vwp_loop, vcnd_tt, vcnd_ff, vthen_normal, vthen_ret, vthen_exit, vblock_normal, vblock_ret, vblock_exit, vreg_nil, vreg_cons, vhl_nil, vhl_op, vhl_guard, vguard_tt, vguard_ff, vguard_tf, vguard_ft, vguard_no, vact_op, vop_some, vput_some, vput_none, vsame_sm, vunit_sm, vget_nil, vget_cons, vget_some,
    vo_mv, vo_bin, vo_un, vo_ext, vo_len, vo_idxS, vo_idxStr, vo_load, vo_pick, vo_append, vo_bslice, evp, vo_nilc, vo_faddr, vo_store, vo_sliceSl, vo_sliceStr, vo_cInt, vo_copy, vo_mkSlice, vo_box, vo_build, vo_b2s, vb2s_sl, vb2s_nil, vcInt, vnil_ptr, vfaddr_ptr, beq_self_eq_true, eq_self, decide_true, decide_false, vb_lss, vb_leq, vb_gtr, vb_geq, vb_eql, vb_neq, vb_seql, vb_sneq, vb_beql, vb_bneq, vun_not, vlen_str, vlen_sl, vlen_nil, vext_tup, HX.ev, List.length_cons, List.length_nil, List.append_nil, List.nil_append, List.cons_append, List.set_cons_succ, List.set_cons_zero, List.getElem?_cons_succ, List.getElem?_cons_zero, Option.getD_some, Option.map_some, Option.map_none, List.map_cons, List.map_nil, if_true, Bool.not_true, Bool.not_false, Bool.false_eq_true, if_false]
      refine ⟨rfl, _, rfl, rfl, D ++ G, vo, vw, B2, hfG, hDG, hk.trans ⟨by omega, fun j hj => hs2 j (by have := BG.low.1; omega)⟩⟩
end B
end Go.Proofs.YteedidafobfijaaDoor
