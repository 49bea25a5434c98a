/-
  digits' law DigitsSplits: the book of lists.
-/
import Derived.Test.YteedidafobfijaaDoorS
namespace Go.Proofs.YteedidafobfijaaDoor
open Go Go.HL P5
namespace B
set_option maxRecDepth 100000
set_option maxHeartbeats 4000000
set_option linter.unusedSimpArgs false

def isStr (y : HV) : Prop := ∃ s, y = .str s
theorem strs_of : ∀ {l : List HV}, (∀ y ∈ l, isStr y) → ∃ ws : List (List UInt8), l = ws.map HV.str
  | [], _ => ⟨[], rfl⟩
  | y :: l, h => by
    obtain ⟨s, hs⟩ := h y (by simp)
    obtain ⟨ws, hws⟩ := strs_of (l := l) fun z hz => h z (by simp [hz])
    exact ⟨s :: ws, by rw [hs, hws]; rfl⟩
theorem isStr_map (ws : List (List UInt8)) : ∀ y ∈ ws.map HV.str, isStr y := by
  intro y hy
  obtain ⟨s, _, rfl⟩ := List.mem_map.1 hy
  exact ⟨s, rfl⟩

/-- the lists are not too long, and read as they must. -/
def Fit (b : Nat) (C : List Two) : Prop := ∀ x ∈ C, x.co = x.cw ∧ x.co.length ≤ b

/-- a list that was handed out has no room. -/
def Full (x : Two) : Prop := x.out = .nilSlice ∨ ∃ h, x.out = .slice h 0 x.co.length (some x.co.length)

variable {n : Nat} {hB : Nat} {C : List Two} {fresh lo hi : Nat} {vo vw : HV}

theorem holds (hs : HS) (B : Bk isStr n hs hB C fresh lo hi vo vw) {b : Nat} (hf : Fit b C) (hb : b < 4611686018427387904) (hC : C.length < 1073741824) : HC Tryd.prog 27 [.ptr hB 0] hs fun v hs' => v = .bool true ∧ hs' = hs := by
  have l0 : hload none hs (.ptr hB 0) = some vo := by simp only [hload, B.box]; rfl
  have l1 : hload none hs (.ptr hB 1) = some vw := by simp only [hload, B.box]; rfl
  have hlo := B.out.len
  have so := B.out.sl
  have sw := B.want.sl
  refine HC.wp mixed Tryd.func27 c27 ?_
  simp -implicitDefEqProofs (disch := first | omega | decide) only [vwp_skip, vwp_ret, vwp_exit, vwp_lab, vwp_seq, vwp_cond, vwp_block, vwp_scope, vwp_region, vwp_draw, vwp_loop, vcnd_tt, vcnd_ff, vthen_normal, vthen_ret, vthen_exit, vblock_normal, vblock_ret, vblock_exit, vreg_nil, vreg_cons, vhl_nil, vhl_op, vhl_guard, vguard_tt, vguard_ff, vguard_tf, vguard_ft, vguard_no, vact_op, vop_some, vput_some, vput_none, vsame_sm, vunit_sm, vget_nil, vget_cons, vget_some,
    vo_mv, vo_bin, vo_un, vo_ext, vo_len, vo_idxS, vo_idxStr, vo_load, vo_pick, vo_append, vo_bslice, evp, vo_nilc, vo_faddr, vo_store, vo_sliceSl, vo_sliceStr, vo_cInt, vo_copy, vo_mkSlice, vo_box, vo_build, vo_b2s, vb2s_sl, vb2s_nil, vcInt, vnil_ptr, vfaddr_ptr, beq_self_eq_true, eq_self, decide_true, decide_false, vb_lss, vb_leq, vb_gtr, vb_geq, vb_eql, vb_neq, vb_seql, vb_sneq, vb_beql, vb_bneq, vun_not, vlen_str, vlen_sl, vlen_nil, vext_tup, HX.ev, List.length_cons, List.length_nil, List.append_nil, List.nil_append, List.cons_append, List.set_cons_succ, List.set_cons_zero, List.getElem?_cons_succ, List.getElem?_cons_zero, Option.getD_some, Option.map_some, Option.map_none, List.map_cons, List.map_nil, if_true, Bool.not_true, Bool.not_false, Bool.false_eq_true, if_false, h27, frame0, List.replicate, Nat.sub]
  refine HW.loopS mixed (fun i : Nat => (.ptr hB 0 :: .undef :: .bool false :: .int .i64 (i : Nat) :: .undef :: .undef :: .undef :: .undef :: .undef :: .undef :: .undef :: .undef :: .undef :: .undef :: .undef :: .undef :: .undef :: .undef :: .undef :: .undef :: .undef :: .undef :: .undef :: .undef :: .undef :: .undef :: .undef :: .undef :: .undef :: .undef :: .undef :: [])) (fun _ => hs) (fun i => C.length - i) (fun i => i ≤ C.length) 0 (by omega) rfl (by (repeat first | exact Less.nil | refine Less.undef _ ?_ | refine Less.keep _ ?_)) ?_
  rintro i hi
  by_cases h : i < C.length
  · have hlt : decide ((i : Int) < (C.length : Nat)) = true := by simp; omega
    have hx : C[i]? = some C[i] := List.getElem?_eq_getElem h
    have hm : C[i] ∈ C := List.getElem_mem h
    obtain ⟨r1, r2, r3, r4⟩ := B.rd _ hm
    obtain ⟨e1, e2⟩ := hf _ hm
    obtain ⟨ws, hws⟩ := strs_of r3
    obtain ⟨p, hp1, hp2⟩ := so.idx (show (C.map Two.out)[i]? = some C[i].out by rw [List.getElem?_map, hx]; rfl) .i64
    obtain ⟨q, hq1, hq2⟩ := sw.idx (show (C.map Two.want)[i]? = some C[i].want by rw [List.getElem?_map, hx]; rfl) .i64
    rw [hws] at r1 e2
    rw [← e1, hws] at r2
    rw [List.length_map] at e2
    simp -implicitDefEqProofs (disch := first | omega | decide) only [vwp_skip, vwp_ret, vwp_exit, vwp_lab, vwp_seq, vwp_cond, vwp_block, vwp_scope, vwp_region, vwp_draw, vwp_loop, vcnd_tt, vcnd_ff, vthen_normal, vthen_ret, vthen_exit, vblock_normal, vblock_ret, vblock_exit, vreg_nil, vreg_cons, vhl_nil, vhl_op, vhl_guard, vguard_tt, vguard_ff, vguard_tf, vguard_ft, vguard_no, vact_op, vop_some, vput_some, vput_none, vsame_sm, vunit_sm, vget_nil, vget_cons, vget_some,
    vo_mv, vo_bin, vo_un, vo_ext, vo_len, vo_idxS, vo_idxStr, vo_load, vo_pick, vo_append, vo_bslice, evp, vo_nilc, vo_faddr, vo_store, vo_sliceSl, vo_sliceStr, vo_cInt, vo_copy, vo_mkSlice, vo_box, vo_build, vo_b2s, vb2s_sl, vb2s_nil, vcInt, vnil_ptr, vfaddr_ptr, beq_self_eq_true, eq_self, decide_true, decide_false, vb_lss, vb_leq, vb_gtr, vb_geq, vb_eql, vb_neq, vb_seql, vb_sneq, vb_beql, vb_bneq, vun_not, vlen_str, vlen_sl, vlen_nil, vext_tup, HX.ev, List.length_cons, List.length_nil, List.append_nil, List.nil_append, List.cons_append, List.set_cons_succ, List.set_cons_zero, List.getElem?_cons_succ, List.getElem?_cons_zero, Option.getD_some, Option.map_some, Option.map_none, List.map_cons, List.map_nil, if_true, Bool.not_true, Bool.not_false, Bool.false_eq_true, if_false, l0, l1, hlo, hlt, so.sOk, sw.sOk, hp1, hp2, hq1, hq2]
    refine vcall_of ok22 rfl (same hs _ _ ws ws r1 r2 (by omega)) ?_
    rintro _ hs ⟨rfl, rfl⟩
    simp -implicitDefEqProofs (disch := first | omega | decide) only [vwp_skip, vwp_ret, vwp_exit, vwp_lab, vwp_seq, vwp_cond, vwp_block, vwp_scope, vwp_region, vwp_draw, vwp_loop, vcnd_tt, vcnd_ff, vthen_normal, vthen_ret, vthen_exit, vblock_normal, vblock_ret, vblock_exit, vreg_nil, vreg_cons, vhl_nil, vhl_op, vhl_guard, vguard_tt, vguard_ff, vguard_tf, vguard_ft, vguard_no, vact_op, vop_some, vput_some, vput_none, vsame_sm, vunit_sm, vget_nil, vget_cons, vget_some,
    vo_mv, vo_bin, vo_un, vo_ext, vo_len, vo_idxS, vo_idxStr, vo_load, vo_pick, vo_append, vo_bslice, evp, vo_nilc, vo_faddr, vo_store, vo_sliceSl, vo_sliceStr, vo_cInt, vo_copy, vo_mkSlice, vo_box, vo_build, vo_b2s, vb2s_sl, vb2s_nil, vcInt, vnil_ptr, vfaddr_ptr, beq_self_eq_true, eq_self, decide_true, decide_false, vb_lss, vb_leq, vb_gtr, vb_geq, vb_eql, vb_neq, vb_seql, vb_sneq, vb_beql, vb_bneq, vun_not, vlen_str, vlen_sl, vlen_nil, vext_tup, HX.ev, List.length_cons, List.length_nil, List.append_nil, List.nil_append, List.cons_append, List.set_cons_succ, List.set_cons_zero, List.getElem?_cons_succ, List.getElem?_cons_zero, Option.getD_some, Option.map_some, Option.map_none, List.map_cons, List.map_nil, if_true, Bool.not_true, Bool.not_false, Bool.false_eq_true, if_false, vadd1]
    exact ⟨i + 1, by omega, by omega, trivial, by (repeat first | exact Less.nil | refine Less.undef _ ?_ | refine Less.keep _ ?_)⟩
  · obtain rfl : i = C.length := by omega
    have hlt : decide (((C.length : Nat) : Int) < (C.length : Nat)) = false := by simp
    simp -implicitDefEqProofs (disch := first | omega | decide) only [vwp_skip, vwp_ret, vwp_exit, vwp_lab, vwp_seq, vwp_cond, vwp_block, vwp_scope, vwp_region, vwp_draw, vwp_loop, vcnd_tt, vcnd_ff, vthen_normal, vthen_ret, vthen_exit, vblock_normal, vblock_ret, vblock_exit, vreg_nil, vreg_cons, vhl_nil, vhl_op, vhl_guard, vguard_tt, vguard_ff, vguard_tf, vguard_ft, vguard_no, vact_op, vop_some, vput_some, vput_none, vsame_sm, vunit_sm, vget_nil, vget_cons, vget_some,
    vo_mv, vo_bin, vo_un, vo_ext, vo_len, vo_idxS, vo_idxStr, vo_load, vo_pick, vo_append, vo_bslice, evp, vo_nilc, vo_faddr, vo_store, vo_sliceSl, vo_sliceStr, vo_cInt, vo_copy, vo_mkSlice, vo_box, vo_build, vo_b2s, vb2s_sl, vb2s_nil, vcInt, vnil_ptr, vfaddr_ptr, beq_self_eq_true, eq_self, decide_true, decide_false, vb_lss, vb_leq, vb_gtr, vb_geq, vb_eql, vb_neq, vb_seql, vb_sneq, vb_beql, vb_bneq, vun_not, vlen_str, vlen_sl, vlen_nil, vext_tup, HX.ev, List.length_cons, List.length_nil, List.append_nil, List.nil_append, List.cons_append, List.set_cons_succ, List.set_cons_zero, List.getElem?_cons_succ, List.getElem?_cons_zero, Option.getD_some, Option.map_some, Option.map_none, List.map_cons, List.map_nil, if_true, Bool.not_true, Bool.not_false, Bool.false_eq_true, if_false, l0, hlo, hlt]
    exact ⟨rfl, _, rfl, rfl, trivial⟩

theorem keep26 (g hs : HS) (B : Bk isStr n g hB C fresh lo hi vo vw) (hn : n ≤ g.length) (k2 : Keeps g.length g hs) {l : HV} {c : List HV} (hl : Wr hs l c) (ql : ∀ y ∈ c, isStr y) (fl : ∀ h ∈ hd l, g.length ≤ h) (hsz : C.length < 1073741824)
    (hc : c.length < 1099511627776) (hlo : lo ≤ C.length) (hhi : hi = C.length) :
    HC Tryd.prog 26 [.ptr hB 0, l] hs fun _ hs' => ∃ m vo' vw', Bk isStr n hs' hB (C ++ [⟨l, m, c, c⟩]) fresh lo (C.length + 1) vo' vw' ∧ Keeps n g hs' := by
  have hmax : maxLen = 9223372036854775807 := rfl
  have hbs : hbuildSlice hs 1 0 [] [] = some (.slice hs.length 0 0 (some 0), hs ++ [some (.cells 1 [] false false [])]) := rfl
  have kA : Keeps hs.length hs (hs ++ [some (.cells 1 [] false false [])]) := Keeps.app (Nat.le_refl _)
  have hlA : SlAt (hs ++ [some (.cells 1 [] false false [])]) l c := hl.sl.keep (Nat.le_refl _) kA
  have htA := hlA.take
  -- the likeness
  have like : ∃ m a2, happend (hs ++ [some (.cells 1 [] false false [])]) 1 16 (.slice hs.length 0 0 (some 0)) l = some (m, a2) ∧ Keeps hs.length hs a2 ∧ Wr a2 m c ∧ ∀ h ∈ hd m, hs.length ≤ h := by
    by_cases h0 : c.length = 0
    · obtain rfl := List.eq_nil_of_length_eq_zero h0
      refine ⟨_, _, app_none htA (.inr ⟨_, _, _, _, rfl⟩), kA, .inr ⟨hs.length, some 0, false, rfl, by simp⟩, ?_⟩
      intro h hh; simp [hd] at hh; omega
    · refine ⟨_, _, app_new htA h0 (ro := false) (opn := false) (olds := []) (by simp) (by omega) (by omega), kA.trans (Keeps.app (by simp)), .inr ⟨_, none, true, rfl, by simp⟩, ?_⟩
      intro h hh; simp [hd] at hh; omega
  obtain ⟨m, a2, hap, ka2, hmw, hmh⟩ := like
  have hl2 : Wr a2 l c := hl.same fun i hi => ka2.2 i (hl.sl.lt i hi)
  obtain ⟨vo', a4, vw', a7, e1, e2, e3, e4, e5, e6, o1, o2, o3, o4, e7, e8⟩ := B.push hn (k2.trans (ka2.less k2.1)) hl2.sl hmw.sl ql ql fl (fun h hh => Nat.le_trans k2.1 (hmh h hh))
    (fun h hh hh2 => by have := hl.sl.lt h hh; have := hmh h hh2; omega) (by omega) (C.length + 1) (fun h => by omega) (fun _ _ => ⟨hl2, hmw⟩) (by omega) (fun _ => by omega)
  obtain ⟨i1, i2⟩ := hl.sl.isOne
  obtain ⟨j1, j2⟩ := hmw.sl.isOne
  have b1 := slice_one (hs := a2) (z := .nilSlice) rfl i2 i1
  have b2 := slice_one (hs := (a4.set hB (some (.cells 1 [vo', vw, .int .i64 (fresh : Nat)] false false [])))) (z := .nilSlice) rfl j2 j1
  rw [List.length_set] at b2
  refine HC.wp mixed Tryd.func26 c26 ?_
  simp -implicitDefEqProofs (disch := first | omega | decide) only [vwp_skip, vwp_ret, vwp_exit, vwp_lab, vwp_seq, vwp_cond, vwp_block, vwp_scope, vwp_region, vwp_draw, vwp_loop, vcnd_tt, vcnd_ff, vthen_normal, vthen_ret, vthen_exit, vblock_normal, vblock_ret, vblock_exit, vreg_nil, vreg_cons, vhl_nil, vhl_op, vhl_guard, vguard_tt, vguard_ff, vguard_tf, vguard_ft, vguard_no, vact_op, vop_some, vput_some, vput_none, vsame_sm, vunit_sm, vget_nil, vget_cons, vget_some,
    vo_mv, vo_bin, vo_un, vo_ext, vo_len, vo_idxS, vo_idxStr, vo_load, vo_pick, vo_append, vo_bslice, evp, vo_nilc, vo_faddr, vo_store, vo_sliceSl, vo_sliceStr, vo_cInt, vo_copy, vo_mkSlice, vo_box, vo_build, vo_b2s, vb2s_sl, vb2s_nil, vcInt, vnil_ptr, vfaddr_ptr, beq_self_eq_true, eq_self, decide_true, decide_false, vb_lss, vb_leq, vb_gtr, vb_geq, vb_eql, vb_neq, vb_seql, vb_sneq, vb_beql, vb_bneq, vun_not, vlen_str, vlen_sl, vlen_nil, vext_tup, HX.ev, List.length_cons, List.length_nil, List.append_nil, List.nil_append, List.cons_append, List.set_cons_succ, List.set_cons_zero, List.getElem?_cons_succ, List.getElem?_cons_zero, Option.getD_some, Option.map_some, Option.map_none, List.map_cons, List.map_nil, if_true, Bool.not_true, Bool.not_false, Bool.false_eq_true, if_false, h26, hbs, hap, e1, b1, e2, e3, e4, b2, e5, e6, frame0, List.replicate, Nat.sub]
  exact ⟨rfl, _, rfl, m, vo', vw', e8, e7⟩

theorem split17 (hs : HS) (line : List UInt8) (hb : line.length < 4294967281) (B : Bk isStr n hs hB C fresh lo hi vo vw) (hn : n ≤ hs.length) (hg : hs[2]? = some (some (.gint 1))) (hsz : C.length < 1073741824) (hlo : lo ≤ C.length) (hhi : hi = C.length) :
    HC Tryd.prog 17 [.ptr hB 0, .str line] hs fun r hs' => r = .bool true ∧ ∃ l m c vo' vw', Bk isStr n hs' hB (C ++ [⟨l, m, c, c⟩]) fresh lo (C.length + 1) vo' vw' ∧ c.length ≤ 4294967281 ∧ Full ⟨l, m, c, c⟩ ∧ Keeps n hs hs' := by
  have hpb := pcs_bound line
  refine HC.wp mixed Tryd.func17 c17 ?_
  simp -implicitDefEqProofs (disch := first | omega | decide) only [vwp_skip, vwp_ret, vwp_exit, vwp_lab, vwp_seq, vwp_cond, vwp_block, vwp_scope, vwp_region, vwp_draw, vwp_loop, vcnd_tt, vcnd_ff, vthen_normal, vthen_ret, vthen_exit, vblock_normal, vblock_ret, vblock_exit, vreg_nil, vreg_cons, vhl_nil, vhl_op, vhl_guard, vguard_tt, vguard_ff, vguard_tf, vguard_ft, vguard_no, vact_op, vop_some, vput_some, vput_none, vsame_sm, vunit_sm, vget_nil, vget_cons, vget_some,
    vo_mv, vo_bin, vo_un, vo_ext, vo_len, vo_idxS, vo_idxStr, vo_load, vo_pick, vo_append, vo_bslice, evp, vo_nilc, vo_faddr, vo_store, vo_sliceSl, vo_sliceStr, vo_cInt, vo_copy, vo_mkSlice, vo_box, vo_build, vo_b2s, vb2s_sl, vb2s_nil, vcInt, vnil_ptr, vfaddr_ptr, beq_self_eq_true, eq_self, decide_true, decide_false, vb_lss, vb_leq, vb_gtr, vb_geq, vb_eql, vb_neq, vb_seql, vb_sneq, vb_beql, vb_bneq, vun_not, vlen_str, vlen_sl, vlen_nil, vext_tup, HX.ev, List.length_cons, List.length_nil, List.append_nil, List.nil_append, List.cons_append, List.set_cons_succ, List.set_cons_zero, List.getElem?_cons_succ, List.getElem?_cons_zero, Option.getD_some, Option.map_some, Option.map_none, List.map_cons, List.map_nil, if_true, Bool.not_true, Bool.not_false, Bool.false_eq_true, if_false, h17, frame0, List.replicate, Nat.sub]
  refine vcall_of ok23 rfl (split23 hs line hg hb) ?_
  rintro _ _ ⟨rfl, rfl⟩
  have k1 : Keeps hs.length hs (hs ++ [some (.cells 1 ((pcs line).map HV.str) false false [])]) := Keeps.app (Nat.le_refl _)
  obtain ⟨l, hl⟩ : ∃ l, l = (if wordsL (pcs line) = true then HV.slice hs.length 0 (pcs line).length (some (pcs line).length) else .nilSlice) := ⟨_, rfl⟩
  obtain ⟨c, hc⟩ : ∃ c, c = (if wordsL (pcs line) = true then (pcs line).map HV.str else []) := ⟨_, rfl⟩
  have hw1 : Wr (hs ++ [some (.cells 1 ((pcs line).map HV.str) false false [])]) l c := by
    rw [hl, hc]
    split
    · exact .inr ⟨hs.length, some (pcs line).length, false, by simp, by simp⟩
    · exact .inl ⟨rfl, rfl⟩
  have hfl : ∀ h ∈ hd l, hs.length ≤ h := by
    rw [hl]
    split
    · intro h hh; simp [hd] at hh; omega
    · intro h hh; simp [hd] at hh
  have hcs : ∃ ws : List (List UInt8), c = ws.map HV.str ∧ ws.length ≤ line.length + 1 := by
    rw [hc]
    split
    · exact ⟨_, rfl, hpb⟩
    · exact ⟨[], rfl, by simp⟩
  obtain ⟨ws, hws, hwsl⟩ := hcs
  have hfull : ∀ m, Full ⟨l, m, c, c⟩ := fun m => by
    rw [hl, hc]
    unfold Full
    simp only
    split
    · exact .inr ⟨hs.length, by simp⟩
    · exact .inl rfl
  rw [← hl]
  simp -implicitDefEqProofs (disch := first | omega | decide) only [vwp_skip, vwp_ret, vwp_exit, vwp_lab, vwp_seq, vwp_cond, vwp_block, vwp_scope, vwp_region, vwp_draw, vwp_loop, vcnd_tt, vcnd_ff, vthen_normal, vthen_ret, vthen_exit, vblock_normal, vblock_ret, vblock_exit, vreg_nil, vreg_cons, vhl_nil, vhl_op, vhl_guard, vguard_tt, vguard_ff, vguard_tf, vguard_ft, vguard_no, vact_op, vop_some, vput_some, vput_none, vsame_sm, vunit_sm, vget_nil, vget_cons, vget_some,
    vo_mv, vo_bin, vo_un, vo_ext, vo_len, vo_idxS, vo_idxStr, vo_load, vo_pick, vo_append, vo_bslice, evp, vo_nilc, vo_faddr, vo_store, vo_sliceSl, vo_sliceStr, vo_cInt, vo_copy, vo_mkSlice, vo_box, vo_build, vo_b2s, vb2s_sl, vb2s_nil, vcInt, vnil_ptr, vfaddr_ptr, beq_self_eq_true, eq_self, decide_true, decide_false, vb_lss, vb_leq, vb_gtr, vb_geq, vb_eql, vb_neq, vb_seql, vb_sneq, vb_beql, vb_bneq, vun_not, vlen_str, vlen_sl, vlen_nil, vext_tup, HX.ev, List.length_cons, List.length_nil, List.append_nil, List.nil_append, List.cons_append, List.set_cons_succ, List.set_cons_zero, List.getElem?_cons_succ, List.getElem?_cons_zero, Option.getD_some, Option.map_some, Option.map_none, List.map_cons, List.map_nil, if_true, Bool.not_true, Bool.not_false, Bool.false_eq_true, if_false]
  refine vcall_of ok25 rfl (refSplit _ line hb) ?_
  rintro _ g2 ⟨v, rfl, hv, hk2⟩
  rw [← hc] at hv
  have hw2 : Wr g2 l c := hw1.same fun i hi => hk2.2 i (hw1.sl.lt i hi)
  have k12 := k1.trans (hk2.less k1.1)
  simp -implicitDefEqProofs (disch := first | omega | decide) only [vwp_skip, vwp_ret, vwp_exit, vwp_lab, vwp_seq, vwp_cond, vwp_block, vwp_scope, vwp_region, vwp_draw, vwp_loop, vcnd_tt, vcnd_ff, vthen_normal, vthen_ret, vthen_exit, vblock_normal, vblock_ret, vblock_exit, vreg_nil, vreg_cons, vhl_nil, vhl_op, vhl_guard, vguard_tt, vguard_ff, vguard_tf, vguard_ft, vguard_no, vact_op, vop_some, vput_some, vput_none, vsame_sm, vunit_sm, vget_nil, vget_cons, vget_some,
    vo_mv, vo_bin, vo_un, vo_ext, vo_len, vo_idxS, vo_idxStr, vo_load, vo_pick, vo_append, vo_bslice, evp, vo_nilc, vo_faddr, vo_store, vo_sliceSl, vo_sliceStr, vo_cInt, vo_copy, vo_mkSlice, vo_box, vo_build, vo_b2s, vb2s_sl, vb2s_nil, vcInt, vnil_ptr, vfaddr_ptr, beq_self_eq_true, eq_self, decide_true, decide_false, vb_lss, vb_leq, vb_gtr, vb_geq, vb_eql, vb_neq, vb_seql, vb_sneq, vb_beql, vb_bneq, vun_not, vlen_str, vlen_sl, vlen_nil, vext_tup, HX.ev, List.length_cons, List.length_nil, List.append_nil, List.nil_append, List.cons_append, List.set_cons_succ, List.set_cons_zero, List.getElem?_cons_succ, List.getElem?_cons_zero, Option.getD_some, Option.map_some, Option.map_none, List.map_cons, List.map_nil, if_true, Bool.not_true, Bool.not_false, Bool.false_eq_true, if_false]
  refine vcall_of ok22 rfl (same g2 l v ws ws (by rw [← hws]; exact hw2.sl) (by rw [← hws]; exact hv) (by omega)) ?_
  rintro _ g2 ⟨rfl, rfl⟩
  simp -implicitDefEqProofs (disch := first | omega | decide) only [vwp_skip, vwp_ret, vwp_exit, vwp_lab, vwp_seq, vwp_cond, vwp_block, vwp_scope, vwp_region, vwp_draw, vwp_loop, vcnd_tt, vcnd_ff, vthen_normal, vthen_ret, vthen_exit, vblock_normal, vblock_ret, vblock_exit, vreg_nil, vreg_cons, vhl_nil, vhl_op, vhl_guard, vguard_tt, vguard_ff, vguard_tf, vguard_ft, vguard_no, vact_op, vop_some, vput_some, vput_none, vsame_sm, vunit_sm, vget_nil, vget_cons, vget_some,
    vo_mv, vo_bin, vo_un, vo_ext, vo_len, vo_idxS, vo_idxStr, vo_load, vo_pick, vo_append, vo_bslice, evp, vo_nilc, vo_faddr, vo_store, vo_sliceSl, vo_sliceStr, vo_cInt, vo_copy, vo_mkSlice, vo_box, vo_build, vo_b2s, vb2s_sl, vb2s_nil, vcInt, vnil_ptr, vfaddr_ptr, beq_self_eq_true, eq_self, decide_true, decide_false, vb_lss, vb_leq, vb_gtr, vb_geq, vb_eql, vb_neq, vb_seql, vb_sneq, vb_beql, vb_bneq, vun_not, vlen_str, vlen_sl, vlen_nil, vext_tup, HX.ev, List.length_cons, List.length_nil, List.append_nil, List.nil_append, List.cons_append, List.set_cons_succ, List.set_cons_zero, List.getElem?_cons_succ, List.getElem?_cons_zero, Option.getD_some, Option.map_some, Option.map_none, List.map_cons, List.map_nil, if_true, Bool.not_true, Bool.not_false, Bool.false_eq_true, if_false]
  refine vcall_of ok26 rfl (keep26 hs g2 B hn k12 hw2 (by rw [hws]; exact isStr_map ws) hfl hsz (by rw [hws, List.length_map]; omega) hlo hhi) ?_
  rintro r g3 ⟨m, vo', vw', hB', hk'⟩
  simp -implicitDefEqProofs (disch := first | omega | decide) only [vwp_skip, vwp_ret, vwp_exit, vwp_lab, vwp_seq, vwp_cond, vwp_block, vwp_scope, vwp_region, vwp_draw, vwp_loop, vcnd_tt, vcnd_ff, vthen_normal, vthen_ret, vthen_exit, vblock_normal, vblock_ret, vblock_exit, vreg_nil, vreg_cons, vhl_nil, vhl_op, vhl_guard, vguard_tt, vguard_ff, vguard_tf, vguard_ft, vguard_no, vact_op, vop_some, vput_some, vput_none, vsame_sm, vunit_sm, vget_nil, vget_cons, vget_some,
    vo_mv, vo_bin, vo_un, vo_ext, vo_len, vo_idxS, vo_idxStr, vo_load, vo_pick, vo_append, vo_bslice, evp, vo_nilc, vo_faddr, vo_store, vo_sliceSl, vo_sliceStr, vo_cInt, vo_copy, vo_mkSlice, vo_box, vo_build, vo_b2s, vb2s_sl, vb2s_nil, vcInt, vnil_ptr, vfaddr_ptr, beq_self_eq_true, eq_self, decide_true, decide_false, vb_lss, vb_leq, vb_gtr, vb_geq, vb_eql, vb_neq, vb_seql, vb_sneq, vb_beql, vb_bneq, vun_not, vlen_str, vlen_sl, vlen_nil, vext_tup, HX.ev, List.length_cons, List.length_nil, List.append_nil, List.nil_append, List.cons_append, List.set_cons_succ, List.set_cons_zero, List.getElem?_cons_succ, List.getElem?_cons_zero, Option.getD_some, Option.map_some, Option.map_none, List.map_cons, List.map_nil, if_true, Bool.not_true, Bool.not_false, Bool.false_eq_true, if_false]
  exact ⟨rfl, _, rfl, rfl, l, m, c, vo', vw', hB', by rw [hws, List.length_map]; omega, hfull m, hk'⟩
end B
end Go.Proofs.YteedidafobfijaaDoor
