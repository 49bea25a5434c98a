/-
  stintlaw08.held: bytes that were handed out: they are kept, read as they must, and are written all over.
  stintlaw08.held.spoil: whoever has the bytes marks all of them, then lets each list grow.
-/
import Derived.Test.YthihchoccpnfeaaDoorD
import Derived.Test.YthihchoccpnfeaaDoorHLBook
namespace Go.Proofs.YthihchoccpnfeaaDoor
open Go Go.HL Go.Shelf V
namespace H
open A (ok14 same14)
set_option maxRecDepth 100000
set_option maxHeartbeats 40000000
set_option linter.unusedSimpArgs false
theorem ok16 : okF Tryd.prog 16 := ⟨_, Tryd.func16, by kernel_rfl, by kernel_rfl⟩
theorem ok17 : okF Tryd.prog 17 := ⟨_, Tryd.func17, by kernel_rfl, by kernel_rfl⟩
theorem ok18 : okF Tryd.prog 18 := ⟨_, Tryd.func18, by kernel_rfl, by kernel_rfl⟩
theorem ok19 : okF Tryd.prog 19 := ⟨_, Tryd.func19, by kernel_rfl, by kernel_rfl⟩

def isByte (y : HV) : Prop := ∃ c : UInt8, y = .int .u8 c.toNat
theorem bytes_of : ∀ {l : List HV}, (∀ y ∈ l, isByte y) → ∃ b : List UInt8, l = bcells b
  | [], _ => ⟨[], rfl⟩
  | y :: l, h => by
    obtain ⟨c, hc⟩ := h y (by simp)
    obtain ⟨b, hb⟩ := bytes_of (l := l) fun z hz => h z (by simp [hz])
    exact ⟨c :: b, by rw [hc, hb]; rfl⟩
theorem isByte_b (b : List UInt8) : ∀ y ∈ bcells b, isByte y := by
  intro y hy
  obtain ⟨c, _, rfl⟩ := List.mem_map.1 hy
  exact ⟨c, rfl⟩
/-- the lists are not too long, and read as they must. -/
def Fit (b : Nat) (C : List Two) : Prop := ∀ x ∈ C, x.co = x.cw ∧ x.co.length ≤ b
/-- a list that was handed out is nil, has no room, or is an open row of its own. -/
def Full (hs : HS) (x : Two) : Prop := x.out = .nilSlice ∨ (∃ h, x.out = .slice h 0 x.co.length (some x.co.length)) ∨ ∃ h, x.out = .slice h 0 x.co.length none ∧ ∃ cs ro olds, hs[h]? = some (some (.cells 1 cs ro true olds))

variable {n : Nat} {hB : Nat} {C : List Two} {rest : List HV} {lo hi : Nat} {vo vw : HV}

theorem copied18 (hs : HS) {l : HV} {c : List HV} (hl : SlAt hs l c) (hc : c.length ≤ 140737488355328) : HC Tryd.prog 18 [l] hs fun m a2 => Keeps hs.length hs a2 ∧ Wr a2 m c ∧ (∀ h ∈ hd m, hs.length ≤ h) ∧ OwnSl hs.length a2 1 m c.length c := by
  have hmax : maxLen = 9223372036854775807 := rfl
  have hbs : hbuildSlice hs 1 0 [] [] = some (.slice hs.length 0 0 (some 0), hs ++ [some (.cells 1 [] false false [])]) := rfl
  have kA : Keeps hs.length hs (hs ++ [some (.cells 1 [] false false [])]) := Keeps.app (Nat.le_refl _)
  have hlA : SlAt (hs ++ [some (.cells 1 [] false false [])]) l c := hl.keep (Nat.le_refl _) kA
  have htA := hlA.take
  have like : ∃ m a2, happend (hs ++ [some (.cells 1 [] false false [])]) 1 1 (.slice hs.length 0 0 (some 0)) l = some (m, a2) ∧ Keeps hs.length hs a2 ∧ Wr a2 m c ∧ (∀ h ∈ hd m, hs.length ≤ h) ∧ OwnSl hs.length a2 1 m c.length c := by
    by_cases h0 : c.length = 0
    · obtain rfl := List.eq_nil_of_length_eq_zero h0
      refine ⟨_, _, app_none htA (.inr ⟨_, _, _, _, rfl⟩), kA, .inr ⟨hs.length, some 0, false, rfl, by simp⟩, ?_, OwnSl.empty (ro := false) (opn := false) (olds := []) (by simp)⟩
      intro h hh; simp [hd] at hh; omega
    · refine ⟨_, _, app_new htA h0 (ro := false) (opn := false) (olds := []) (by simp) (by omega) (by omega), kA.trans (Keeps.app (by simp)), .inr ⟨_, none, true, rfl, by simp⟩, ?_, ⟨by simp, .inr (.inr ⟨_, [], rfl, by simp, by simp, by simp⟩)⟩⟩
      intro h hh; simp [hd] at hh; omega
  obtain ⟨m, a2, hap, r⟩ := like
  refine HC.wp mixed Tryd.func18 c18 ?_
  simp -implicitDefEqProofs (disch := first | omega | decide) only [vwp_skip, vwp_ret, vwp_exit, vwp_lab, vwp_seq, vwp_cond, vwp_block, vwp_scope, vwp_region, vwp_draw, vwp_loop, vwp_range, vcnd_tt, vcnd_ff, vthen_normal, vthen_ret, vthen_exit, vblock_normal, vblock_ret, vblock_exit, vreg_nil, vreg_cons, vhl_nil, vhl_op, vhl_guard, vguard_tt, vguard_ff, vguard_tf, vguard_ft, vguard_no, vact_op, vop_some, vput_some, vput_none, vsame_sm, vunit_sm, vget_nil, vget_cons, vget_some,
    vo_mv, vo_bin, vo_un, vo_ext, vo_len, vo_idxS, vo_idxStr, vo_load, vo_pick, vo_append, vo_bslice, evp, vo_nilc, vo_faddr, vo_store, vo_sliceSl, vo_sliceStr, vo_cInt, vo_copy, vo_mkSlice, vo_box, vo_build, vo_b2s, vb2s_sl, vb2s_nil, vcInt, vnil_ptr, vo_mkMap, vo_mkfn, vo_lookup, vo_mapUpd, vo_del, vdel_some, vo_rangeMap, vo_entry, vfaddr_ptr, beq_self_eq_true, eq_self, decide_true, decide_false, vb_lss, vb_leq, vb_gtr, vb_geq, vb_eql, vb_neq, vb_seql, vb_sneq, vb_beql, vb_bneq, vun_not, vlen_str, vlen_sl, vlen_nil, vext_tup, HX.ev, List.length_cons, List.length_nil, List.append_nil, List.nil_append, List.cons_append, List.set_cons_succ, List.set_cons_zero, List.getElem?_cons_succ, List.getElem?_cons_zero, Option.getD_some, Option.map_some, Option.map_none, List.map_cons, List.map_nil, if_true, Bool.not_true, Bool.not_false, Bool.false_eq_true, if_false, h18, hbs, hap, frame0, List.replicate, Nat.sub]
  exact ⟨rfl, _, rfl, r⟩

theorem holds (hs : HS) (B : Bk isByte n hs hB C rest lo hi vo vw) {b : Nat} (hf : Fit b C) (hb : b < 4611686018427387904) (hC : C.length < 1073741824) : HC Tryd.prog 16 [.ptr hB 0] hs fun v hs' => v = .bool true ∧ hs' = hs := by
  have l0 : hload none hs (.ptr hB 0) = some vo := by simp only [hload, B.box]; rfl
  have l1 : hload none hs (.ptr hB 1) = some vw := by simp only [hload, B.box]; rfl
  have hlo := B.out.len
  have so := B.out.sl
  have sw := B.want.sl
  refine HC.wp mixed Tryd.func16 c16 ?_
  simp -implicitDefEqProofs (disch := first | omega | decide) only [vwp_skip, vwp_ret, vwp_exit, vwp_lab, vwp_seq, vwp_cond, vwp_block, vwp_scope, vwp_region, vwp_draw, vwp_loop, vwp_range, vcnd_tt, vcnd_ff, vthen_normal, vthen_ret, vthen_exit, vblock_normal, vblock_ret, vblock_exit, vreg_nil, vreg_cons, vhl_nil, vhl_op, vhl_guard, vguard_tt, vguard_ff, vguard_tf, vguard_ft, vguard_no, vact_op, vop_some, vput_some, vput_none, vsame_sm, vunit_sm, vget_nil, vget_cons, vget_some,
    vo_mv, vo_bin, vo_un, vo_ext, vo_len, vo_idxS, vo_idxStr, vo_load, vo_pick, vo_append, vo_bslice, evp, vo_nilc, vo_faddr, vo_store, vo_sliceSl, vo_sliceStr, vo_cInt, vo_copy, vo_mkSlice, vo_box, vo_build, vo_b2s, vb2s_sl, vb2s_nil, vcInt, vnil_ptr, vo_mkMap, vo_mkfn, vo_lookup, vo_mapUpd, vo_del, vdel_some, vo_rangeMap, vo_entry, vfaddr_ptr, beq_self_eq_true, eq_self, decide_true, decide_false, vb_lss, vb_leq, vb_gtr, vb_geq, vb_eql, vb_neq, vb_seql, vb_sneq, vb_beql, vb_bneq, vun_not, vlen_str, vlen_sl, vlen_nil, vext_tup, HX.ev, List.length_cons, List.length_nil, List.append_nil, List.nil_append, List.cons_append, List.set_cons_succ, List.set_cons_zero, List.getElem?_cons_succ, List.getElem?_cons_zero, Option.getD_some, Option.map_some, Option.map_none, List.map_cons, List.map_nil, if_true, Bool.not_true, Bool.not_false, Bool.false_eq_true, if_false, h16, frame0, List.replicate, Nat.sub]
  refine HW.loopS mixed (fun i : Nat => (.ptr hB 0 :: .undef :: .bool false :: .int .i64 (i : Nat) :: .undef :: .undef :: .undef :: .undef :: .undef :: .undef :: .undef :: .undef :: .undef :: .undef :: .undef :: .undef :: .undef :: .undef :: .undef :: .undef :: .undef :: .undef :: .undef :: .undef :: .undef :: .undef :: .undef :: .undef :: .undef :: [])) (fun _ => hs) (fun i => C.length - i) (fun i => i ≤ C.length) 0 (by omega) rfl (by (repeat first | exact Less.nil | refine Less.undef _ ?_ | refine Less.keep _ ?_)) ?_
  rintro i hi
  by_cases h : i < C.length
  · have hlt : decide ((i : Int) < (C.length : Nat)) = true := by simp; omega
    have hx : C[i]? = some C[i] := List.getElem?_eq_getElem h
    have hm : C[i] ∈ C := List.getElem_mem h
    obtain ⟨r1, r2, r3, r4⟩ := B.rd _ hm
    obtain ⟨e1, e2⟩ := hf _ hm
    obtain ⟨ws, hws⟩ := bytes_of r3
    obtain ⟨p, hp1, hp2⟩ := so.idx (show (C.map Two.out)[i]? = some C[i].out by rw [List.getElem?_map, hx]; rfl) .i64
    obtain ⟨q, hq1, hq2⟩ := sw.idx (show (C.map Two.want)[i]? = some C[i].want by rw [List.getElem?_map, hx]; rfl) .i64
    rw [hws] at r1 e2
    rw [← e1, hws] at r2
    rw [bcells_length] at e2
    have eqb : (ws == ws) = true := by simp
    simp -implicitDefEqProofs (disch := first | omega | decide) only [vwp_skip, vwp_ret, vwp_exit, vwp_lab, vwp_seq, vwp_cond, vwp_block, vwp_scope, vwp_region, vwp_draw, vwp_loop, vwp_range, vcnd_tt, vcnd_ff, vthen_normal, vthen_ret, vthen_exit, vblock_normal, vblock_ret, vblock_exit, vreg_nil, vreg_cons, vhl_nil, vhl_op, vhl_guard, vguard_tt, vguard_ff, vguard_tf, vguard_ft, vguard_no, vact_op, vop_some, vput_some, vput_none, vsame_sm, vunit_sm, vget_nil, vget_cons, vget_some,
    vo_mv, vo_bin, vo_un, vo_ext, vo_len, vo_idxS, vo_idxStr, vo_load, vo_pick, vo_append, vo_bslice, evp, vo_nilc, vo_faddr, vo_store, vo_sliceSl, vo_sliceStr, vo_cInt, vo_copy, vo_mkSlice, vo_box, vo_build, vo_b2s, vb2s_sl, vb2s_nil, vcInt, vnil_ptr, vo_mkMap, vo_mkfn, vo_lookup, vo_mapUpd, vo_del, vdel_some, vo_rangeMap, vo_entry, vfaddr_ptr, beq_self_eq_true, eq_self, decide_true, decide_false, vb_lss, vb_leq, vb_gtr, vb_geq, vb_eql, vb_neq, vb_seql, vb_sneq, vb_beql, vb_bneq, vun_not, vlen_str, vlen_sl, vlen_nil, vext_tup, HX.ev, List.length_cons, List.length_nil, List.append_nil, List.nil_append, List.cons_append, List.set_cons_succ, List.set_cons_zero, List.getElem?_cons_succ, List.getElem?_cons_zero, Option.getD_some, Option.map_some, Option.map_none, List.map_cons, List.map_nil, if_true, Bool.not_true, Bool.not_false, Bool.false_eq_true, if_false, l0, l1, hlo, hlt, so.sOk, sw.sOk, hp1, hp2, hq1, hq2]
    refine vcall_of ok14 rfl (same14 r1 r2 (by omega) (by omega)) ?_
    rintro _ hs ⟨rfl, rfl⟩
    simp -implicitDefEqProofs (disch := first | omega | decide) only [vwp_skip, vwp_ret, vwp_exit, vwp_lab, vwp_seq, vwp_cond, vwp_block, vwp_scope, vwp_region, vwp_draw, vwp_loop, vwp_range, vcnd_tt, vcnd_ff, vthen_normal, vthen_ret, vthen_exit, vblock_normal, vblock_ret, vblock_exit, vreg_nil, vreg_cons, vhl_nil, vhl_op, vhl_guard, vguard_tt, vguard_ff, vguard_tf, vguard_ft, vguard_no, vact_op, vop_some, vput_some, vput_none, vsame_sm, vunit_sm, vget_nil, vget_cons, vget_some,
    vo_mv, vo_bin, vo_un, vo_ext, vo_len, vo_idxS, vo_idxStr, vo_load, vo_pick, vo_append, vo_bslice, evp, vo_nilc, vo_faddr, vo_store, vo_sliceSl, vo_sliceStr, vo_cInt, vo_copy, vo_mkSlice, vo_box, vo_build, vo_b2s, vb2s_sl, vb2s_nil, vcInt, vnil_ptr, vo_mkMap, vo_mkfn, vo_lookup, vo_mapUpd, vo_del, vdel_some, vo_rangeMap, vo_entry, vfaddr_ptr, beq_self_eq_true, eq_self, decide_true, decide_false, vb_lss, vb_leq, vb_gtr, vb_geq, vb_eql, vb_neq, vb_seql, vb_sneq, vb_beql, vb_bneq, vun_not, vlen_str, vlen_sl, vlen_nil, vext_tup, HX.ev, List.length_cons, List.length_nil, List.append_nil, List.nil_append, List.cons_append, List.set_cons_succ, List.set_cons_zero, List.getElem?_cons_succ, List.getElem?_cons_zero, Option.getD_some, Option.map_some, Option.map_none, List.map_cons, List.map_nil, if_true, Bool.not_true, Bool.not_false, Bool.false_eq_true, if_false, eqb, vadd1]
    exact ⟨i + 1, by omega, by omega, trivial, by (repeat first | exact Less.nil | refine Less.undef _ ?_ | refine Less.keep _ ?_)⟩
  · obtain rfl : i = C.length := by omega
    have hlt : decide (((C.length : Nat) : Int) < (C.length : Nat)) = false := by simp
    simp -implicitDefEqProofs (disch := first | omega | decide) only [vwp_skip, vwp_ret, vwp_exit, vwp_lab, vwp_seq, vwp_cond, vwp_block, vwp_scope, vwp_region, vwp_draw, vwp_loop, vwp_range, vcnd_tt, vcnd_ff, vthen_normal, vthen_ret, vthen_exit, vblock_normal, vblock_ret, vblock_exit, vreg_nil, vreg_cons, vhl_nil, vhl_op, vhl_guard, vguard_tt, vguard_ff, vguard_tf, vguard_ft, vguard_no, vact_op, vop_some, vput_some, vput_none, vsame_sm, vunit_sm, vget_nil, vget_cons, vget_some,
    vo_mv, vo_bin, vo_un, vo_ext, vo_len, vo_idxS, vo_idxStr, vo_load, vo_pick, vo_append, vo_bslice, evp, vo_nilc, vo_faddr, vo_store, vo_sliceSl, vo_sliceStr, vo_cInt, vo_copy, vo_mkSlice, vo_box, vo_build, vo_b2s, vb2s_sl, vb2s_nil, vcInt, vnil_ptr, vo_mkMap, vo_mkfn, vo_lookup, vo_mapUpd, vo_del, vdel_some, vo_rangeMap, vo_entry, vfaddr_ptr, beq_self_eq_true, eq_self, decide_true, decide_false, vb_lss, vb_leq, vb_gtr, vb_geq, vb_eql, vb_neq, vb_seql, vb_sneq, vb_beql, vb_bneq, vun_not, vlen_str, vlen_sl, vlen_nil, vext_tup, HX.ev, List.length_cons, List.length_nil, List.append_nil, List.nil_append, List.cons_append, List.set_cons_succ, List.set_cons_zero, List.getElem?_cons_succ, List.getElem?_cons_zero, Option.getD_some, Option.map_some, Option.map_none, List.map_cons, List.map_nil, if_true, Bool.not_true, Bool.not_false, Bool.false_eq_true, if_false, l0, hlo, hlt]
    exact ⟨rfl, _, rfl, rfl, trivial⟩

theorem keep17 (g hs : HS) (B : Bk isByte n g hB C rest lo hi vo vw) (hn : n ≤ g.length) (k2 : Keeps g.length g hs) {l : HV} {c : List HV} (hl : Wr hs l c) (ql : ∀ y ∈ c, isByte y) (fl : ∀ h ∈ hd l, g.length ≤ h) (hsz : C.length < 1073741824)
    (hc : c.length < 1099511627776) (hlo : lo ≤ C.length) (hhi : hi = C.length) :
    HC Tryd.prog 17 [.ptr hB 0, l] hs fun _ hs' => ∃ m vo' vw', Bk isByte n hs' hB (C ++ [⟨l, m, c, c⟩]) rest lo (C.length + 1) vo' vw' ∧ Keeps n g hs' ∧ (∀ i, i < hs.length → i ≠ hB → i ∉ hd vo → i ∉ hd vw → hs'[i]? = hs[i]?) ∧ hs.length ≤ hs'.length ∧ (∀ h ∈ hd vo', g.length ≤ h) ∧ (∀ h ∈ hd vw', g.length ≤ h) ∧ ∀ h ∈ hd m, g.length ≤ h := by
  have hmax : maxLen = 9223372036854775807 := rfl
  refine HC.wp mixed Tryd.func17 c17 ?_
  simp -implicitDefEqProofs (disch := first | omega | decide) only [vwp_skip, vwp_ret, vwp_exit, vwp_lab, vwp_seq, vwp_cond, vwp_block, vwp_scope, vwp_region, vwp_draw, vwp_loop, vwp_range, vcnd_tt, vcnd_ff, vthen_normal, vthen_ret, vthen_exit, vblock_normal, vblock_ret, vblock_exit, vreg_nil, vreg_cons, vhl_nil, vhl_op, vhl_guard, vguard_tt, vguard_ff, vguard_tf, vguard_ft, vguard_no, vact_op, vop_some, vput_some, vput_none, vsame_sm, vunit_sm, vget_nil, vget_cons, vget_some,
    vo_mv, vo_bin, vo_un, vo_ext, vo_len, vo_idxS, vo_idxStr, vo_load, vo_pick, vo_append, vo_bslice, evp, vo_nilc, vo_faddr, vo_store, vo_sliceSl, vo_sliceStr, vo_cInt, vo_copy, vo_mkSlice, vo_box, vo_build, vo_b2s, vb2s_sl, vb2s_nil, vcInt, vnil_ptr, vo_mkMap, vo_mkfn, vo_lookup, vo_mapUpd, vo_del, vdel_some, vo_rangeMap, vo_entry, vfaddr_ptr, beq_self_eq_true, eq_self, decide_true, decide_false, vb_lss, vb_leq, vb_gtr, vb_geq, vb_eql, vb_neq, vb_seql, vb_sneq, vb_beql, vb_bneq, vun_not, vlen_str, vlen_sl, vlen_nil, vext_tup, HX.ev, List.length_cons, List.length_nil, List.append_nil, List.nil_append, List.cons_append, List.set_cons_succ, List.set_cons_zero, List.getElem?_cons_succ, List.getElem?_cons_zero, Option.getD_some, Option.map_some, Option.map_none, List.map_cons, List.map_nil, if_true, Bool.not_true, Bool.not_false, Bool.false_eq_true, if_false, h17, frame0, List.replicate, Nat.sub]
  refine vcall_of ok18 rfl (copied18 hs hl.sl (by omega)) ?_
  rintro m a2 ⟨ka2, hmw, hmh, _⟩
  have hl2 : Wr a2 l c := hl.same fun i hi => ka2.2 i (hl.sl.lt i hi)
  obtain ⟨vo', a4, vw', a7, e1, e2, e3, e4, e5, e6, o1, o2, o3, o4, e7, e8, e9, e10, e11, e12⟩ := B.push hn (k2.trans (ka2.less k2.1)) hl2.sl hmw.sl ql ql fl (fun h hh => Nat.le_trans k2.1 (hmh h hh))
    (fun h hh hh2 => by have := hl.sl.lt h hh; have := hmh h hh2; omega) (by omega) (C.length + 1) (fun h => by omega) (fun _ _ => ⟨hl2, hmw⟩) (by omega) (fun _ => by omega)
  obtain ⟨i1, i2⟩ := hl.sl.isOne
  obtain ⟨j1, j2⟩ := hmw.sl.isOne
  have b1 := slice_one (hs := a2) (z := .nilSlice) rfl i2 i1
  have b2 := slice_one (hs := (a4.set hB (some (.cells 1 (vo' :: vw :: rest) false false [])))) (z := .nilSlice) rfl j2 j1
  rw [List.length_set] at b2
  simp -implicitDefEqProofs (disch := first | omega | decide) only [vwp_skip, vwp_ret, vwp_exit, vwp_lab, vwp_seq, vwp_cond, vwp_block, vwp_scope, vwp_region, vwp_draw, vwp_loop, vwp_range, vcnd_tt, vcnd_ff, vthen_normal, vthen_ret, vthen_exit, vblock_normal, vblock_ret, vblock_exit, vreg_nil, vreg_cons, vhl_nil, vhl_op, vhl_guard, vguard_tt, vguard_ff, vguard_tf, vguard_ft, vguard_no, vact_op, vop_some, vput_some, vput_none, vsame_sm, vunit_sm, vget_nil, vget_cons, vget_some,
    vo_mv, vo_bin, vo_un, vo_ext, vo_len, vo_idxS, vo_idxStr, vo_load, vo_pick, vo_append, vo_bslice, evp, vo_nilc, vo_faddr, vo_store, vo_sliceSl, vo_sliceStr, vo_cInt, vo_copy, vo_mkSlice, vo_box, vo_build, vo_b2s, vb2s_sl, vb2s_nil, vcInt, vnil_ptr, vo_mkMap, vo_mkfn, vo_lookup, vo_mapUpd, vo_del, vdel_some, vo_rangeMap, vo_entry, vfaddr_ptr, beq_self_eq_true, eq_self, decide_true, decide_false, vb_lss, vb_leq, vb_gtr, vb_geq, vb_eql, vb_neq, vb_seql, vb_sneq, vb_beql, vb_bneq, vun_not, vlen_str, vlen_sl, vlen_nil, vext_tup, HX.ev, List.length_cons, List.length_nil, List.append_nil, List.nil_append, List.cons_append, List.set_cons_succ, List.set_cons_zero, List.getElem?_cons_succ, List.getElem?_cons_zero, Option.getD_some, Option.map_some, Option.map_none, List.map_cons, List.map_nil, if_true, Bool.not_true, Bool.not_false, Bool.false_eq_true, if_false, e1, b1, e2, e3, e4, b2, e5, e6]
  have := k2.1; have := ka2.1
  refine ⟨rfl, _, rfl, m, vo', vw', e8, e7, fun i hi h1 h2 h3 => ?_, by omega, fun h hh => by have := e11 h hh; omega, fun h hh => by have := e12 h hh; omega, fun h hh => by have := hmh h hh; omega⟩
  rw [e10 i (by omega) h1 h2 h3, ka2.2 i (by omega)]
end H
end Go.Proofs.YthihchoccpnfeaaDoor
namespace Go.Proofs.YthihchoccpnfeaaDoor
open Go Go.HL Go.Shelf V
namespace H
set_option maxRecDepth 100000
set_option maxHeartbeats 40000000
set_option linter.unusedSimpArgs false
variable {n : Nat} {hB : Nat} {rest : List HV} {vo vw : HV}
/-- the mark of a list. -/
def mk (i d : Nat) : HV := .int .u8 ((UInt8.ofNat (i * 7 + d)).toNat : Nat)
theorem mk_byte (i d : Nat) : isByte (mk i d) := ⟨_, rfl⟩
theorem mk_conv (i d : Nat) : hconvInt .u8 (.int .i64 ((i * 7 + d : Nat) : Int)) = some (mk i d) := by
  simp only [hconvInt, mk]
  have : (UInt8.ofNat (i * 7 + d)).toNat = (i * 7 + d) % 256 := rfl
  rw [this]
  congr 2
theorem mul7 {i : Nat} (h : i < 1000000) : hbin .mul none (.int .i64 (i : Nat)) (.int .i64 7) = some (.int .i64 ((i * 7 : Nat) : Int)) := by
  rw [vb_mul, vwr_i64 (by omega)]; simp
theorem add1 {i : Nat} (h : i < 1000000) : hbin .add none (.int .i64 ((i * 7 : Nat) : Int)) (.int .i64 1) = some (.int .i64 ((i * 7 + 1 : Nat) : Int)) := vadd1 (by omega)
theorem add2 {i : Nat} (h : i < 1000000) : hbin .add none (.int .i64 ((i * 7 : Nat) : Int)) (.int .i64 2) = some (.int .i64 ((i * 7 + 2 : Nat) : Int)) := vaddn (j := 2) (by omega)

theorem own_of {hs : HS} {x : Two} (h : Full hs x) (w : Wr hs x.out x.co) : OwnSl 0 hs 1 x.out x.co.length x.co := by
  rcases w with ⟨e1, e2⟩ | ⟨b, cap, opn, e1, e2⟩
  · rw [e1, e2]; exact OwnSl.nil 0 hs 1
  · rcases h with h | ⟨b', h⟩ | ⟨b', h, cs, ro, olds, h2⟩
    · rw [h] at e1; simp at e1
    · rw [h] at e1 ⊢
      simp at e1
      obtain ⟨rfl, _⟩ := e1
      exact ⟨by simp, .inr (.inl ⟨b', false, opn, [], rfl, e2⟩)⟩
    · rw [h] at e1 ⊢
      simp at e1
      obtain ⟨rfl, _⟩ := e1
      rw [h2] at e2
      simp at e2
      obtain ⟨rfl, rfl, rfl, rfl⟩ := e2
      exact ⟨by simp, .inr (.inr ⟨b', [], rfl, by omega, h2, by simp⟩)⟩
theorem Full.set {hs hs' : HS} {x y : Two} (h : Full hs x) (e1 : y.out = x.out) (e2 : y.co.length = x.co.length) (hk : Opn hs hs') : Full hs' y := by
  rcases h with h | ⟨b', h⟩ | ⟨b', h, cs, ro, olds, h2⟩
  · exact .inl (by rw [e1]; exact h)
  · exact .inr (.inl ⟨b', by rw [e1, e2]; exact h⟩)
  · exact .inr (.inr ⟨b', by rw [e1, e2]; exact h, hk _ _ _ _ h2⟩)

theorem spoil19 (hs : HS) {C : List Two} (B : Bk isByte n hs hB C rest 0 C.length vo vw) (hn : n ≤ hs.length) {b : Nat} (hf : Fit b C) (hbb : b ≤ 1099511627000) (hsz : C.length < 1000000) (hfull : ∀ (j : Nat) (x : Two), C[j]? = some x → Full hs x) :
    HC Tryd.prog 19 [.ptr hB 0] hs fun r hs' => r = .bool true := by
  have l0 : hload none hs (.ptr hB 0) = some vo := by simp only [hload, B.box]; rfl
  have hlo := B.out.len
  refine HC.wp mixed Tryd.func19 c19 ?_
  simp -implicitDefEqProofs (disch := first | omega | decide) only [vwp_skip, vwp_ret, vwp_exit, vwp_lab, vwp_seq, vwp_cond, vwp_block, vwp_scope, vwp_region, vwp_draw, vwp_loop, vwp_range, vcnd_tt, vcnd_ff, vthen_normal, vthen_ret, vthen_exit, vblock_normal, vblock_ret, vblock_exit, vreg_nil, vreg_cons, vhl_nil, vhl_op, vhl_guard, vguard_tt, vguard_ff, vguard_tf, vguard_ft, vguard_no, vact_op, vop_some, vput_some, vput_none, vsame_sm, vunit_sm, vget_nil, vget_cons, vget_some,
    vo_mv, vo_bin, vo_un, vo_ext, vo_len, vo_idxS, vo_idxStr, vo_load, vo_pick, vo_append, vo_bslice, evp, vo_nilc, vo_faddr, vo_store, vo_sliceSl, vo_sliceStr, vo_cInt, vo_copy, vo_mkSlice, vo_box, vo_build, vo_b2s, vb2s_sl, vb2s_nil, vcInt, vnil_ptr, vo_mkMap, vo_mkfn, vo_lookup, vo_mapUpd, vo_del, vdel_some, vo_rangeMap, vo_entry, vfaddr_ptr, beq_self_eq_true, eq_self, decide_true, decide_false, vb_lss, vb_leq, vb_gtr, vb_geq, vb_eql, vb_neq, vb_seql, vb_sneq, vb_beql, vb_bneq, vun_not, vlen_str, vlen_sl, vlen_nil, vext_tup, HX.ev, List.length_cons, List.length_nil, List.append_nil, List.nil_append, List.cons_append, List.set_cons_succ, List.set_cons_zero, List.getElem?_cons_succ, List.getElem?_cons_zero, Option.getD_some, Option.map_some, Option.map_none, List.map_cons, List.map_nil, if_true, Bool.not_true, Bool.not_false, Bool.false_eq_true, if_false, h19, frame0, List.replicate, Nat.sub]
  refine vcall_of ok16 rfl (holds hs B hf (by omega) (by omega)) ?_
  rintro _ hs ⟨rfl, rfl⟩
  simp -implicitDefEqProofs (disch := first | omega | decide) only [vwp_skip, vwp_ret, vwp_exit, vwp_lab, vwp_seq, vwp_cond, vwp_block, vwp_scope, vwp_region, vwp_draw, vwp_loop, vwp_range, vcnd_tt, vcnd_ff, vthen_normal, vthen_ret, vthen_exit, vblock_normal, vblock_ret, vblock_exit, vreg_nil, vreg_cons, vhl_nil, vhl_op, vhl_guard, vguard_tt, vguard_ff, vguard_tf, vguard_ft, vguard_no, vact_op, vop_some, vput_some, vput_none, vsame_sm, vunit_sm, vget_nil, vget_cons, vget_some,
    vo_mv, vo_bin, vo_un, vo_ext, vo_len, vo_idxS, vo_idxStr, vo_load, vo_pick, vo_append, vo_bslice, evp, vo_nilc, vo_faddr, vo_store, vo_sliceSl, vo_sliceStr, vo_cInt, vo_copy, vo_mkSlice, vo_box, vo_build, vo_b2s, vb2s_sl, vb2s_nil, vcInt, vnil_ptr, vo_mkMap, vo_mkfn, vo_lookup, vo_mapUpd, vo_del, vdel_some, vo_rangeMap, vo_entry, vfaddr_ptr, beq_self_eq_true, eq_self, decide_true, decide_false, vb_lss, vb_leq, vb_gtr, vb_geq, vb_eql, vb_neq, vb_seql, vb_sneq, vb_beql, vb_bneq, vun_not, vlen_str, vlen_sl, vlen_nil, vext_tup, HX.ev, List.length_cons, List.length_nil, List.append_nil, List.nil_append, List.cons_append, List.set_cons_succ, List.set_cons_zero, List.getElem?_cons_succ, List.getElem?_cons_zero, Option.getD_some, Option.map_some, Option.map_none, List.map_cons, List.map_nil, if_true, Bool.not_true, Bool.not_false, Bool.false_eq_true, if_false, l0, hlo]
  refine HW.loopS (σ := Nat × List Two × HS) mixed (fun s => (.ptr hB 0 :: .undef :: .bool false :: .int .i64 (C.length : Nat) :: .int .i64 (s.1 : Nat) :: .undef :: .undef :: .undef :: .undef :: .undef :: .undef :: .undef :: .undef :: .undef :: .undef :: .undef :: .undef :: .undef :: .undef :: .undef :: .undef :: .undef :: .undef :: .undef :: .undef :: .undef :: .undef :: .undef :: .undef :: .undef :: .undef :: .undef :: .undef :: .undef :: .undef :: .undef :: .undef :: .undef :: .undef :: .undef :: .undef :: .undef :: .undef :: .undef :: .undef :: .undef :: .undef :: .undef :: .undef :: .undef :: .undef :: .undef :: .undef :: .undef :: .undef :: .undef :: .undef :: .undef :: .undef :: .undef :: .undef :: .undef :: .undef :: .undef :: .undef :: .undef :: .undef :: .undef :: .undef :: .undef :: .undef :: .undef :: .undef :: .undef :: .undef :: .undef :: .undef :: .undef :: .undef :: .undef :: .undef :: .undef :: .undef :: .undef :: .undef :: .undef :: .undef :: .undef :: .undef :: .undef :: .undef :: .undef :: .undef :: .undef :: .undef :: .undef :: .undef :: .undef :: .undef :: .undef :: .undef :: .undef :: .undef :: .undef :: .undef :: .undef :: .undef :: .undef :: .undef :: .undef :: .undef :: .undef :: .undef :: .undef :: .undef :: .undef :: .undef :: .undef :: .undef :: .undef :: .undef :: .undef :: .undef :: .undef :: [])) (fun s => s.2.2) (fun s => C.length - s.1)
    (fun s => s.1 ≤ C.length ∧ s.2.1.length = C.length ∧ Fit b s.2.1 ∧ n ≤ s.2.2.length ∧ Bk isByte n s.2.2 hB s.2.1 rest 0 C.length vo vw ∧ ∀ (j : Nat) (x : Two), s.2.1[j]? = some x → Full s.2.2 x)
    (0, C, hs) ⟨Nat.zero_le _, rfl, hf, hn, B, hfull⟩ rfl (by (repeat first | exact Less.nil | refine Less.undef _ ?_ | refine Less.keep _ ?_)) ?_
  rintro ⟨i, D, g⟩ ⟨h2, hD, hfD, hng, BD, hFD⟩
  simp only at h2 hD hfD hng BD hFD ⊢
  by_cases hi : i < C.length
  · have hlt : decide ((i : Int) < (C.length : Nat)) = true := by simp; omega
    have hx : D[i]? = some D[i] := List.getElem?_eq_getElem (by omega)
    obtain ⟨L, hL⟩ : ∃ L, L = D[i].co.length := ⟨_, rfl⟩
    have hLb := (hfD _ (List.getElem_mem (show i < D.length by omega))).2
    simp -implicitDefEqProofs (disch := first | omega | decide) only [vwp_skip, vwp_ret, vwp_exit, vwp_lab, vwp_seq, vwp_cond, vwp_block, vwp_scope, vwp_region, vwp_draw, vwp_loop, vwp_range, vcnd_tt, vcnd_ff, vthen_normal, vthen_ret, vthen_exit, vblock_normal, vblock_ret, vblock_exit, vreg_nil, vreg_cons, vhl_nil, vhl_op, vhl_guard, vguard_tt, vguard_ff, vguard_tf, vguard_ft, vguard_no, vact_op, vop_some, vput_some, vput_none, vsame_sm, vunit_sm, vget_nil, vget_cons, vget_some,
    vo_mv, vo_bin, vo_un, vo_ext, vo_len, vo_idxS, vo_idxStr, vo_load, vo_pick, vo_append, vo_bslice, evp, vo_nilc, vo_faddr, vo_store, vo_sliceSl, vo_sliceStr, vo_cInt, vo_copy, vo_mkSlice, vo_box, vo_build, vo_b2s, vb2s_sl, vb2s_nil, vcInt, vnil_ptr, vo_mkMap, vo_mkfn, vo_lookup, vo_mapUpd, vo_del, vdel_some, vo_rangeMap, vo_entry, vfaddr_ptr, beq_self_eq_true, eq_self, decide_true, decide_false, vb_lss, vb_leq, vb_gtr, vb_geq, vb_eql, vb_neq, vb_seql, vb_sneq, vb_beql, vb_bneq, vun_not, vlen_str, vlen_sl, vlen_nil, vext_tup, HX.ev, List.length_cons, List.length_nil, List.append_nil, List.nil_append, List.cons_append, List.set_cons_succ, List.set_cons_zero, List.getElem?_cons_succ, List.getElem?_cons_zero, Option.getD_some, Option.map_some, Option.map_none, List.map_cons, List.map_nil, if_true, Bool.not_true, Bool.not_false, Bool.false_eq_true, if_false, hlt]
    refine HW.loopS (σ := Nat × List Two × HS) mixed (fun s => (.ptr hB 0 :: .undef :: .bool false :: .int .i64 (C.length : Nat) :: .int .i64 (i : Nat) :: .int .i64 (s.1 : Nat) :: .undef :: .undef :: .undef :: .undef :: .undef :: .undef :: .undef :: .undef :: .undef :: .undef :: .undef :: .undef :: .undef :: .undef :: .undef :: .undef :: .undef :: .undef :: .undef :: .undef :: .undef :: .undef :: .undef :: .undef :: .undef :: .undef :: .undef :: .undef :: .undef :: .undef :: .undef :: .undef :: .undef :: .undef :: .undef :: .undef :: .undef :: .undef :: .undef :: .undef :: .undef :: .undef :: .undef :: .undef :: .undef :: .undef :: .undef :: .undef :: .undef :: .undef :: .undef :: .undef :: .undef :: .undef :: .undef :: .undef :: .undef :: .undef :: .undef :: .undef :: .undef :: .undef :: .undef :: .undef :: .undef :: .undef :: .undef :: .undef :: .undef :: .undef :: .undef :: .undef :: .undef :: .undef :: .undef :: .undef :: .undef :: .undef :: .undef :: .undef :: .undef :: .undef :: .undef :: .undef :: .undef :: .undef :: .undef :: .undef :: .undef :: .undef :: .undef :: .undef :: .undef :: .undef :: .undef :: .undef :: .undef :: .undef :: .undef :: .undef :: .undef :: .undef :: .undef :: .undef :: .undef :: .undef :: .undef :: .undef :: .undef :: .undef :: .undef :: .undef :: .undef :: .undef :: .undef :: .undef :: .undef :: .undef :: [])) (fun s => s.2.2) (fun s => L - s.1)
      (fun s => s.1 ≤ L ∧ s.2.1.length = C.length ∧ Fit b s.2.1 ∧ n ≤ s.2.2.length ∧ Bk isByte n s.2.2 hB s.2.1 rest 0 C.length vo vw ∧ (∃ a, s.2.1[i]? = some a ∧ a.co.length = L) ∧ ∀ (j : Nat) (x : Two), s.2.1[j]? = some x → Full s.2.2 x)
      (0, D, g) ⟨by simp, hD, hfD, hng, BD, ⟨D[i], hx, hL.symm⟩, hFD⟩ rfl (by (repeat first | exact Less.nil | refine Less.undef _ ?_ | refine Less.keep _ ?_)) ?_
    rintro ⟨k, E, g⟩ ⟨g1, g2, g3, g5, BE, ⟨a, ha, haL⟩, hFE⟩
    simp only at g1 g2 g3 g5 BE ha haL hFE ⊢
    have m0 : hload none g (.ptr hB 0) = some vo := by simp only [hload, BE.box]; rfl
    have m1 : hload none g (.ptr hB 1) = some vw := by simp only [hload, BE.box]; rfl
    have so := BE.out.sl
    obtain ⟨p, hp1, hp2⟩ := so.idx (show (E.map Two.out)[i]? = some a.out by rw [List.getElem?_map, ha]; rfl) .i64
    obtain ⟨r1, r2, r3, r4⟩ := BE.rd a (List.mem_of_getElem? ha)
    have hal := r1.len
    rw [haL] at hal
    by_cases hkl : k < L
    · have hltk : decide ((k : Int) < (L : Nat)) = true := by simp; omega
      obtain ⟨x, hx0⟩ : ∃ x, x = mk i 1 := ⟨_, rfl⟩
      have cv := mk_conv i 1
      rw [← hx0] at cv
      obtain ⟨p', g7, e1, e2, e3, e4, e5, B7, eo⟩ := BE.setOut ha (Nat.zero_le _) hi (by omega) (x := x) (by rw [hx0]; rfl) (by rw [hx0]; rfl) (by rw [hx0]; exact mk_byte _ _) (k := k) .i64
      have ha7 : (E.set i ⟨a.out, a.want, a.co.set k x, a.cw⟩)[i]? = some ⟨a.out, a.want, a.co.set k x, a.cw⟩ := by rw [List.getElem?_set]; simp [lt_of_get ha]
      have q1 : hload none g7 (.ptr hB 1) = some vw := by simp only [hload, B7.box]; rfl
      have s7 := B7.want.sl
      obtain ⟨p7, hp71, hp72⟩ := s7.idx (show ((E.set i ⟨a.out, a.want, a.co.set k x, a.cw⟩).map Two.want)[i]? = some a.want by rw [List.getElem?_map, ha7]; rfl) .i64
      have hcw : a.cw.length = L := by rw [← (g3 a (List.mem_of_getElem? ha)).1]; exact haL
      obtain ⟨p8, g9, f1, f2, f3, f4, f5, B9, fo⟩ := B7.setWant ha7 (Nat.zero_le _) hi (by simp only; omega) (x := x) (by rw [hx0]; rfl) (by rw [hx0]; rfl) (by rw [hx0]; exact mk_byte _ _) (k := k) .i64
      simp -implicitDefEqProofs (disch := first | omega | decide) only [vwp_skip, vwp_ret, vwp_exit, vwp_lab, vwp_seq, vwp_cond, vwp_block, vwp_scope, vwp_region, vwp_draw, vwp_loop, vwp_range, vcnd_tt, vcnd_ff, vthen_normal, vthen_ret, vthen_exit, vblock_normal, vblock_ret, vblock_exit, vreg_nil, vreg_cons, vhl_nil, vhl_op, vhl_guard, vguard_tt, vguard_ff, vguard_tf, vguard_ft, vguard_no, vact_op, vop_some, vput_some, vput_none, vsame_sm, vunit_sm, vget_nil, vget_cons, vget_some,
    vo_mv, vo_bin, vo_un, vo_ext, vo_len, vo_idxS, vo_idxStr, vo_load, vo_pick, vo_append, vo_bslice, evp, vo_nilc, vo_faddr, vo_store, vo_sliceSl, vo_sliceStr, vo_cInt, vo_copy, vo_mkSlice, vo_box, vo_build, vo_b2s, vb2s_sl, vb2s_nil, vcInt, vnil_ptr, vo_mkMap, vo_mkfn, vo_lookup, vo_mapUpd, vo_del, vdel_some, vo_rangeMap, vo_entry, vfaddr_ptr, beq_self_eq_true, eq_self, decide_true, decide_false, vb_lss, vb_leq, vb_gtr, vb_geq, vb_eql, vb_neq, vb_seql, vb_sneq, vb_beql, vb_bneq, vun_not, vlen_str, vlen_sl, vlen_nil, vext_tup, HX.ev, List.length_cons, List.length_nil, List.append_nil, List.nil_append, List.cons_append, List.set_cons_succ, List.set_cons_zero, List.getElem?_cons_succ, List.getElem?_cons_zero, Option.getD_some, Option.map_some, Option.map_none, List.map_cons, List.map_nil, if_true, Bool.not_true, Bool.not_false, Bool.false_eq_true, if_false, m0, so.sOk, hp1, hp2, hal, hltk, mul7, add1, cv, e1, e2, e3, q1, s7.sOk, hp71, hp72, f1, f2, f3, vadd1]
      rw [List.set_set] at B9
      have ha9 : (E.set i ⟨a.out, a.want, a.co.set k x, a.cw.set k x⟩)[i]? = some ⟨a.out, a.want, a.co.set k x, a.cw.set k x⟩ := by rw [List.getElem?_set]; simp [lt_of_get ha]
      refine ⟨(k + 1, E.set i ⟨a.out, a.want, a.co.set k x, a.cw.set k x⟩, g9), by simp only; omega, ⟨by simp only; omega, by simpa using g2, fun y hy => ?_, by simp only; omega, B9, ⟨_, ha9, by simpa using haL⟩, fun j y hy => ?_⟩, rfl, by (repeat first | exact Less.nil | refine Less.undef _ ?_ | refine Less.keep _ ?_)⟩
      · rcases mem_set_two hy with rfl | hy
        · obtain ⟨z1, z2⟩ := g3 a (List.mem_of_getElem? ha)
          exact ⟨by simp only [z1], by simpa using z2⟩
        · exact g3 y hy
      · have op : Opn g g9 := eo.trans fo
        rw [List.getElem?_set] at hy
        split at hy
        · rename_i hij
          subst hij
          rw [if_pos (lt_of_get ha)] at hy
          simp at hy; subst hy
          exact (hFE i a ha).set rfl (by simp) op
        · exact (hFE j y hy).set rfl rfl op
    · obtain rfl : k = L := by omega
      have hltk : decide (((k : Nat) : Int) < (k : Nat)) = false := by simp
      simp -implicitDefEqProofs (disch := first | omega | decide) only [vwp_skip, vwp_ret, vwp_exit, vwp_lab, vwp_seq, vwp_cond, vwp_block, vwp_scope, vwp_region, vwp_draw, vwp_loop, vwp_range, vcnd_tt, vcnd_ff, vthen_normal, vthen_ret, vthen_exit, vblock_normal, vblock_ret, vblock_exit, vreg_nil, vreg_cons, vhl_nil, vhl_op, vhl_guard, vguard_tt, vguard_ff, vguard_tf, vguard_ft, vguard_no, vact_op, vop_some, vput_some, vput_none, vsame_sm, vunit_sm, vget_nil, vget_cons, vget_some,
    vo_mv, vo_bin, vo_un, vo_ext, vo_len, vo_idxS, vo_idxStr, vo_load, vo_pick, vo_append, vo_bslice, evp, vo_nilc, vo_faddr, vo_store, vo_sliceSl, vo_sliceStr, vo_cInt, vo_copy, vo_mkSlice, vo_box, vo_build, vo_b2s, vb2s_sl, vb2s_nil, vcInt, vnil_ptr, vo_mkMap, vo_mkfn, vo_lookup, vo_mapUpd, vo_del, vdel_some, vo_rangeMap, vo_entry, vfaddr_ptr, beq_self_eq_true, eq_self, decide_true, decide_false, vb_lss, vb_leq, vb_gtr, vb_geq, vb_eql, vb_neq, vb_seql, vb_sneq, vb_beql, vb_bneq, vun_not, vlen_str, vlen_sl, vlen_nil, vext_tup, HX.ev, List.length_cons, List.length_nil, List.append_nil, List.nil_append, List.cons_append, List.set_cons_succ, List.set_cons_zero, List.getElem?_cons_succ, List.getElem?_cons_zero, Option.getD_some, Option.map_some, Option.map_none, List.map_cons, List.map_nil, if_true, Bool.not_true, Bool.not_false, Bool.false_eq_true, if_false, m0, so.sOk, hp1, hp2, hal, hltk, vadd1]
      exact ⟨(i + 1, E, g), by simp only; omega, ⟨by simp only; omega, g2, g3, g5, BE, hFE⟩, rfl, by (repeat first | exact Less.nil | refine Less.undef _ ?_ | refine Less.keep _ ?_)⟩
  · obtain rfl : i = C.length := by omega
    have hlt : decide (((C.length : Nat) : Int) < (C.length : Nat)) = false := by simp
    simp -implicitDefEqProofs (disch := first | omega | decide) only [vwp_skip, vwp_ret, vwp_exit, vwp_lab, vwp_seq, vwp_cond, vwp_block, vwp_scope, vwp_region, vwp_draw, vwp_loop, vwp_range, vcnd_tt, vcnd_ff, vthen_normal, vthen_ret, vthen_exit, vblock_normal, vblock_ret, vblock_exit, vreg_nil, vreg_cons, vhl_nil, vhl_op, vhl_guard, vguard_tt, vguard_ff, vguard_tf, vguard_ft, vguard_no, vact_op, vop_some, vput_some, vput_none, vsame_sm, vunit_sm, vget_nil, vget_cons, vget_some,
    vo_mv, vo_bin, vo_un, vo_ext, vo_len, vo_idxS, vo_idxStr, vo_load, vo_pick, vo_append, vo_bslice, evp, vo_nilc, vo_faddr, vo_store, vo_sliceSl, vo_sliceStr, vo_cInt, vo_copy, vo_mkSlice, vo_box, vo_build, vo_b2s, vb2s_sl, vb2s_nil, vcInt, vnil_ptr, vo_mkMap, vo_mkfn, vo_lookup, vo_mapUpd, vo_del, vdel_some, vo_rangeMap, vo_entry, vfaddr_ptr, beq_self_eq_true, eq_self, decide_true, decide_false, vb_lss, vb_leq, vb_gtr, vb_geq, vb_eql, vb_neq, vb_seql, vb_sneq, vb_beql, vb_bneq, vun_not, vlen_str, vlen_sl, vlen_nil, vext_tup, HX.ev, List.length_cons, List.length_nil, List.append_nil, List.nil_append, List.cons_append, List.set_cons_succ, List.set_cons_zero, List.getElem?_cons_succ, List.getElem?_cons_zero, Option.getD_some, Option.map_some, Option.map_none, List.map_cons, List.map_nil, if_true, Bool.not_true, Bool.not_false, Bool.false_eq_true, if_false, hlt]
    refine vcall_of ok16 rfl (holds g BD hfD (by omega) (by omega)) ?_
    rintro _ g ⟨rfl, rfl⟩
    simp -implicitDefEqProofs (disch := first | omega | decide) only [vwp_skip, vwp_ret, vwp_exit, vwp_lab, vwp_seq, vwp_cond, vwp_block, vwp_scope, vwp_region, vwp_draw, vwp_loop, vwp_range, vcnd_tt, vcnd_ff, vthen_normal, vthen_ret, vthen_exit, vblock_normal, vblock_ret, vblock_exit, vreg_nil, vreg_cons, vhl_nil, vhl_op, vhl_guard, vguard_tt, vguard_ff, vguard_tf, vguard_ft, vguard_no, vact_op, vop_some, vput_some, vput_none, vsame_sm, vunit_sm, vget_nil, vget_cons, vget_some,
    vo_mv, vo_bin, vo_un, vo_ext, vo_len, vo_idxS, vo_idxStr, vo_load, vo_pick, vo_append, vo_bslice, evp, vo_nilc, vo_faddr, vo_store, vo_sliceSl, vo_sliceStr, vo_cInt, vo_copy, vo_mkSlice, vo_box, vo_build, vo_b2s, vb2s_sl, vb2s_nil, vcInt, vnil_ptr, vo_mkMap, vo_mkfn, vo_lookup, vo_mapUpd, vo_del, vdel_some, vo_rangeMap, vo_entry, vfaddr_ptr, beq_self_eq_true, eq_self, decide_true, decide_false, vb_lss, vb_leq, vb_gtr, vb_geq, vb_eql, vb_neq, vb_seql, vb_sneq, vb_beql, vb_bneq, vun_not, vlen_str, vlen_sl, vlen_nil, vext_tup, HX.ev, List.length_cons, List.length_nil, List.append_nil, List.nil_append, List.cons_append, List.set_cons_succ, List.set_cons_zero, List.getElem?_cons_succ, List.getElem?_cons_zero, Option.getD_some, Option.map_some, Option.map_none, List.map_cons, List.map_nil, if_true, Bool.not_true, Bool.not_false, Bool.false_eq_true, if_false, vadd1]
    clear hlo l0
    refine HW.loopS (σ := Nat × List Two × HS × HV × HV) mixed (fun s => (.ptr hB 0 :: .undef :: .bool false :: .int .i64 (C.length : Nat) :: .undef :: .undef :: .int .i64 (s.1 : Nat) :: .undef :: .undef :: .undef :: .undef :: .undef :: .undef :: .undef :: .undef :: .undef :: .undef :: .undef :: .undef :: .undef :: .undef :: .undef :: .undef :: .undef :: .undef :: .undef :: .undef :: .undef :: .undef :: .undef :: .undef :: .undef :: .undef :: .undef :: .undef :: .undef :: .undef :: .undef :: .undef :: .undef :: .undef :: .undef :: .undef :: .undef :: .undef :: .undef :: .undef :: .undef :: .undef :: .undef :: .undef :: .undef :: .undef :: .undef :: .undef :: .undef :: .undef :: .undef :: .undef :: .undef :: .undef :: .undef :: .undef :: .undef :: .undef :: .undef :: .undef :: .undef :: .undef :: .undef :: .undef :: .undef :: .undef :: .undef :: .undef :: .undef :: .undef :: .undef :: .undef :: .undef :: .undef :: .undef :: .undef :: .undef :: .undef :: .undef :: .undef :: .undef :: .undef :: .undef :: .undef :: .undef :: .undef :: .undef :: .undef :: .undef :: .undef :: .undef :: .undef :: .undef :: .undef :: .undef :: .undef :: .undef :: .undef :: .undef :: .undef :: .undef :: .undef :: .undef :: .undef :: .undef :: .undef :: .undef :: .undef :: .undef :: .undef :: .undef :: .undef :: .undef :: .undef :: .undef :: .undef :: .undef :: [])) (fun s => s.2.2.1) (fun s => C.length - s.1)
      (fun s => s.1 ≤ C.length ∧ s.2.1.length = s.1 ∧ Fit (b + 100) (D ++ s.2.1) ∧ n ≤ s.2.2.1.length ∧ Bk isByte n s.2.2.1 hB (D ++ s.2.1) rest s.1 C.length s.2.2.2.1 s.2.2.2.2 ∧ ∀ (j : Nat) (x : Two), s.1 ≤ j → D[j]? = some x → Full s.2.2.1 x)
      (0, [], g, vo, vw) ⟨Nat.zero_le _, rfl, fun x hx => ⟨(hfD x (by simpa using hx)).1, Nat.le_trans (hfD x (by simpa using hx)).2 (by omega)⟩, hng, by simpa using BD, fun j x _ h => hFD j x h⟩ rfl (by (repeat first | exact Less.nil | refine Less.undef _ ?_ | refine Less.keep _ ?_)) ?_
    rintro ⟨i, G, g, vo, vw⟩ ⟨h2, hG, hfG, hng, BG, hFG⟩
    simp only at h2 hG hfG hng BG hFG ⊢
    have hDG : (D ++ G).length = C.length + i := by rw [List.length_append, hD, hG]
    have hmax : maxLen = 9223372036854775807 := rfl
    have m0 : hload none g (.ptr hB 0) = some vo := by simp only [hload, BG.box]; rfl
    have m1 : hload none g (.ptr hB 1) = some vw := by simp only [hload, BG.box]; rfl
    by_cases hi : i < C.length
    · have hlt : decide ((i : Int) < (C.length : Nat)) = true := by simp; omega
      have hx : D[i]? = some D[i] := List.getElem?_eq_getElem (by omega)
      obtain ⟨a, ha0⟩ : ∃ a, a = D[i] := ⟨_, rfl⟩
      rw [← ha0] at hx
      have ha : (D ++ G)[i]? = some a := by rw [List.getElem?_append_left (by omega)]; exact hx
      have ham := List.mem_of_getElem? ha
      obtain ⟨eqa, lena⟩ := hfD a (List.mem_of_getElem? hx)
      obtain ⟨w1, w2⟩ := BG.own i a ha (Nat.le_refl _) hi
      obtain ⟨r1, r2, r3, r4⟩ := BG.rd a ham
      have oa := own_of (hFG i a (Nat.le_refl _) hx) w1
      have so := BG.out.sl
      have sw := BG.want.sl
      obtain ⟨p, hp1, hp2⟩ := so.idx (show ((D ++ G).map Two.out)[i]? = some a.out by rw [List.getElem?_map, ha]; rfl) .i64
      obtain ⟨q, hq1, hq2⟩ := sw.idx (show ((D ++ G).map Two.want)[i]? = some a.want by rw [List.getElem?_map, ha]; rfl) .i64
      have hcw : a.cw = a.co := eqa.symm
      rw [hcw] at r2
      simp -implicitDefEqProofs (disch := first | omega | decide) only [vwp_skip, vwp_ret, vwp_exit, vwp_lab, vwp_seq, vwp_cond, vwp_block, vwp_scope, vwp_region, vwp_draw, vwp_loop, vwp_range, vcnd_tt, vcnd_ff, vthen_normal, vthen_ret, vthen_exit, vblock_normal, vblock_ret, vblock_exit, vreg_nil, vreg_cons, vhl_nil, vhl_op, vhl_guard, vguard_tt, vguard_ff, vguard_tf, vguard_ft, vguard_no, vact_op, vop_some, vput_some, vput_none, vsame_sm, vunit_sm, vget_nil, vget_cons, vget_some,
    vo_mv, vo_bin, vo_un, vo_ext, vo_len, vo_idxS, vo_idxStr, vo_load, vo_pick, vo_append, vo_bslice, evp, vo_nilc, vo_faddr, vo_store, vo_sliceSl, vo_sliceStr, vo_cInt, vo_copy, vo_mkSlice, vo_box, vo_build, vo_b2s, vb2s_sl, vb2s_nil, vcInt, vnil_ptr, vo_mkMap, vo_mkfn, vo_lookup, vo_mapUpd, vo_del, vdel_some, vo_rangeMap, vo_entry, vfaddr_ptr, beq_self_eq_true, eq_self, decide_true, decide_false, vb_lss, vb_leq, vb_gtr, vb_geq, vb_eql, vb_neq, vb_seql, vb_sneq, vb_beql, vb_bneq, vun_not, vlen_str, vlen_sl, vlen_nil, vext_tup, HX.ev, List.length_cons, List.length_nil, List.append_nil, List.nil_append, List.cons_append, List.set_cons_succ, List.set_cons_zero, List.getElem?_cons_succ, List.getElem?_cons_zero, Option.getD_some, Option.map_some, Option.map_none, List.map_cons, List.map_nil, if_true, Bool.not_true, Bool.not_false, Bool.false_eq_true, if_false, m0, m1, hlt, so.sOk, hp1, hp2, sw.sOk, hq1, hq2]
      refine vcall_of ok18 rfl (copied18 g r2 (by omega)) ?_
      rintro m1' gB ⟨kB, _, mh, om⟩
      simp -implicitDefEqProofs (disch := first | omega | decide) only [vwp_skip, vwp_ret, vwp_exit, vwp_lab, vwp_seq, vwp_cond, vwp_block, vwp_scope, vwp_region, vwp_draw, vwp_loop, vwp_range, vcnd_tt, vcnd_ff, vthen_normal, vthen_ret, vthen_exit, vblock_normal, vblock_ret, vblock_exit, vreg_nil, vreg_cons, vhl_nil, vhl_op, vhl_guard, vguard_tt, vguard_ff, vguard_tf, vguard_ft, vguard_no, vact_op, vop_some, vput_some, vput_none, vsame_sm, vunit_sm, vget_nil, vget_cons, vget_some,
    vo_mv, vo_bin, vo_un, vo_ext, vo_len, vo_idxS, vo_idxStr, vo_load, vo_pick, vo_append, vo_bslice, evp, vo_nilc, vo_faddr, vo_store, vo_sliceSl, vo_sliceStr, vo_cInt, vo_copy, vo_mkSlice, vo_box, vo_build, vo_b2s, vb2s_sl, vb2s_nil, vcInt, vnil_ptr, vo_mkMap, vo_mkfn, vo_lookup, vo_mapUpd, vo_del, vdel_some, vo_rangeMap, vo_entry, vfaddr_ptr, beq_self_eq_true, eq_self, decide_true, decide_false, vb_lss, vb_leq, vb_gtr, vb_geq, vb_eql, vb_neq, vb_seql, vb_sneq, vb_beql, vb_bneq, vun_not, vlen_str, vlen_sl, vlen_nil, vext_tup, HX.ev, List.length_cons, List.length_nil, List.append_nil, List.nil_append, List.cons_append, List.set_cons_succ, List.set_cons_zero, List.getElem?_cons_succ, List.getElem?_cons_zero, Option.getD_some, Option.map_some, Option.map_none, List.map_cons, List.map_nil, if_true, Bool.not_true, Bool.not_false, Bool.false_eq_true, if_false, hlt]
      refine HW.loopS (σ := Nat × HV × HV × List HV × HS) mixed (fun s => (.ptr hB 0 :: .undef :: .bool false :: .int .i64 (C.length : Nat) :: .undef :: .undef :: .int .i64 (i : Nat) :: s.2.1 :: s.2.2.1 :: .int .i64 (s.1 : Nat) :: .undef :: .undef :: .undef :: .undef :: .undef :: .undef :: .undef :: .undef :: .undef :: .undef :: .undef :: .undef :: .undef :: .undef :: .undef :: .undef :: .undef :: .undef :: .undef :: .undef :: .undef :: .undef :: .undef :: .undef :: .undef :: .undef :: .undef :: .undef :: .undef :: .undef :: .undef :: .undef :: .undef :: .undef :: .undef :: .undef :: .undef :: .undef :: .undef :: .undef :: .undef :: .undef :: .undef :: .undef :: .undef :: .undef :: .undef :: .undef :: .undef :: .undef :: .undef :: .undef :: .undef :: .undef :: .undef :: .undef :: .undef :: .undef :: .undef :: .undef :: .undef :: .undef :: .undef :: .undef :: .undef :: .undef :: .undef :: .undef :: .undef :: .undef :: .undef :: .undef :: .undef :: .undef :: .undef :: .undef :: .undef :: .undef :: .undef :: .undef :: .undef :: .undef :: .undef :: .undef :: .undef :: .undef :: .undef :: .undef :: .undef :: .undef :: .undef :: .undef :: .undef :: .undef :: .undef :: .undef :: .undef :: .undef :: .undef :: .undef :: .undef :: .undef :: .undef :: .undef :: .undef :: .undef :: .undef :: .undef :: .undef :: .undef :: .undef :: .undef :: .undef :: .undef :: [])) (fun s => s.2.2.2.2) (fun s => 100 - s.1)
        (fun s => s.1 ≤ 100 ∧ g.length ≤ s.2.2.2.2.length ∧ Reads g s.2.2.2.2 ∧ (∀ j, j < g.length → j ∉ hd a.out → s.2.2.2.2[j]? = g[j]?) ∧ OwnSl 0 s.2.2.2.2 1 s.2.1 s.2.2.2.1.length s.2.2.2.1 ∧ OwnSl g.length s.2.2.2.2 1 s.2.2.1 s.2.2.2.1.length s.2.2.2.1 ∧ (∀ z ∈ hd s.2.1, z ∉ hd s.2.2.1) ∧
          (0 < s.1 → ∀ z ∈ hd s.2.1, g.length ≤ z) ∧ (s.1 = 0 → s.2.1 = a.out) ∧ (∀ z ∈ hd s.2.2.1, g.length ≤ z) ∧ s.2.2.2.1.length = a.co.length + s.1 ∧ ∀ y ∈ s.2.2.2.1, isByte y)
        (0, a.out, m1', a.co, gB) ⟨by simp, kB.1, kB.reads (Nat.le_refl _), fun j hj _ => kB.2 j hj, oa.same fun z hz => kB.2 z (oa.lt z hz), om, fun z hz hz2 => by have := oa.lt z hz; have := mh z hz2; omega, fun h => absurd h (by simp), fun _ => rfl, mh, by simp, r3⟩ rfl (by (repeat first | exact Less.nil | refine Less.undef _ ?_ | refine Less.keep _ ?_)) ?_
      rintro ⟨k, l, m, xs, h⟩ ⟨k1, hgl, hrd, hsm, ol, om, hlm, hl0, hl1, hm0, hxl, hxs⟩
      simp only at k1 hgl hrd hsm ol om hlm hl0 hl1 hm0 hxl hxs ⊢
      by_cases hkk : k < 100
      · have hltk : decide ((k : Int) < 100) = true := by simp; omega
        obtain ⟨x, hx0⟩ : ∃ x, x = mk i 2 := ⟨_, rfl⟩
        have cv := mk_conv i 2
        rw [← hx0] at cv
        have c1 := slice_one (hs := h) (z := .int .u8 0) (x := x) rfl (by rw [hx0]; rfl) (by rw [hx0]; rfl)
        have kk1 : Keeps h.length h (h ++ [some (.cells 1 [x] false false [])]) := Keeps.app (Nat.le_refl _)
        have hl1' : (h ++ [some (HB.cells 1 [x] false false [])]).length = h.length + 1 := by simp
        obtain ⟨h3, o3, d1, d2, d3, d4, d5, d6⟩ := OwnSl.app2 (bytes := 1) (ol.same (hs' := h ++ [some (HB.cells 1 [x] false false [])]) fun z hz => kk1.2 z (ol.lt z hz)) (take_one h x) rfl (by omega) (by omega) (by omega)
        rw [hl1'] at d1 d2 d3 d4 d6
        have om3 : OwnSl g.length h3 1 m xs.length xs := om.same fun z hz => by
          have := om.lt z hz
          rw [d6 z (by omega) (fun e => hlm z e hz)]
          exact kk1.2 z (by omega)
        have c4 := slice_one (hs := h3) (z := .int .u8 0) (x := x) rfl (by rw [hx0]; rfl) (by rw [hx0]; rfl)
        have kk4 : Keeps h3.length h3 (h3 ++ [some (.cells 1 [x] false false [])]) := Keeps.app (Nat.le_refl _)
        have hl4 : (h3 ++ [some (HB.cells 1 [x] false false [])]).length = h.length + 3 := by simp [d2]
        obtain ⟨h6, o6, f1, f2, f3, f4, f5, f6⟩ := OwnSl.app2 (bytes := 1) (om3.same (hs' := h3 ++ [some (HB.cells 1 [x] false false [])]) fun z hz => kk4.2 z (om3.lt z hz)) (take_one h3 x) rfl (by omega) (by omega) (by omega)
        rw [hl4] at f1 f2 f3 f4 f6
        rw [d2] at c4
        rw [d2] at f1
        simp -implicitDefEqProofs (disch := first | omega | decide) only [vwp_skip, vwp_ret, vwp_exit, vwp_lab, vwp_seq, vwp_cond, vwp_block, vwp_scope, vwp_region, vwp_draw, vwp_loop, vwp_range, vcnd_tt, vcnd_ff, vthen_normal, vthen_ret, vthen_exit, vblock_normal, vblock_ret, vblock_exit, vreg_nil, vreg_cons, vhl_nil, vhl_op, vhl_guard, vguard_tt, vguard_ff, vguard_tf, vguard_ft, vguard_no, vact_op, vop_some, vput_some, vput_none, vsame_sm, vunit_sm, vget_nil, vget_cons, vget_some,
    vo_mv, vo_bin, vo_un, vo_ext, vo_len, vo_idxS, vo_idxStr, vo_load, vo_pick, vo_append, vo_bslice, evp, vo_nilc, vo_faddr, vo_store, vo_sliceSl, vo_sliceStr, vo_cInt, vo_copy, vo_mkSlice, vo_box, vo_build, vo_b2s, vb2s_sl, vb2s_nil, vcInt, vnil_ptr, vo_mkMap, vo_mkfn, vo_lookup, vo_mapUpd, vo_del, vdel_some, vo_rangeMap, vo_entry, vfaddr_ptr, beq_self_eq_true, eq_self, decide_true, decide_false, vb_lss, vb_leq, vb_gtr, vb_geq, vb_eql, vb_neq, vb_seql, vb_sneq, vb_beql, vb_bneq, vun_not, vlen_str, vlen_sl, vlen_nil, vext_tup, HX.ev, List.length_cons, List.length_nil, List.append_nil, List.nil_append, List.cons_append, List.set_cons_succ, List.set_cons_zero, List.getElem?_cons_succ, List.getElem?_cons_zero, Option.getD_some, Option.map_some, Option.map_none, List.map_cons, List.map_nil, if_true, Bool.not_true, Bool.not_false, Bool.false_eq_true, if_false, hltk, mul7, add2, cv, c1, d1, c4, f1, vadd1]
        have em := om.lt
        have el := ol.lt
        have hxs' : (xs ++ [x]).length = xs.length + 1 := by simp
        refine ⟨(k + 1, .slice (h.length + 1) 0 (xs.length + 1) none, .slice (h.length + 3) 0 (xs.length + 1) none, xs ++ [x], h6), by simp only; omega, ⟨by simp only; omega, by simp only; omega, ?_, fun j hj hj2 => ?_, ?_, ?_, ?_, ?_, by simp, ?_, by show (xs ++ [x]).length = a.co.length + (k + 1); rw [hxs']; omega, ?_⟩, rfl, by (repeat first | exact Less.nil | refine Less.undef _ ?_ | refine Less.keep _ ?_)⟩
        · exact ((hrd.trans (kk1.reads (Nat.le_refl _))).trans d5).trans ((kk4.reads (Nat.le_refl _)).trans f5)
        · have hjl : j ∉ hd l := fun e => by
            rcases Nat.eq_zero_or_pos k with hk0 | hk0
            · rw [hl1 hk0] at e; exact hj2 e
            · have := hl0 hk0 j e; omega
          have hjm : j ∉ hd m := fun e => by have := hm0 j e; omega
          rw [f6 j (by omega) hjm, kk4.2 j (by omega), d6 j (by omega) hjl, kk1.2 j (by omega)]
          exact hsm j hj hj2
        · simp only [hxs']
          refine ⟨by simp, .inr (.inr ⟨h.length + 1, o3, rfl, by omega, ?_, fun o ho => ⟨by omega, (d4 o ho).2⟩⟩)⟩
          rw [f6 _ (by omega) (fun e => by have := em _ e; omega), kk4.2 _ (by omega)]
          exact d3
        · simp only [hxs']
          exact ⟨by simp, .inr (.inr ⟨h.length + 3, o6, rfl, by omega, f3, f4⟩)⟩
        · intro z hz hz2
          simp [hd] at hz hz2
          omega
        · intro _ z hz
          simp [hd] at hz
          omega
        · intro z hz
          simp [hd] at hz
          omega
        · intro y hy
          rcases List.mem_append.1 hy with h | h
          · exact hxs y h
          · simp at h; rw [h, hx0]; exact mk_byte _ _
      · obtain rfl : k = 100 := by omega
        have hltk : decide (((100 : Nat) : Int) < 100) = false := by decide
        have tl : (h.take g.length).length = g.length := by simp; omega
        have Bt := BG.after ha (hrd.cut (n := g.length) (Nat.le_refl _)) (fun j hj hj2 => by rw [List.getElem?_take_of_lt hj]; exact hsm j hj hj2)
        have kt : Keeps (h.take g.length).length (h.take g.length) h := ⟨by rw [tl]; exact hgl, fun j hj => by rw [List.getElem?_take_of_lt (by omega)]⟩
        have Bt' := Bt.less (lo' := i + 1) (hi' := C.length) (by omega) (Nat.le_refl _)
        obtain ⟨vo', a4, vw', a7, e1, e2, e3, e4, e5, e6, o1, o2, o3, o4, e7, e8, e9, e10, e11, e12⟩ := Bt'.push (by omega) kt ol.sl om.sl hxs hxs (fun z hz => by have := hl0 (by omega) z hz; omega) (fun z hz => by have := hm0 z hz; omega) hlm (by omega) C.length (fun _ => Nat.le_refl _) (fun _ h => by omega) (by omega) (fun h => by omega)
        obtain ⟨i1, i2⟩ := ol.sl.isOne
        obtain ⟨j1, j2⟩ := om.sl.isOne
        have b1 := slice_one (hs := h) (z := .nilSlice) rfl i2 i1
        have b2 := slice_one (hs := (a4.set hB (some (.cells 1 (vo' :: vw :: rest) false false [])))) (z := .nilSlice) rfl j2 j1
        rw [List.length_set] at b2
        simp -implicitDefEqProofs (disch := first | omega | decide) only [vwp_skip, vwp_ret, vwp_exit, vwp_lab, vwp_seq, vwp_cond, vwp_block, vwp_scope, vwp_region, vwp_draw, vwp_loop, vwp_range, vcnd_tt, vcnd_ff, vthen_normal, vthen_ret, vthen_exit, vblock_normal, vblock_ret, vblock_exit, vreg_nil, vreg_cons, vhl_nil, vhl_op, vhl_guard, vguard_tt, vguard_ff, vguard_tf, vguard_ft, vguard_no, vact_op, vop_some, vput_some, vput_none, vsame_sm, vunit_sm, vget_nil, vget_cons, vget_some,
    vo_mv, vo_bin, vo_un, vo_ext, vo_len, vo_idxS, vo_idxStr, vo_load, vo_pick, vo_append, vo_bslice, evp, vo_nilc, vo_faddr, vo_store, vo_sliceSl, vo_sliceStr, vo_cInt, vo_copy, vo_mkSlice, vo_box, vo_build, vo_b2s, vb2s_sl, vb2s_nil, vcInt, vnil_ptr, vo_mkMap, vo_mkfn, vo_lookup, vo_mapUpd, vo_del, vdel_some, vo_rangeMap, vo_entry, vfaddr_ptr, beq_self_eq_true, eq_self, decide_true, decide_false, vb_lss, vb_leq, vb_gtr, vb_geq, vb_eql, vb_neq, vb_seql, vb_sneq, vb_beql, vb_bneq, vun_not, vlen_str, vlen_sl, vlen_nil, vext_tup, HX.ev, List.length_cons, List.length_nil, List.append_nil, List.nil_append, List.cons_append, List.set_cons_succ, List.set_cons_zero, List.getElem?_cons_succ, List.getElem?_cons_zero, Option.getD_some, Option.map_some, Option.map_none, List.map_cons, List.map_nil, if_true, Bool.not_true, Bool.not_false, Bool.false_eq_true, if_false, hltk, e1, b1, e2, e3, e4, b2, e5, e6, vadd1]
        refine ⟨(i + 1, G ++ [⟨l, m, xs, xs⟩], _, vo', vw'), by simp only; omega, ⟨by simp only; omega, by simp only [List.length_append, List.length_cons, List.length_nil]; omega, ?_, ?_, ?_, fun j x hj hjx => ?_⟩, rfl, by (repeat first | exact Less.nil | refine Less.undef _ ?_ | refine Less.keep _ ?_)⟩
        · intro y hy
          rw [← List.append_assoc] at hy
          rcases List.mem_append.1 hy with h | h
          · exact hfG y h
          · simp at h; subst h
            exact ⟨rfl, by simp only; omega⟩
        · exact e7.1
        · rw [← List.append_assoc]; exact e8
        · -- the rows behind it are as they were
          have hne : ∀ z ∈ hd x.out, z < g.length ∧ z ∉ hd a.out ∧ z ≠ hB ∧ z ∉ hd vo ∧ z ∉ hd vw := fun z hz => by
            obtain ⟨T, t0, t1, t2, t3⟩ := BG.sep
            have hjx' : (D ++ G)[j]? = some x := by rw [List.getElem?_append_left (lt_of_get hjx)]; exact hjx
            have tx := (t3 j x hjx').1 z hz
            have ta := (t3 i a ha).1
            refine ⟨(BG.lens.2.2.2 x (List.mem_of_getElem? hjx')).1 z hz, fun e => by have := ta z e; omega, fun e => by rw [e, t0] at tx; omega, fun e => by rw [t1 z e] at tx; omega, fun e => by rw [t2 z e] at tx; omega⟩
          rcases hFG j x (by omega) hjx with hq | ⟨z, hq⟩ | ⟨z, hq, cs, ro, olds, hq2⟩
          · exact .inl hq
          · exact .inr (.inl ⟨z, hq⟩)
          · obtain ⟨y1, y2, y3, y4, y5⟩ := hne z (by rw [hq]; simp [hd])
            refine .inr (.inr ⟨z, hq, cs, ro, olds, ?_⟩)
            rw [e10 z (by omega) y3 y4 y5, hsm z y1 y2]
            exact hq2
    · obtain rfl : i = C.length := by omega
      have hlt : decide (((C.length : Nat) : Int) < (C.length : Nat)) = false := by simp
      simp -implicitDefEqProofs (disch := first | omega | decide) only [vwp_skip, vwp_ret, vwp_exit, vwp_lab, vwp_seq, vwp_cond, vwp_block, vwp_scope, vwp_region, vwp_draw, vwp_loop, vwp_range, vcnd_tt, vcnd_ff, vthen_normal, vthen_ret, vthen_exit, vblock_normal, vblock_ret, vblock_exit, vreg_nil, vreg_cons, vhl_nil, vhl_op, vhl_guard, vguard_tt, vguard_ff, vguard_tf, vguard_ft, vguard_no, vact_op, vop_some, vput_some, vput_none, vsame_sm, vunit_sm, vget_nil, vget_cons, vget_some,
    vo_mv, vo_bin, vo_un, vo_ext, vo_len, vo_idxS, vo_idxStr, vo_load, vo_pick, vo_append, vo_bslice, evp, vo_nilc, vo_faddr, vo_store, vo_sliceSl, vo_sliceStr, vo_cInt, vo_copy, vo_mkSlice, vo_box, vo_build, vo_b2s, vb2s_sl, vb2s_nil, vcInt, vnil_ptr, vo_mkMap, vo_mkfn, vo_lookup, vo_mapUpd, vo_del, vdel_some, vo_rangeMap, vo_entry, vfaddr_ptr, beq_self_eq_true, eq_self, decide_true, decide_false, vb_lss, vb_leq, vb_gtr, vb_geq, vb_eql, vb_neq, vb_seql, vb_sneq, vb_beql, vb_bneq, vun_not, vlen_str, vlen_sl, vlen_nil, vext_tup, HX.ev, List.length_cons, List.length_nil, List.append_nil, List.nil_append, List.cons_append, List.set_cons_succ, List.set_cons_zero, List.getElem?_cons_succ, List.getElem?_cons_zero, Option.getD_some, Option.map_some, Option.map_none, List.map_cons, List.map_nil, if_true, Bool.not_true, Bool.not_false, Bool.false_eq_true, if_false, hlt]
      refine vcall_of ok16 rfl (holds g BG hfG (by omega) (by omega)) ?_
      rintro _ g ⟨rfl, rfl⟩
      simp -implicitDefEqProofs (disch := first | omega | decide) only [vwp_skip, vwp_ret, vwp_exit, vwp_lab, vwp_seq, vwp_cond, vwp_block, vwp_scope, vwp_region, vwp_draw, vwp_loop, vwp_range, vcnd_tt, vcnd_ff, vthen_normal, vthen_ret, vthen_exit, vblock_normal, vblock_ret, vblock_exit, vreg_nil, vreg_cons, vhl_nil, vhl_op, vhl_guard, vguard_tt, vguard_ff, vguard_tf, vguard_ft, vguard_no, vact_op, vop_some, vput_some, vput_none, vsame_sm, vunit_sm, vget_nil, vget_cons, vget_some,
    vo_mv, vo_bin, vo_un, vo_ext, vo_len, vo_idxS, vo_idxStr, vo_load, vo_pick, vo_append, vo_bslice, evp, vo_nilc, vo_faddr, vo_store, vo_sliceSl, vo_sliceStr, vo_cInt, vo_copy, vo_mkSlice, vo_box, vo_build, vo_b2s, vb2s_sl, vb2s_nil, vcInt, vnil_ptr, vo_mkMap, vo_mkfn, vo_lookup, vo_mapUpd, vo_del, vdel_some, vo_rangeMap, vo_entry, vfaddr_ptr, beq_self_eq_true, eq_self, decide_true, decide_false, vb_lss, vb_leq, vb_gtr, vb_geq, vb_eql, vb_neq, vb_seql, vb_sneq, vb_beql, vb_bneq, vun_not, vlen_str, vlen_sl, vlen_nil, vext_tup, HX.ev, List.length_cons, List.length_nil, List.append_nil, List.nil_append, List.cons_append, List.set_cons_succ, List.set_cons_zero, List.getElem?_cons_succ, List.getElem?_cons_zero, Option.getD_some, Option.map_some, Option.map_none, List.map_cons, List.map_nil, if_true, Bool.not_true, Bool.not_false, Bool.false_eq_true, if_false, vadd1]
      exact ⟨rfl, _, rfl, rfl⟩
end H
end Go.Proofs.YthihchoccpnfeaaDoor
