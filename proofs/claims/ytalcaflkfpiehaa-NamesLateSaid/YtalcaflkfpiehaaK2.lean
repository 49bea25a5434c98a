/-
  The law NamesLate: the range.
-/
import Derived.Test.YtalcaflkfpiehaaK
namespace Go.Proofs.Ytalcaflkfpiehaa
open Go Go.HL V P2
namespace R
open B (NM cnt putN cutN keys sum BookIs)
set_option maxRecDepth 100000
set_option maxHeartbeats 4000000
set_option linter.unusedSimpArgs false
theorem RowsAt.near {hs hs' : HS} {v : HV} {m : NM} (h : RowsAt hs v m) {n : Nat} {cs : List HV} (hn : hs[n]? = some (some (.cells 1 cs false false []))) (hs2 : ∀ i, i < hs.length → i ≠ n → hs'[i]? = hs[i]?) : RowsAt hs' v m := by
  rcases h with h | ⟨h, cap, ro, opn, olds, rfl, hb⟩
  · exact .inl h
  · refine .inr ⟨h, cap, ro, opn, olds, rfl, ?_⟩
    rw [hs2 h (lt_of_get hb) fun e => ?_]
    · exact hb
    · subst e; rw [hn] at hb; simp at hb

theorem late_range {g7 : HS} {hR hW hN hC hB : Nat} {m1 m2 : NM} {want : HV} (Bk : BookIs 0 g7 hB m1) (A : Alike m1 m2) (hm : m1.length < 8796093022208) (gC : g7[hC]? = some (some (.cells 1 [.ptr hB 0] false false [])))
    (gN : g7[hN]? = some (some (.cells 1 [.int .i64 0] false false []))) (gW : g7[hW]? = some (some (.cells 1 [want] false false []))) (hw1 : want.one = true ∧ want.cells = [want]) (hWN : hW ≠ hN) (hRw : RowsAt g7 want m2) {Q : HExit → List HV → HS → Prop}
    (hQ : ∀ gz, (∀ i, i < g7.length → i ≠ hN → gz[i]? = g7[i]?) → gz[hN]? = some (some (.cells 1 [.int .i64 (m2.length : Nat)] false false [])) → Q .normal (.undef :: .undef :: .undef :: .undef :: .ptr hR 0 :: .undef :: .undef :: .undef :: .undef :: .ptr hW 0 :: .ptr hN 0 :: .undef :: .undef :: .undef :: .undef :: .undef :: .undef :: .undef :: .undef :: .undef :: .undef :: .undef :: .undef :: .undef :: .undef :: .undef :: .undef :: .undef :: .undef :: .undef :: .undef :: .undef :: .undef :: .undef :: .undef :: .undef :: .undef :: .undef :: .undef :: .undef :: .undef :: .undef :: .undef :: .undef :: .undef :: .undef :: .undef :: .undef :: .undef :: .undef :: .undef :: .undef :: .undef :: .undef :: .undef :: .undef :: .undef :: .undef :: .undef :: .undef :: .undef :: .undef :: .undef :: .undef :: .undef :: .undef :: .undef :: .undef :: .undef :: .undef :: .undef :: .func (.func 39) [] [.ptr hC 0] :: .undef :: .undef :: .undef :: .undef :: .undef :: .undef :: .undef :: .undef :: .undef :: .undef :: .undef :: .undef :: .undef :: .undef :: .undef :: .undef :: .undef :: .undef :: .undef :: .undef :: .undef :: .undef :: .undef :: .undef :: .undef :: .undef :: .undef :: .undef :: .undef :: .undef :: []) gz) :
    HWr Try.prog none (.rangeFunc (.tmp 71) [72, 73] (rfA Try.f7 0) (rfB Try.f7 0)) (.undef :: .undef :: .undef :: .undef :: .ptr hR 0 :: .undef :: .undef :: .undef :: .undef :: .ptr hW 0 :: .ptr hN 0 :: .undef :: .undef :: .undef :: .undef :: .undef :: .undef :: .undef :: .undef :: .undef :: .undef :: .undef :: .undef :: .undef :: .undef :: .undef :: .undef :: .undef :: .undef :: .undef :: .undef :: .undef :: .undef :: .undef :: .undef :: .undef :: .undef :: .undef :: .undef :: .undef :: .undef :: .undef :: .undef :: .undef :: .undef :: .undef :: .undef :: .undef :: .undef :: .undef :: .undef :: .undef :: .undef :: .undef :: .undef :: .undef :: .undef :: .undef :: .undef :: .undef :: .undef :: .undef :: .undef :: .undef :: .undef :: .undef :: .undef :: .undef :: .undef :: .undef :: .undef :: .func (.func 39) [] [.ptr hC 0] :: .undef :: .undef :: .undef :: .undef :: .undef :: .undef :: .undef :: .undef :: .undef :: .undef :: .undef :: .undef :: .undef :: .undef :: .undef :: .undef :: .undef :: .undef :: .undef :: .undef :: .undef :: .undef :: .undef :: .undef :: .undef :: .undef :: .undef :: .undef :: .undef :: .undef :: []) g7 Q := by
  have hml : m1.length = m2.length := A.1.length_eq
  have hNl := lt_of_get gN
  have hWl := lt_of_get gW
  refine HW.rangeFunc (gf := 39) (first := []) (cap := [.ptr hC 0]) rfl ok39 ?_
  obtain ⟨F, eF⟩ : ∃ F : List HV, F = (.undef :: .undef :: .undef :: .undef :: .ptr hR 0 :: .undef :: .undef :: .undef :: .undef :: .ptr hW 0 :: .ptr hN 0 :: .undef :: .undef :: .undef :: .undef :: .undef :: .undef :: .undef :: .undef :: .undef :: .undef :: .undef :: .undef :: .undef :: .undef :: .undef :: .undef :: .undef :: .undef :: .undef :: .undef :: .undef :: .undef :: .undef :: .undef :: .undef :: .undef :: .undef :: .undef :: .undef :: .undef :: .undef :: .undef :: .undef :: .undef :: .undef :: .undef :: .undef :: .undef :: .undef :: .undef :: .undef :: .undef :: .undef :: .undef :: .undef :: .undef :: .undef :: .undef :: .undef :: .undef :: .undef :: .undef :: .undef :: .undef :: .undef :: .undef :: .undef :: .undef :: .undef :: .undef :: .func (.func 39) [] [.ptr hC 0] :: .undef :: .undef :: .undef :: .undef :: .undef :: .undef :: .undef :: .undef :: .undef :: .undef :: .undef :: .undef :: .undef :: .undef :: .undef :: .undef :: .undef :: .undef :: .undef :: .undef :: .undef :: .undef :: .undef :: .undef :: .undef :: .undef :: .undef :: .undef :: .undef :: .undef :: []) := ⟨_, rfl⟩
  obtain ⟨ca, eca⟩ : ∃ ca, ca = rfA Try.f7 0 := ⟨_, rfl⟩
  obtain ⟨cb, ecb⟩ : ∃ cb, cb = rfB Try.f7 0 := ⟨_, rfl⟩
  rw [← eF, ← eca, ← ecb]
  have hca : cCode Try.prog [] ca = some h7a0 := by rw [eca]; exact c7a0
  have hcb : cCode Try.prog [] cb = some h7b0 := by rw [ecb]; exact c7b0
  rw [← eF] at hQ
  refine (all39 (hY := g7.length) (hB := hB) (hC := hC) (Bk.keep (Nat.le_refl _) (Keeps.app (Nat.le_refl _))) A hm (by rw [List.getElem?_append_left (lt_of_get gC)]; exact gC)
    (fun j g => g[g7.length]? = some (some (.loop .ready none F [72, 73] ca cb)) ∧ g[hN]? = some (some (.cells 1 [.int .i64 (j : Nat)] false false [])) ∧ ∀ i, i < g7.length → i ≠ hN → g[i]? = g7[i]?) (fun _ => False) ?_ ?_).mono ?_
  · intro g k
    have hl : (g7 ++ [some (HB.loop .ready none F [72, 73] ca cb)]).length = g7.length + 1 := by simp
    rw [hl] at k
    exact ⟨k.get (by omega) (by simp), k.get (by omega) (by rw [List.getElem?_append_left hNl]; exact gN), fun i hi _ => by rw [k.2 i (by omega), List.getElem?_append_left hi]⟩
  · rintro j ⟨k, c⟩ g hp ⟨i1, i2, i3⟩ hgl
    have hjl := lt_of_get hp
    simp only [List.length_append, List.length_cons, List.length_nil] at hgl
    refine HYld.of i1 rfl hca hcb (hwp_sound mixed ?_)
    have hsa : setAll [72, 73] [.str k, .int .i64 (c : Nat)] F = (.undef :: .undef :: .undef :: .undef :: .ptr hR 0 :: .undef :: .undef :: .undef :: .undef :: .ptr hW 0 :: .ptr hN 0 :: .undef :: .undef :: .undef :: .undef :: .undef :: .undef :: .undef :: .undef :: .undef :: .undef :: .undef :: .undef :: .undef :: .undef :: .undef :: .undef :: .undef :: .undef :: .undef :: .undef :: .undef :: .undef :: .undef :: .undef :: .undef :: .undef :: .undef :: .undef :: .undef :: .undef :: .undef :: .undef :: .undef :: .undef :: .undef :: .undef :: .undef :: .undef :: .undef :: .undef :: .undef :: .undef :: .undef :: .undef :: .undef :: .undef :: .undef :: .undef :: .undef :: .undef :: .undef :: .undef :: .undef :: .undef :: .undef :: .undef :: .undef :: .undef :: .undef :: .undef :: .func (.func 39) [] [.ptr hC 0] :: .str k :: .int .i64 (c : Nat) :: .undef :: .undef :: .undef :: .undef :: .undef :: .undef :: .undef :: .undef :: .undef :: .undef :: .undef :: .undef :: .undef :: .undef :: .undef :: .undef :: .undef :: .undef :: .undef :: .undef :: .undef :: .undef :: .undef :: .undef :: .undef :: .undef :: .undef :: .undef :: []) := by rw [eF]; rfl
    rw [hsa]
    simp -implicitDefEqProofs (disch := first | omega | decide) only [vwp_skip, vwp_ret, vwp_exit, vwp_lab, vwp_seq, vwp_cond, vwp_block, vwp_scope, vwp_region, vwp_draw, vwp_loop, vwp_range, vcnd_tt, vcnd_ff, vthen_normal, vthen_ret, vthen_exit, vblock_normal, vblock_ret, vblock_exit, vreg_nil, vreg_cons, vhl_nil, vhl_op, vhl_guard, vguard_tt, vguard_ff, vguard_tf, vguard_ft, vguard_no, vact_op, vop_some, vput_some, vput_none, vsame_sm, vunit_sm, vget_nil, vget_cons, vget_some,
    vo_mv, vo_bin, vo_un, vo_ext, vo_len, vo_idxS, vo_idxStr, vo_load, vo_pick, vo_append, vo_bslice, evp, vo_nilc, vo_faddr, vo_store, vo_sliceSl, vo_sliceStr, vo_cInt, vo_copy, vo_mkSlice, vo_box, vo_build, vo_b2s, vb2s_sl, vb2s_nil, vcInt, vnil_ptr, vo_mkMap, vo_mkfn, vo_lookup, vo_mapUpd, vo_del, vdel_some, vo_rangeMap, vo_entry, vfaddr_ptr, beq_self_eq_true, eq_self, decide_true, decide_false, vb_lss, vb_leq, vb_gtr, vb_geq, vb_eql, vb_neq, vb_seql, vb_sneq, vb_beql, vb_bneq, vun_not, vlen_str, vlen_sl, vlen_nil, vext_tup, HX.ev, List.length_cons, List.length_nil, List.append_nil, List.nil_append, List.cons_append, List.set_cons_succ, List.set_cons_zero, List.getElem?_cons_succ, List.getElem?_cons_zero, Option.getD_some, Option.map_some, Option.map_none, List.map_cons, List.map_nil, if_true, Bool.not_true, Bool.not_false, Bool.false_eq_true, if_false, h7a0]
    refine ⟨trivial, _, _, _, _, i1, hwp_sound mixed ?_⟩
    obtain ⟨g2, e2⟩ : ∃ g2, g2 = g.set g7.length (some (.loop .busy none F [72, 73] ca cb)) := ⟨_, rfl⟩
    rw [← e2]
    have q2 : ∀ i, i ≠ g7.length → g2[i]? = g[i]? := fun i hi => by rw [e2, List.getElem?_set, if_neg (fun e => hi e.symm)]
    have l2 : g2.length = g.length := by rw [e2]; simp
    have hL2 : g2[g7.length]? = some (some (.loop .busy none F [72, 73] ca cb)) := by rw [e2, List.getElem?_set]; simp; omega
    have hN2 : g2[hN]? = some (some (.cells 1 [.int .i64 (j : Nat)] false false [])) := by rw [q2 _ (by omega)]; exact i2
    have hW2 : g2[hW]? = some (some (.cells 1 [want] false false [])) := by rw [q2 _ (by omega), i3 _ hWl hWN]; exact gW
    have hR2 : RowsAt g2 want m2 := hRw.near gN fun i hi hne => by rw [q2 _ (by omega), i3 _ hi hne]
    have lN : hload none g2 (.ptr hN 0) = some (.int .i64 (j : Nat)) := by simp only [hload, hN2]; rfl
    have lW : hload none g2 (.ptr hW 0) = some want := by simp only [hload, hW2]; rfl
    have hlen := hR2.len
    obtain ⟨b, x1, x2, x3, x4⟩ := hR2.idx hp
    have hge : decide (((m2.length : Nat) : Int) ≤ (j : Nat)) = false := by simp; omega
    have hst := store_at (k := 0) (x := .int .i64 ((j + 1 : Nat) : Int)) hN2 (by simp) rfl rfl
    simp only [List.set_cons_zero] at hst
    simp -implicitDefEqProofs (disch := first | omega | decide) only [vwp_skip, vwp_ret, vwp_exit, vwp_lab, vwp_seq, vwp_cond, vwp_block, vwp_scope, vwp_region, vwp_draw, vwp_loop, vwp_range, vcnd_tt, vcnd_ff, vthen_normal, vthen_ret, vthen_exit, vblock_normal, vblock_ret, vblock_exit, vreg_nil, vreg_cons, vhl_nil, vhl_op, vhl_guard, vguard_tt, vguard_ff, vguard_tf, vguard_ft, vguard_no, vact_op, vop_some, vput_some, vput_none, vsame_sm, vunit_sm, vget_nil, vget_cons, vget_some,
    vo_mv, vo_bin, vo_un, vo_ext, vo_len, vo_idxS, vo_idxStr, vo_load, vo_pick, vo_append, vo_bslice, evp, vo_nilc, vo_faddr, vo_store, vo_sliceSl, vo_sliceStr, vo_cInt, vo_copy, vo_mkSlice, vo_box, vo_build, vo_b2s, vb2s_sl, vb2s_nil, vcInt, vnil_ptr, vo_mkMap, vo_mkfn, vo_lookup, vo_mapUpd, vo_del, vdel_some, vo_rangeMap, vo_entry, vfaddr_ptr, beq_self_eq_true, eq_self, decide_true, decide_false, vb_lss, vb_leq, vb_gtr, vb_geq, vb_eql, vb_neq, vb_seql, vb_sneq, vb_beql, vb_bneq, vun_not, vlen_str, vlen_sl, vlen_nil, vext_tup, HX.ev, List.length_cons, List.length_nil, List.append_nil, List.nil_append, List.cons_append, List.set_cons_succ, List.set_cons_zero, List.getElem?_cons_succ, List.getElem?_cons_zero, Option.getD_some, Option.map_some, Option.map_none, List.map_cons, List.map_nil, if_true, Bool.not_true, Bool.not_false, Bool.false_eq_true, if_false, h7b0, lN, lW, hlen, hge, x1, x2, x3, x4, vadd1, hst, Nat.add_zero]
    obtain ⟨g3, e3⟩ : ∃ g3, g3 = g2.set hN (some (.cells 1 [.int .i64 ((j + 1 : Nat) : Int)] false false [])) := ⟨_, rfl⟩
    have q3 : ∀ i, i ≠ hN → g3[i]? = g2[i]? := fun i hi => by rw [e3, List.getElem?_set, if_neg (fun e => hi e.symm)]
    have l3 : g3.length = g2.length := by rw [e3]; simp
    rw [← e3]
    refine ⟨_, _, _, _, by rw [q3 _ (by omega)]; exact hL2, by simp; omega, fun i h1 h2 => ?_, .inl ⟨rfl, ?_, ?_, fun i hi hne => ?_⟩⟩
    · simp only [List.length_append, List.length_cons, List.length_nil] at h1
      rw [List.getElem?_set, if_neg (by omega), q3 _ (by omega), q2 _ (by omega)]
    · rw [List.getElem?_set]; simp [afterE]; omega
    · rw [List.getElem?_set, if_neg (by omega), e3, List.getElem?_set]; simp; omega
    · rw [List.getElem?_set, if_neg (by omega), q3 _ hne, q2 _ (by omega), i3 _ hi hne]
  · rintro _ g (⟨i1, i2, i3⟩ | h)
    · refine ⟨_, _, _, _, _, _, i1, by simp, ?_⟩
      refine hQ _ (fun i hi hne => ?_) ?_
      · rw [List.getElem?_set, if_neg (by omega)]; exact i3 i hi hne
      · rw [List.getElem?_set, if_neg (by omega)]; exact i2
    · exact h.elim
end R
end Go.Proofs.Ytalcaflkfpiehaa
