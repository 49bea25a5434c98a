/-
  A book of names: New, Names.
-/
import Derived.Test.YtalcaflkfpiehaaB
import Derived.Test.YtalcaflkfpiehaaP
import Derived.Test.YtalcaflkfpiehaaHLBook
namespace Go.Proofs.Ytalcaflkfpiehaa
open Go Go.HL V
namespace B
set_option maxRecDepth 100000
set_option maxHeartbeats 4000000
set_option linter.unusedSimpArgs false

variable {n : Nat} {hs : HS} {hB : Nat} {m : NM}

theorem new11 (hn : n ≤ hs.length) : HC Try.prog 11 [] hs fun v hs' => v = .ptr (hs.length + 1) 0 ∧ BookIs n hs' (hs.length + 1) [] ∧ Keeps n hs hs' ∧ hs'.length = hs.length + 2 := by
  refine HC.wp mixed Try.func11 c11 ?_
  have h1 : hmakeMap hs = some (.map hs.length, hs ++ [some (.map [] 0)]) := rfl
  have h2 : hbuild [.nilMap] [(0, 1, .map hs.length)] = some (.agg [.map hs.length]) := rfl
  have h3 : hbox (hs ++ [some (.map [] 0)]) (.agg [.map hs.length]) = some (.ptr (hs.length + 1) 0, hs ++ [some (.map [] 0)] ++ [some (.cells 1 [.map hs.length] false false [])]) := by
    have : (hs ++ [some (HB.map [] 0)]).length = hs.length + 1 := by simp
    rw [← this]; rfl
  simp -implicitDefEqProofs (disch := first | omega | decide) only [vwp_skip, vwp_ret, vwp_exit, vwp_lab, vwp_seq, vwp_cond, vwp_block, vwp_scope, vwp_region, vwp_draw, vwp_loop, vcnd_tt, vcnd_ff, vthen_normal, vthen_ret, vthen_exit, vblock_normal, vblock_ret, vblock_exit, vreg_nil, vreg_cons, vhl_nil, vhl_op, vhl_guard, vguard_tt, vguard_ff, vguard_tf, vguard_ft, vguard_no, vact_op, vop_some, vput_some, vput_none, vsame_sm, vunit_sm, vget_nil, vget_cons, vget_some,
    vo_mv, vo_bin, vo_un, vo_ext, vo_len, vo_idxS, vo_idxStr, vo_load, vo_pick, vo_append, vo_bslice, evp, vo_nilc, vo_faddr, vo_store, vo_sliceSl, vo_sliceStr, vo_cInt, vo_copy, vo_mkSlice, vo_box, vo_build, vo_b2s, vb2s_sl, vb2s_nil, vcInt, vnil_ptr, vo_mkMap, vo_mkfn, vo_lookup, vo_mapUpd, vo_del, vdel_some, vo_rangeMap, vo_entry, vfaddr_ptr, beq_self_eq_true, eq_self, decide_true, decide_false, vb_lss, vb_leq, vb_gtr, vb_geq, vb_eql, vb_neq, vb_seql, vb_sneq, vb_beql, vb_bneq, vun_not, vlen_str, vlen_sl, vlen_nil, vext_tup, HX.ev, List.length_cons, List.length_nil, List.append_nil, List.nil_append, List.cons_append, List.set_cons_succ, List.set_cons_zero, List.getElem?_cons_succ, List.getElem?_cons_zero, Option.getD_some, Option.map_some, Option.map_none, List.map_cons, List.map_nil, if_true, Bool.not_true, Bool.not_false, Bool.false_eq_true, if_false, h11, h1, h2, h3, frame0, List.replicate, Nat.sub]
  refine ⟨rfl, _, rfl, rfl, ⟨hs.length, by rw [List.getElem?_append_right (by simp)]; simp, ?_, by omega, hn, by omega⟩, (Keeps.app hn).trans (Keeps.app (by simp; omega)), by simp⟩
  exact (MapIs.new HV.str hs).same (List.getElem?_append_left (by simp))

def keys (m : NM) : List (List UInt8) := m.map Prod.fst
def unS : HV → List UInt8
  | .str s => s
  | _ => []
def encS : List UInt8 → Value := fun l => Value.string ⟨l.toArray⟩

theorem sort28 {hs : HS} {h : Nat} {cap : Option Nat} {olds : List Nat} {opn : Bool} {zs : List (List UInt8)} (hz : 0 < zs.length) (hb : hs[h]? = some (some (.cells 1 (zs.map HV.str) false opn olds))) (hl : zs.length < 4611686018427387904) :
    HC Try.prog 28 [.slice h 0 zs.length cap] hs fun _ hs' => hs' = (killAll olds hs).set h (some (.cells 1 ((sorted zs).map HV.str) false opn [])) := by
  have hf : Try.lays190_ren.f 190 = 28 := by kernel_rfl
  refine sort_hc (enc := encS) (fun β a u => by simp only [Rel]; rfl) (fun _ => rfl) (fun l => by unfold sorted; exact List.length_mergeSort l) (fun blk off cap ss w h1 h2 h3 => ?_) hz hb hl
  have := Any.slices_Sort_string Try.lays190 blk off cap ss w h1 h2 h3
  rw [hf] at this
  exact this
theorem sort28_nil (hs : HS) : HC Try.prog 28 [.nilSlice] hs fun _ hs' => hs' = hs := by
  have hf : Try.lays190_ren.f 190 = 28 := by kernel_rfl
  refine sort_nil (fun p cap w => ?_) hs
  have := Any.slices_Sort_string_none Try.lays190 p cap w
  rw [hf] at this
  exact this

/-- a list of texts that is new. -/
def Fresh (n : Nat) (hs : HS) (v : HV) (xs : List HV) : Prop := (v = .nilSlice ∧ xs = []) ∨ ∃ h, v = .slice h 0 xs.length none ∧ n ≤ h ∧ hs[h]? = some (some (.cells 1 xs false true []))
theorem Fresh.sl {n : Nat} {hs : HS} {v : HV} {xs : List HV} (h : Fresh n hs v xs) : SlAt hs v xs := by
  rcases h with ⟨rfl, rfl⟩ | ⟨h, rfl, _, hb⟩
  · exact .inl ⟨rfl, rfl⟩
  · exact .inr ⟨h, 0, none, xs, false, true, [], rfl, hb, fun i x hx => by rw [Nat.zero_add]; exact hx⟩

theorem names15N (B : BookIs n hs hB m) (hn : n ≤ hs.length) (hm : m.length < 8796093022208) :
    HC Try.prog 15 [.ptr hB 0] hs fun v hs' => (∃ ks : List (List UInt8), ks.Perm (keys m) ∧ Fresh hs.length hs' v ((sorted ks).map HV.str)) ∧ BookIs n hs' hB m ∧ Keeps hs.length hs hs' := by
  obtain ⟨hp, l0, M, hmn, hmB⟩ := B.load
  have hmx : maxLen = 9223372036854775807 := rfl
  obtain ⟨g0, hr, G0, k0, hl0⟩ := M.range
  have hvl : (vals m).length = m.length := by simp [vals]
  refine HC.wp mixed Try.func15 c15 ?_
  simp -implicitDefEqProofs (disch := first | omega | decide) only [vwp_skip, vwp_ret, vwp_exit, vwp_lab, vwp_seq, vwp_cond, vwp_block, vwp_scope, vwp_region, vwp_draw, vwp_loop, vcnd_tt, vcnd_ff, vthen_normal, vthen_ret, vthen_exit, vblock_normal, vblock_ret, vblock_exit, vreg_nil, vreg_cons, vhl_nil, vhl_op, vhl_guard, vguard_tt, vguard_ff, vguard_tf, vguard_ft, vguard_no, vact_op, vop_some, vput_some, vput_none, vsame_sm, vunit_sm, vget_nil, vget_cons, vget_some,
    vo_mv, vo_bin, vo_un, vo_ext, vo_len, vo_idxS, vo_idxStr, vo_load, vo_pick, vo_append, vo_bslice, evp, vo_nilc, vo_faddr, vo_store, vo_sliceSl, vo_sliceStr, vo_cInt, vo_copy, vo_mkSlice, vo_box, vo_build, vo_b2s, vb2s_sl, vb2s_nil, vcInt, vnil_ptr, vo_mkMap, vo_mkfn, vo_lookup, vo_mapUpd, vo_del, vdel_some, vo_rangeMap, vo_entry, vfaddr_ptr, beq_self_eq_true, eq_self, decide_true, decide_false, vb_lss, vb_leq, vb_gtr, vb_geq, vb_eql, vb_neq, vb_seql, vb_sneq, vb_beql, vb_bneq, vun_not, vlen_str, vlen_sl, vlen_nil, vext_tup, HX.ev, List.length_cons, List.length_nil, List.append_nil, List.nil_append, List.cons_append, List.set_cons_succ, List.set_cons_zero, List.getElem?_cons_succ, List.getElem?_cons_zero, Option.getD_some, Option.map_some, Option.map_none, List.map_cons, List.map_nil, if_true, Bool.not_true, Bool.not_false, Bool.false_eq_true, if_false, h15, l0, hr, frame0, List.replicate, Nat.sub]
  refine HW.loopS (σ := HV × List (List UInt8 × HV) × HS) mixed (fun s => (.ptr hB 0 :: .undef :: .nilSlice :: s.1 :: .undef :: .undef :: .undef :: .undef :: .undef :: .ptr hs.length 0 :: .undef :: .undef :: .undef :: .undef :: .undef :: .undef :: .undef :: .undef :: .undef :: .undef :: .undef :: [])) (fun s => s.2.2) (fun s => m.length - s.2.1.length)
    (fun s => Going HV.str s.2.2 hs.length hp (vals m) s.2.1 ∧ OwnSl (hs.length + 1) s.2.2 1 s.1 s.2.1.length ((s.2.1.map Prod.fst).map HV.str) ∧ Keeps hs.length hs s.2.2 ∧ hs.length + 1 ≤ s.2.2.length ∧ s.2.1.length ≤ m.length ∧
      ((s.1 = .nilSlice ∧ s.2.1 = []) ∨ (s.2.1 ≠ [] ∧ ∃ h, s.1 = .slice h 0 s.2.1.length none)))
    (.nilSlice, [], g0) ⟨G0, OwnSl.nil _ _ _, k0, by simp only; omega, by simp, .inl ⟨rfl, rfl⟩⟩ rfl (by (repeat first | exact Less.nil | refine Less.undef _ ?_ | refine Less.keep _ ?_)) ?_
  rintro ⟨v, done, g⟩ ⟨G, ho, hk, hgl, hdl, hvs⟩
  simp only at G ho hk hgl hdl hvs ⊢
  have hne : hs.length ≠ hp := by have := M.lt; omega
  obtain ⟨l, hnx, hall⟩ := G.next unS (fun _ => rfl) hne
  simp -implicitDefEqProofs (disch := first | omega | decide) only [vwp_skip, vwp_ret, vwp_exit, vwp_lab, vwp_seq, vwp_cond, vwp_block, vwp_scope, vwp_region, vwp_draw, vwp_loop, vcnd_tt, vcnd_ff, vthen_normal, vthen_ret, vthen_exit, vblock_normal, vblock_ret, vblock_exit, vreg_nil, vreg_cons, vhl_nil, vhl_op, vhl_guard, vguard_tt, vguard_ff, vguard_tf, vguard_ft, vguard_no, vact_op, vop_some, vput_some, vput_none, vsame_sm, vunit_sm, vget_nil, vget_cons, vget_some,
    vo_mv, vo_bin, vo_un, vo_ext, vo_len, vo_idxS, vo_idxStr, vo_load, vo_pick, vo_append, vo_bslice, evp, vo_nilc, vo_faddr, vo_store, vo_sliceSl, vo_sliceStr, vo_cInt, vo_copy, vo_mkSlice, vo_box, vo_build, vo_b2s, vb2s_sl, vb2s_nil, vcInt, vnil_ptr, vo_mkMap, vo_mkfn, vo_lookup, vo_mapUpd, vo_del, vdel_some, vo_rangeMap, vo_entry, vfaddr_ptr, beq_self_eq_true, eq_self, decide_true, decide_false, vb_lss, vb_leq, vb_gtr, vb_geq, vb_eql, vb_neq, vb_seql, vb_sneq, vb_beql, vb_bneq, vun_not, vlen_str, vlen_sl, vlen_nil, vext_tup, HX.ev, List.length_cons, List.length_nil, List.append_nil, List.nil_append, List.cons_append, List.set_cons_succ, List.set_cons_zero, List.getElem?_cons_succ, List.getElem?_cons_zero, Option.getD_some, Option.map_some, Option.map_none, List.map_cons, List.map_nil, if_true, Bool.not_true, Bool.not_false, Bool.false_eq_true, if_false]
  refine vnext rfl ⟨l, hnx, fun p hp' => ?_⟩
  rcases hall p hp' with ⟨rfl, hperm⟩ | ⟨k, x, g', rfl, G', hkm, hent, hgl', hlt, hsame⟩
  · have hkeys : (done.map Prod.fst).Perm (keys m) := by
      have := hperm.map Prod.fst
      rwa [show (vals m).map Prod.fst = keys m by simp [vals, keys]] at this
    have hzl : (done.map Prod.fst).length = done.length := by simp
    rcases hvs with ⟨rfl, rfl⟩ | ⟨hd0, h, rfl⟩
    · simp -implicitDefEqProofs (disch := first | omega | decide) only [vwp_skip, vwp_ret, vwp_exit, vwp_lab, vwp_seq, vwp_cond, vwp_block, vwp_scope, vwp_region, vwp_draw, vwp_loop, vcnd_tt, vcnd_ff, vthen_normal, vthen_ret, vthen_exit, vblock_normal, vblock_ret, vblock_exit, vreg_nil, vreg_cons, vhl_nil, vhl_op, vhl_guard, vguard_tt, vguard_ff, vguard_tf, vguard_ft, vguard_no, vact_op, vop_some, vput_some, vput_none, vsame_sm, vunit_sm, vget_nil, vget_cons, vget_some,
    vo_mv, vo_bin, vo_un, vo_ext, vo_len, vo_idxS, vo_idxStr, vo_load, vo_pick, vo_append, vo_bslice, evp, vo_nilc, vo_faddr, vo_store, vo_sliceSl, vo_sliceStr, vo_cInt, vo_copy, vo_mkSlice, vo_box, vo_build, vo_b2s, vb2s_sl, vb2s_nil, vcInt, vnil_ptr, vo_mkMap, vo_mkfn, vo_lookup, vo_mapUpd, vo_del, vdel_some, vo_rangeMap, vo_entry, vfaddr_ptr, beq_self_eq_true, eq_self, decide_true, decide_false, vb_lss, vb_leq, vb_gtr, vb_geq, vb_eql, vb_neq, vb_seql, vb_sneq, vb_beql, vb_bneq, vun_not, vlen_str, vlen_sl, vlen_nil, vext_tup, HX.ev, List.length_cons, List.length_nil, List.append_nil, List.nil_append, List.cons_append, List.set_cons_succ, List.set_cons_zero, List.getElem?_cons_succ, List.getElem?_cons_zero, Option.getD_some, Option.map_some, Option.map_none, List.map_cons, List.map_nil, if_true, Bool.not_true, Bool.not_false, Bool.false_eq_true, if_false]
      refine vcall_of ok28 rfl (sort28_nil g) ?_
      rintro _ g rfl
      simp -implicitDefEqProofs (disch := first | omega | decide) only [vwp_skip, vwp_ret, vwp_exit, vwp_lab, vwp_seq, vwp_cond, vwp_block, vwp_scope, vwp_region, vwp_draw, vwp_loop, vcnd_tt, vcnd_ff, vthen_normal, vthen_ret, vthen_exit, vblock_normal, vblock_ret, vblock_exit, vreg_nil, vreg_cons, vhl_nil, vhl_op, vhl_guard, vguard_tt, vguard_ff, vguard_tf, vguard_ft, vguard_no, vact_op, vop_some, vput_some, vput_none, vsame_sm, vunit_sm, vget_nil, vget_cons, vget_some,
    vo_mv, vo_bin, vo_un, vo_ext, vo_len, vo_idxS, vo_idxStr, vo_load, vo_pick, vo_append, vo_bslice, evp, vo_nilc, vo_faddr, vo_store, vo_sliceSl, vo_sliceStr, vo_cInt, vo_copy, vo_mkSlice, vo_box, vo_build, vo_b2s, vb2s_sl, vb2s_nil, vcInt, vnil_ptr, vo_mkMap, vo_mkfn, vo_lookup, vo_mapUpd, vo_del, vdel_some, vo_rangeMap, vo_entry, vfaddr_ptr, beq_self_eq_true, eq_self, decide_true, decide_false, vb_lss, vb_leq, vb_gtr, vb_geq, vb_eql, vb_neq, vb_seql, vb_sneq, vb_beql, vb_bneq, vun_not, vlen_str, vlen_sl, vlen_nil, vext_tup, HX.ev, List.length_cons, List.length_nil, List.append_nil, List.nil_append, List.cons_append, List.set_cons_succ, List.set_cons_zero, List.getElem?_cons_succ, List.getElem?_cons_zero, Option.getD_some, Option.map_some, Option.map_none, List.map_cons, List.map_nil, if_true, Bool.not_true, Bool.not_false, Bool.false_eq_true, if_false]
      exact ⟨rfl, _, rfl, ⟨[], hkeys, .inl ⟨rfl, by simp [sorted]⟩⟩, B.keep (Nat.le_refl _) hk, hk⟩
    · have hpos : 0 < done.length := by cases done with | nil => exact absurd rfl hd0 | cons => simp
      obtain ⟨_, ⟨h1, _⟩ | ⟨h1, ro, opn, olds, h2, _⟩ | ⟨h1, olds, h2, h3, h4, h5⟩⟩ := ho
      · simp at h1
      · simp at h2
      · simp at h2; subst h2
        rw [← hzl]
        simp -implicitDefEqProofs (disch := first | omega | decide) only [vwp_skip, vwp_ret, vwp_exit, vwp_lab, vwp_seq, vwp_cond, vwp_block, vwp_scope, vwp_region, vwp_draw, vwp_loop, vcnd_tt, vcnd_ff, vthen_normal, vthen_ret, vthen_exit, vblock_normal, vblock_ret, vblock_exit, vreg_nil, vreg_cons, vhl_nil, vhl_op, vhl_guard, vguard_tt, vguard_ff, vguard_tf, vguard_ft, vguard_no, vact_op, vop_some, vput_some, vput_none, vsame_sm, vunit_sm, vget_nil, vget_cons, vget_some,
    vo_mv, vo_bin, vo_un, vo_ext, vo_len, vo_idxS, vo_idxStr, vo_load, vo_pick, vo_append, vo_bslice, evp, vo_nilc, vo_faddr, vo_store, vo_sliceSl, vo_sliceStr, vo_cInt, vo_copy, vo_mkSlice, vo_box, vo_build, vo_b2s, vb2s_sl, vb2s_nil, vcInt, vnil_ptr, vo_mkMap, vo_mkfn, vo_lookup, vo_mapUpd, vo_del, vdel_some, vo_rangeMap, vo_entry, vfaddr_ptr, beq_self_eq_true, eq_self, decide_true, decide_false, vb_lss, vb_leq, vb_gtr, vb_geq, vb_eql, vb_neq, vb_seql, vb_sneq, vb_beql, vb_bneq, vun_not, vlen_str, vlen_sl, vlen_nil, vext_tup, HX.ev, List.length_cons, List.length_nil, List.append_nil, List.nil_append, List.cons_append, List.set_cons_succ, List.set_cons_zero, List.getElem?_cons_succ, List.getElem?_cons_zero, Option.getD_some, Option.map_some, Option.map_none, List.map_cons, List.map_nil, if_true, Bool.not_true, Bool.not_false, Bool.false_eq_true, if_false]
        refine vcall_of ok28 rfl (sort28 (by rw [hzl]; exact hpos) h4 (by rw [hzl]; omega)) ?_
        rintro _ g2 rfl
        simp -implicitDefEqProofs (disch := first | omega | decide) only [vwp_skip, vwp_ret, vwp_exit, vwp_lab, vwp_seq, vwp_cond, vwp_block, vwp_scope, vwp_region, vwp_draw, vwp_loop, vcnd_tt, vcnd_ff, vthen_normal, vthen_ret, vthen_exit, vblock_normal, vblock_ret, vblock_exit, vreg_nil, vreg_cons, vhl_nil, vhl_op, vhl_guard, vguard_tt, vguard_ff, vguard_tf, vguard_ft, vguard_no, vact_op, vop_some, vput_some, vput_none, vsame_sm, vunit_sm, vget_nil, vget_cons, vget_some,
    vo_mv, vo_bin, vo_un, vo_ext, vo_len, vo_idxS, vo_idxStr, vo_load, vo_pick, vo_append, vo_bslice, evp, vo_nilc, vo_faddr, vo_store, vo_sliceSl, vo_sliceStr, vo_cInt, vo_copy, vo_mkSlice, vo_box, vo_build, vo_b2s, vb2s_sl, vb2s_nil, vcInt, vnil_ptr, vo_mkMap, vo_mkfn, vo_lookup, vo_mapUpd, vo_del, vdel_some, vo_rangeMap, vo_entry, vfaddr_ptr, beq_self_eq_true, eq_self, decide_true, decide_false, vb_lss, vb_leq, vb_gtr, vb_geq, vb_eql, vb_neq, vb_seql, vb_sneq, vb_beql, vb_bneq, vun_not, vlen_str, vlen_sl, vlen_nil, vext_tup, HX.ev, List.length_cons, List.length_nil, List.append_nil, List.nil_append, List.cons_append, List.set_cons_succ, List.set_cons_zero, List.getElem?_cons_succ, List.getElem?_cons_zero, Option.getD_some, Option.map_some, Option.map_none, List.map_cons, List.map_nil, if_true, Bool.not_true, Bool.not_false, Bool.false_eq_true, if_false]
        have hkk : Keeps hs.length g ((killAll olds g).set h (some (.cells 1 ((sorted (done.map Prod.fst)).map HV.str) false true []))) := by
          refine (Keeps.kill (n := hs.length) (by omega) (fun o ho => by have := (h5 o ho).1; omega)).trans (Keeps.set (by rw [killAll_length]; omega) (by omega))
        refine ⟨rfl, _, rfl, ⟨done.map Prod.fst, hkeys, ?_⟩, B.keep (Nat.le_refl _) (hk.trans hkk), hk.trans hkk⟩
        have hsl : (done.map Prod.fst).length = ((sorted (done.map Prod.fst)).map HV.str).length := by unfold sorted; simp
        have hlt := lt_of_get h4
        rw [hsl]
        exact .inr ⟨h, rfl, by omega, by rw [List.getElem?_set]; simp [killAll_length, hlt]⟩
  · rw [hvl] at hlt
    have hent' : hentry g' (.ptr hs.length 0) = some (.tup [.str k, x]) := hent
    have ho' : OwnSl (hs.length + 1) g' 1 v done.length ((done.map Prod.fst).map HV.str) := ho.same fun i hi => hsame i (by
      obtain ⟨_, ⟨h1, _⟩ | ⟨h1, ro, opn, olds, h2, _⟩ | ⟨h1, olds, h2, h3, h4, h5⟩⟩ := ho
      · rw [h1] at hi; simp [hd] at hi
      · rcases hvs with ⟨h, _⟩ | ⟨_, q, h⟩ <;> rw [h] at h2 <;> simp at h2
      · rw [h2] at hi; simp [hd] at hi; omega)
    have hb1 := slice_one (hs := g') (z := .str []) (x := .str k) rfl rfl rfl
    have kk : Keeps g'.length g' (g' ++ [some (.cells 1 [.str k] false false [])]) := Keeps.app (Nat.le_refl _)
    obtain ⟨g2, e1, e2, e3, e4, e5, e6⟩ := OwnSl.app3 (bytes := 16) (ho'.keep (Nat.le_refl _) kk) (by simp; omega) (take_one g' (.str k)) rfl (by omega) (by omega) (by omega)
    simp -implicitDefEqProofs (disch := first | omega | decide) only [vwp_skip, vwp_ret, vwp_exit, vwp_lab, vwp_seq, vwp_cond, vwp_block, vwp_scope, vwp_region, vwp_draw, vwp_loop, vcnd_tt, vcnd_ff, vthen_normal, vthen_ret, vthen_exit, vblock_normal, vblock_ret, vblock_exit, vreg_nil, vreg_cons, vhl_nil, vhl_op, vhl_guard, vguard_tt, vguard_ff, vguard_tf, vguard_ft, vguard_no, vact_op, vop_some, vput_some, vput_none, vsame_sm, vunit_sm, vget_nil, vget_cons, vget_some,
    vo_mv, vo_bin, vo_un, vo_ext, vo_len, vo_idxS, vo_idxStr, vo_load, vo_pick, vo_append, vo_bslice, evp, vo_nilc, vo_faddr, vo_store, vo_sliceSl, vo_sliceStr, vo_cInt, vo_copy, vo_mkSlice, vo_box, vo_build, vo_b2s, vb2s_sl, vb2s_nil, vcInt, vnil_ptr, vo_mkMap, vo_mkfn, vo_lookup, vo_mapUpd, vo_del, vdel_some, vo_rangeMap, vo_entry, vfaddr_ptr, beq_self_eq_true, eq_self, decide_true, decide_false, vb_lss, vb_leq, vb_gtr, vb_geq, vb_eql, vb_neq, vb_seql, vb_sneq, vb_beql, vb_bneq, vun_not, vlen_str, vlen_sl, vlen_nil, vext_tup, HX.ev, List.length_cons, List.length_nil, List.append_nil, List.nil_append, List.cons_append, List.set_cons_succ, List.set_cons_zero, List.getElem?_cons_succ, List.getElem?_cons_zero, Option.getD_some, Option.map_some, Option.map_none, List.map_cons, List.map_nil, if_true, Bool.not_true, Bool.not_false, Bool.false_eq_true, if_false, hent', hb1, e1]
    have hl1 : (g' ++ [some (HB.cells 1 [HV.str k] false false [])]).length = g'.length + 1 := by simp
    have kg : Keeps (hs.length + 1) g' g2 := (kk.less (by omega)).trans e4
    refine ⟨(.slice (g' ++ [some (HB.cells 1 [HV.str k] false false [])]).length 0 (done.length + 1) none, done ++ [(k, x)], g2), by simp only [List.length_append, List.length_cons, List.length_nil]; omega, ⟨?_, ?_, ?_, ?_, ?_, ?_⟩, rfl, by (repeat first | exact Less.nil | refine Less.undef _ ?_ | refine Less.keep _ ?_)⟩
    · obtain ⟨es, clock, L, q1, q2, q3, q4, q5, q6, q7, q8⟩ := G'
      have hpl := lt_of_get q1
      have hp1 := M.lt
      exact ⟨es, clock, L, kg.get (by omega) q1, q2, q3, q4, kg.get (by omega) q5, q6, q7, q8⟩
    · simpa using e3
    · have hg2 := kg.1
      refine (hk.trans ⟨by simp only; omega, fun i hi => ?_⟩)
      rw [kg.2 i (by omega), hsame i (by omega)]
    · exact kg.1
    · simp; omega
    · exact .inr ⟨by simp, (g' ++ [some (HB.cells 1 [HV.str k] false false [])]).length, by simp⟩
theorem names15 (B : BookIs n hs hB m) (hn : n ≤ hs.length) (hm : m.length < 8796093022208) :
    HC Try.prog 15 [.ptr hB 0] hs fun v hs' => (∃ ks : List (List UInt8), ks.Perm (keys m) ∧ SlAt hs' v ((sorted ks).map HV.str)) ∧ BookIs n hs' hB m ∧ Keeps n hs hs' :=
  (names15N B hn hm).mono fun _ _ ⟨⟨ks, h1, h2⟩, h3, h4⟩ => ⟨⟨ks, h1, h2.sl⟩, h3, h4.less hn⟩
end B
end Go.Proofs.Ytalcaflkfpiehaa
