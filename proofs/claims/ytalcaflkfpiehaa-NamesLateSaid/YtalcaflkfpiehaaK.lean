/-
  A book cloned; a book gone through.
-/
import Derived.Test.YtalcaflkfpiehaaT
import Derived.Test.YtalcaflkfpiehaaF3
namespace Go.Proofs.Ytalcaflkfpiehaa
open Go Go.HL V P2
namespace R
open B (NM cnt putN cutN keys sum BookIs sorted sorted_perm sorted_lt sorted_pair ok15 names15N Fresh bless_asymm le_bless bless_total)
set_option maxRecDepth 100000
set_option maxHeartbeats 4000000
set_option linter.unusedSimpArgs false
theorem ok18 : okF Try.prog 18 := ⟨_, Try.func18, by kernel_rfl, by kernel_rfl⟩
theorem ok29 : okF Try.prog 29 := ⟨_, Try.func29, by kernel_rfl, by kernel_rfl⟩
theorem ok39 : okF Try.prog 39 := ⟨_, Try.func39, by kernel_rfl, by kernel_rfl⟩
section
variable {P : Program} {fr : List HV} {hs hs' : HS} {K : List HV → HS → Prop} {r : List HOper} {dst : Option Nat}
/-- a call of a range's yield. -/
theorem vcall_yld {h : Nat} {ha : List HX} {hf : HX} {xs : List HV} {R : HV → HS → Prop} (hg : calleeC (hf.ev fr) (ha.map (HX.ev fr)) = some (.yld h, xs)) (hy : HYld P h xs hs R)
    (hk : ∀ v hs', R v hs' → HL P r (put fr dst v) hs' K) : actK P (.call hf ha) dst r fr hs K := ⟨.yld h, xs, hg, hy.mono hk⟩
theorem vo_iface {t : TypeId} {x : HX} : hop (.iface t x) fr hs = same hs (some (.iface t (x.ev fr))) := rfl
theorem vo_assert {t : TypeId} {z : HV} {ok : Bool} {x : HX} : hop (.assert t z ok x) fr hs = same hs (hassert t z ok (x.ev fr)) := rfl
end

theorem clone29 {hs : HS} {hm : Nat} {m : List (List UInt8 × HV)} (M : MapIs HV.str hs hm m) : HC Try.prog 29 [.map hm] hs fun v hs' => v = .map hs.length ∧ MapIs HV.str hs' hs.length m ∧ Keeps hs.length hs hs' ∧ hs'.length = hs.length + 1 := by
  obtain ⟨es, clock, hb, r⟩ := M
  have hnn : hbin .eql (some .map) (.map hm) .nilMap = some (.bool false) := rfl
  have hx : xMapClone [.iface 58 (.map hm)] hs = some (.iface 58 (.map hs.length), hs ++ [some (.map es clock)]) := by simp only [xMapClone, hb]
  have hC : HCall Try.prog 43 [.iface 58 (.map hm)] hs fun v1 hs1 => v1 = .iface 58 (.map hs.length) ∧ hs1 = hs ++ [some (.map es clock)] := xMapClone_sound Try.func43 (by kernel_rfl) (by kernel_rfl) (by kernel_rfl) (by kernel_rfl) hx
  refine HC.wp mixed Try.func29 c29 ?_
  simp -implicitDefEqProofs (disch := first | omega | decide) only [vwp_skip, vwp_ret, vwp_exit, vwp_lab, vwp_seq, vwp_cond, vwp_block, vwp_scope, vwp_region, vwp_draw, vwp_loop, vcnd_tt, vcnd_ff, vthen_normal, vthen_ret, vthen_exit, vblock_normal, vblock_ret, vblock_exit, vreg_nil, vreg_cons, vhl_nil, vhl_op, vhl_guard, vguard_tt, vguard_ff, vguard_tf, vguard_ft, vguard_no, vact_op, vop_some, vput_some, vput_none, vsame_sm, vunit_sm, vget_nil, vget_cons, vget_some,
    vo_mv, vo_bin, vo_un, vo_ext, vo_len, vo_idxS, vo_idxStr, vo_load, vo_pick, vo_append, vo_bslice, evp, vo_nilc, vo_faddr, vo_store, vo_sliceSl, vo_sliceStr, vo_cInt, vo_copy, vo_mkSlice, vo_box, vo_build, vo_b2s, vb2s_sl, vb2s_nil, vcInt, vnil_ptr, vo_mkMap, vo_mkfn, vo_lookup, vo_mapUpd, vo_del, vdel_some, vo_rangeMap, vo_entry, vfaddr_ptr, beq_self_eq_true, eq_self, decide_true, decide_false, vb_lss, vb_leq, vb_gtr, vb_geq, vb_eql, vb_neq, vb_seql, vb_sneq, vb_beql, vb_bneq, vun_not, vlen_str, vlen_sl, vlen_nil, vext_tup, HX.ev, List.length_cons, List.length_nil, List.append_nil, List.nil_append, List.cons_append, List.set_cons_succ, List.set_cons_zero, List.getElem?_cons_succ, List.getElem?_cons_zero, Option.getD_some, Option.map_some, Option.map_none, List.map_cons, List.map_nil, if_true, Bool.not_true, Bool.not_false, Bool.false_eq_true, if_false, h29, hnn, vo_iface, frame0, List.replicate, Nat.sub]
  refine vcall_ofC rfl hC ?_
  rintro _ _ ⟨rfl, rfl⟩
  have ha : hassert 58 .nilMap false (.iface 58 (.map hs.length)) = some (.map hs.length) := rfl
  simp -implicitDefEqProofs (disch := first | omega | decide) only [vwp_skip, vwp_ret, vwp_exit, vwp_lab, vwp_seq, vwp_cond, vwp_block, vwp_scope, vwp_region, vwp_draw, vwp_loop, vcnd_tt, vcnd_ff, vthen_normal, vthen_ret, vthen_exit, vblock_normal, vblock_ret, vblock_exit, vreg_nil, vreg_cons, vhl_nil, vhl_op, vhl_guard, vguard_tt, vguard_ff, vguard_tf, vguard_ft, vguard_no, vact_op, vop_some, vput_some, vput_none, vsame_sm, vunit_sm, vget_nil, vget_cons, vget_some,
    vo_mv, vo_bin, vo_un, vo_ext, vo_len, vo_idxS, vo_idxStr, vo_load, vo_pick, vo_append, vo_bslice, evp, vo_nilc, vo_faddr, vo_store, vo_sliceSl, vo_sliceStr, vo_cInt, vo_copy, vo_mkSlice, vo_box, vo_build, vo_b2s, vb2s_sl, vb2s_nil, vcInt, vnil_ptr, vo_mkMap, vo_mkfn, vo_lookup, vo_mapUpd, vo_del, vdel_some, vo_rangeMap, vo_entry, vfaddr_ptr, beq_self_eq_true, eq_self, decide_true, decide_false, vb_lss, vb_leq, vb_gtr, vb_geq, vb_eql, vb_neq, vb_seql, vb_sneq, vb_beql, vb_bneq, vun_not, vlen_str, vlen_sl, vlen_nil, vext_tup, HX.ev, List.length_cons, List.length_nil, List.append_nil, List.nil_append, List.cons_append, List.set_cons_succ, List.set_cons_zero, List.getElem?_cons_succ, List.getElem?_cons_zero, Option.getD_some, Option.map_some, Option.map_none, List.map_cons, List.map_nil, if_true, Bool.not_true, Bool.not_false, Bool.false_eq_true, if_false, vo_assert, ha]
  exact ⟨rfl, _, rfl, rfl, ⟨es, clock, by simp, r⟩, Keeps.app (Nat.le_refl _), by simp⟩

theorem clone18 {n : Nat} {hs : HS} {hB : Nat} {m : NM} (B : BookIs n hs hB m) : HC Try.prog 18 [.ptr hB 0] hs fun v hs' => v = .ptr (hs.length + 1) 0 ∧ BookIs hs.length hs' (hs.length + 1) m ∧ Keeps hs.length hs hs' ∧ hs'.length = hs.length + 2 := by
  obtain ⟨hp, l0, M, hmn, hmB⟩ := B.load
  refine HC.wp mixed Try.func18 c18 ?_
  simp -implicitDefEqProofs (disch := first | omega | decide) only [vwp_skip, vwp_ret, vwp_exit, vwp_lab, vwp_seq, vwp_cond, vwp_block, vwp_scope, vwp_region, vwp_draw, vwp_loop, vcnd_tt, vcnd_ff, vthen_normal, vthen_ret, vthen_exit, vblock_normal, vblock_ret, vblock_exit, vreg_nil, vreg_cons, vhl_nil, vhl_op, vhl_guard, vguard_tt, vguard_ff, vguard_tf, vguard_ft, vguard_no, vact_op, vop_some, vput_some, vput_none, vsame_sm, vunit_sm, vget_nil, vget_cons, vget_some,
    vo_mv, vo_bin, vo_un, vo_ext, vo_len, vo_idxS, vo_idxStr, vo_load, vo_pick, vo_append, vo_bslice, evp, vo_nilc, vo_faddr, vo_store, vo_sliceSl, vo_sliceStr, vo_cInt, vo_copy, vo_mkSlice, vo_box, vo_build, vo_b2s, vb2s_sl, vb2s_nil, vcInt, vnil_ptr, vo_mkMap, vo_mkfn, vo_lookup, vo_mapUpd, vo_del, vdel_some, vo_rangeMap, vo_entry, vfaddr_ptr, beq_self_eq_true, eq_self, decide_true, decide_false, vb_lss, vb_leq, vb_gtr, vb_geq, vb_eql, vb_neq, vb_seql, vb_sneq, vb_beql, vb_bneq, vun_not, vlen_str, vlen_sl, vlen_nil, vext_tup, HX.ev, List.length_cons, List.length_nil, List.append_nil, List.nil_append, List.cons_append, List.set_cons_succ, List.set_cons_zero, List.getElem?_cons_succ, List.getElem?_cons_zero, Option.getD_some, Option.map_some, Option.map_none, List.map_cons, List.map_nil, if_true, Bool.not_true, Bool.not_false, Bool.false_eq_true, if_false, h18, l0, frame0, List.replicate, Nat.sub]
  refine vcall_of ok29 rfl (clone29 M) ?_
  rintro _ g ⟨rfl, M', k', l'⟩
  have h2 : hbuild [.nilMap] [(0, 1, .map hs.length)] = some (.agg [.map hs.length]) := rfl
  have h3 : hbox g (.agg [.map hs.length]) = some (.ptr (hs.length + 1) 0, g ++ [some (.cells 1 [.map hs.length] false false [])]) := by rw [← l']; rfl
  simp -implicitDefEqProofs (disch := first | omega | decide) only [vwp_skip, vwp_ret, vwp_exit, vwp_lab, vwp_seq, vwp_cond, vwp_block, vwp_scope, vwp_region, vwp_draw, vwp_loop, vcnd_tt, vcnd_ff, vthen_normal, vthen_ret, vthen_exit, vblock_normal, vblock_ret, vblock_exit, vreg_nil, vreg_cons, vhl_nil, vhl_op, vhl_guard, vguard_tt, vguard_ff, vguard_tf, vguard_ft, vguard_no, vact_op, vop_some, vput_some, vput_none, vsame_sm, vunit_sm, vget_nil, vget_cons, vget_some,
    vo_mv, vo_bin, vo_un, vo_ext, vo_len, vo_idxS, vo_idxStr, vo_load, vo_pick, vo_append, vo_bslice, evp, vo_nilc, vo_faddr, vo_store, vo_sliceSl, vo_sliceStr, vo_cInt, vo_copy, vo_mkSlice, vo_box, vo_build, vo_b2s, vb2s_sl, vb2s_nil, vcInt, vnil_ptr, vo_mkMap, vo_mkfn, vo_lookup, vo_mapUpd, vo_del, vdel_some, vo_rangeMap, vo_entry, vfaddr_ptr, beq_self_eq_true, eq_self, decide_true, decide_false, vb_lss, vb_leq, vb_gtr, vb_geq, vb_eql, vb_neq, vb_seql, vb_sneq, vb_beql, vb_bneq, vun_not, vlen_str, vlen_sl, vlen_nil, vext_tup, HX.ev, List.length_cons, List.length_nil, List.append_nil, List.nil_append, List.cons_append, List.set_cons_succ, List.set_cons_zero, List.getElem?_cons_succ, List.getElem?_cons_zero, Option.getD_some, Option.map_some, Option.map_none, List.map_cons, List.map_nil, if_true, Bool.not_true, Bool.not_false, Bool.false_eq_true, if_false, h2, h3, frame0, List.replicate, Nat.sub]
  have k2 : Keeps (hs.length + 1) g (g ++ [some (.cells 1 [.map hs.length] false false [])]) := Keeps.app (by omega)
  refine ⟨rfl, _, rfl, rfl, ⟨hs.length, by rw [← l']; simp, M'.same (k2.2 _ (by omega)), by omega, by omega, by omega⟩, k'.trans (k2.less (by omega)), by simp; omega⟩

/-- names in their order are the document's. -/
theorem Alike.sorted {m m2 : NM} (A : Alike m m2) {ks : List (List UInt8)} (h : ks.Perm (keys m)) : B.sorted ks = keys m2 := by
  have hp : (B.sorted ks).Perm (keys m2) := ((sorted_perm ks).trans h).trans (A.1.map Prod.fst)
  refine List.Perm.eq_of_pairwise (le := fun a b => decide (a ≤ b) = true) (fun a b _ _ h1 h2 => ?_) (sorted_pair ks) (A.2.imp fun {a b} hab => ?_) hp
  · rw [le_bless] at h1 h2
    exact bless_total a b (by simpa using h2) (by simpa using h1)
  · rw [le_bless, bless_asymm a b hab]; rfl

/-- a range over a book. -/
theorem all39 {hs : HS} {hB hC hY : Nat} {m m2 : NM} (Bk : BookIs 0 hs hB m) (A : Alike m m2) (hm : m.length < 8796093022208) (hc : hs[hC]? = some (some (.cells 1 [.ptr hB 0] false false []))) (Inv : Nat → HS → Prop) (Stop : HS → Prop)
    (h0 : ∀ g, Keeps hs.length hs g → Inv 0 g)
    (step : ∀ j p g, m2[j]? = some p → Inv j g → hs.length ≤ g.length → HYld Try.prog hY [.str p.1, .int .i64 (p.2 : Nat)] g fun r g' => g.length ≤ g'.length ∧ (∀ i, hs.length ≤ i → i < g.length → g'[i]? = g[i]?) ∧ ((r = .bool true ∧ Inv (j + 1) g') ∨ (r = .bool false ∧ Stop g'))) :
    HC Try.prog 39 [.yld hY, .ptr hC 0] hs fun _ g => Inv m2.length g ∨ Stop g := by
  have hlc : hload none hs (.ptr hC 0) = some (.ptr hB 0) := by simp only [hload, hc]; rfl
  have hml : m.length = m2.length := A.1.length_eq
  refine HC.wp mixed Try.func39 c39 ?_
  simp -implicitDefEqProofs (disch := first | omega | decide) only [vwp_skip, vwp_ret, vwp_exit, vwp_lab, vwp_seq, vwp_cond, vwp_block, vwp_scope, vwp_region, vwp_draw, vwp_loop, vcnd_tt, vcnd_ff, vthen_normal, vthen_ret, vthen_exit, vblock_normal, vblock_ret, vblock_exit, vreg_nil, vreg_cons, vhl_nil, vhl_op, vhl_guard, vguard_tt, vguard_ff, vguard_tf, vguard_ft, vguard_no, vact_op, vop_some, vput_some, vput_none, vsame_sm, vunit_sm, vget_nil, vget_cons, vget_some,
    vo_mv, vo_bin, vo_un, vo_ext, vo_len, vo_idxS, vo_idxStr, vo_load, vo_pick, vo_append, vo_bslice, evp, vo_nilc, vo_faddr, vo_store, vo_sliceSl, vo_sliceStr, vo_cInt, vo_copy, vo_mkSlice, vo_box, vo_build, vo_b2s, vb2s_sl, vb2s_nil, vcInt, vnil_ptr, vo_mkMap, vo_mkfn, vo_lookup, vo_mapUpd, vo_del, vdel_some, vo_rangeMap, vo_entry, vfaddr_ptr, beq_self_eq_true, eq_self, decide_true, decide_false, vb_lss, vb_leq, vb_gtr, vb_geq, vb_eql, vb_neq, vb_seql, vb_sneq, vb_beql, vb_bneq, vun_not, vlen_str, vlen_sl, vlen_nil, vext_tup, HX.ev, List.length_cons, List.length_nil, List.append_nil, List.nil_append, List.cons_append, List.set_cons_succ, List.set_cons_zero, List.getElem?_cons_succ, List.getElem?_cons_zero, Option.getD_some, Option.map_some, Option.map_none, List.map_cons, List.map_nil, if_true, Bool.not_true, Bool.not_false, Bool.false_eq_true, if_false, h39, hlc, frame0, List.replicate, Nat.sub]
  refine vcall_of ok18 rfl (clone18 Bk) ?_
  rintro _ g0 ⟨rfl, B0, k0, l0⟩
  simp -implicitDefEqProofs (disch := first | omega | decide) only [vwp_skip, vwp_ret, vwp_exit, vwp_lab, vwp_seq, vwp_cond, vwp_block, vwp_scope, vwp_region, vwp_draw, vwp_loop, vcnd_tt, vcnd_ff, vthen_normal, vthen_ret, vthen_exit, vblock_normal, vblock_ret, vblock_exit, vreg_nil, vreg_cons, vhl_nil, vhl_op, vhl_guard, vguard_tt, vguard_ff, vguard_tf, vguard_ft, vguard_no, vact_op, vop_some, vput_some, vput_none, vsame_sm, vunit_sm, vget_nil, vget_cons, vget_some,
    vo_mv, vo_bin, vo_un, vo_ext, vo_len, vo_idxS, vo_idxStr, vo_load, vo_pick, vo_append, vo_bslice, evp, vo_nilc, vo_faddr, vo_store, vo_sliceSl, vo_sliceStr, vo_cInt, vo_copy, vo_mkSlice, vo_box, vo_build, vo_b2s, vb2s_sl, vb2s_nil, vcInt, vnil_ptr, vo_mkMap, vo_mkfn, vo_lookup, vo_mapUpd, vo_del, vdel_some, vo_rangeMap, vo_entry, vfaddr_ptr, beq_self_eq_true, eq_self, decide_true, decide_false, vb_lss, vb_leq, vb_gtr, vb_geq, vb_eql, vb_neq, vb_seql, vb_sneq, vb_beql, vb_bneq, vun_not, vlen_str, vlen_sl, vlen_nil, vext_tup, HX.ev, List.length_cons, List.length_nil, List.append_nil, List.nil_append, List.cons_append, List.set_cons_succ, List.set_cons_zero, List.getElem?_cons_succ, List.getElem?_cons_zero, Option.getD_some, Option.map_some, Option.map_none, List.map_cons, List.map_nil, if_true, Bool.not_true, Bool.not_false, Bool.false_eq_true, if_false]
  refine vcall_of ok15 rfl (names15N B0 (by omega) hm) ?_
  rintro v g1 ⟨⟨ks, hks, hF⟩, B1, k1⟩
  have k01 : Keeps hs.length hs g1 := k0.trans (k1.less (by omega))
  have hg1 := k1.1
  have hso := A.sorted hks
  rw [hso] at hF
  have hlen := hF.sl.len
  rw [List.length_map] at hlen
  have hkl : (keys m2).length = m2.length := by simp [keys]
  rw [hkl] at hlen
  obtain ⟨hp, lo, M1, hpn, hpB⟩ := B1.load
  have hb1 : g1[hs.length + 1]? = some (some (.cells 1 [.map hp] false false [])) := by
    obtain ⟨q, b, _⟩ := B1
    have := lo
    simp only [hload, b] at this
    simp at this
    rw [← this]; exact b
  simp -implicitDefEqProofs (disch := first | omega | decide) only [vwp_skip, vwp_ret, vwp_exit, vwp_lab, vwp_seq, vwp_cond, vwp_block, vwp_scope, vwp_region, vwp_draw, vwp_loop, vcnd_tt, vcnd_ff, vthen_normal, vthen_ret, vthen_exit, vblock_normal, vblock_ret, vblock_exit, vreg_nil, vreg_cons, vhl_nil, vhl_op, vhl_guard, vguard_tt, vguard_ff, vguard_tf, vguard_ft, vguard_no, vact_op, vop_some, vput_some, vput_none, vsame_sm, vunit_sm, vget_nil, vget_cons, vget_some,
    vo_mv, vo_bin, vo_un, vo_ext, vo_len, vo_idxS, vo_idxStr, vo_load, vo_pick, vo_append, vo_bslice, evp, vo_nilc, vo_faddr, vo_store, vo_sliceSl, vo_sliceStr, vo_cInt, vo_copy, vo_mkSlice, vo_box, vo_build, vo_b2s, vb2s_sl, vb2s_nil, vcInt, vnil_ptr, vo_mkMap, vo_mkfn, vo_lookup, vo_mapUpd, vo_del, vdel_some, vo_rangeMap, vo_entry, vfaddr_ptr, beq_self_eq_true, eq_self, decide_true, decide_false, vb_lss, vb_leq, vb_gtr, vb_geq, vb_eql, vb_neq, vb_seql, vb_sneq, vb_beql, vb_bneq, vun_not, vlen_str, vlen_sl, vlen_nil, vext_tup, HX.ev, List.length_cons, List.length_nil, List.append_nil, List.nil_append, List.cons_append, List.set_cons_succ, List.set_cons_zero, List.getElem?_cons_succ, List.getElem?_cons_zero, Option.getD_some, Option.map_some, Option.map_none, List.map_cons, List.map_nil, if_true, Bool.not_true, Bool.not_false, Bool.false_eq_true, if_false, hlen]
  refine HW.loopS (σ := Nat × HS) mixed (fun s => (.yld hY :: .ptr hC 0 :: .undef :: .ptr (hs.length + 1) 0 :: .undef :: .undef :: .undef :: .undef :: .undef :: v :: .int .i64 (m2.length : Nat) :: .int .i64 (s.1 : Nat) :: .undef :: .undef :: .undef :: .undef :: .undef :: .undef :: .undef :: .undef :: .undef :: .undef :: .undef :: .undef :: .undef :: .undef :: [])) (fun s => s.2) (fun s => m2.length - s.1)
    (fun s => s.1 ≤ m2.length ∧ Inv s.1 s.2 ∧ g1.length ≤ s.2.length ∧ ∀ i, hs.length ≤ i → i < g1.length → s.2[i]? = g1[i]?)
    (0, g1) ⟨by simp, h0 _ k01, Nat.le_refl _, fun _ _ _ => rfl⟩ rfl (by (repeat first | exact Less.nil | refine Less.undef _ ?_ | refine Less.keep _ ?_)) ?_
  rintro ⟨i, g⟩ ⟨hi, hI, hgl, hsm⟩
  simp only at hi hI hgl hsm ⊢
  by_cases h : i < m2.length
  · have hlt : decide ((i : Int) < (m2.length : Nat)) = true := by simp; omega
    obtain ⟨⟨k, c⟩, hp2⟩ : ∃ p, m2[i]? = some p := ⟨_, List.getElem?_eq_getElem h⟩
    have hFg : Fresh g0.length g v ((keys m2).map HV.str) := by
      rcases hF with hF | ⟨h', h1, h2, h3⟩
      · exact .inl hF
      · exact .inr ⟨h', h1, h2, by rw [hsm _ (by omega) (lt_of_get h3)]; exact h3⟩
    obtain ⟨b, e1, e2⟩ := hFg.sl.idx (i := i) (x := .str k) (by rw [List.getElem?_map]; unfold keys; rw [List.getElem?_map, hp2]; rfl) .i64
    have e3 := hFg.sl.sOk
    have hbg : g[hs.length + 1]? = some (some (.cells 1 [.map hp] false false [])) := by rw [hsm _ (by omega) (lt_of_get hb1)]; exact hb1
    have lg : hload none g (.ptr (hs.length + 1) 0) = some (.map hp) := by simp only [hload, hbg]; rfl
    have Mg : MapIs HV.str g hp (B.vals m) := M1.same (hsm _ hpn M1.lt)
    have hlk := Mg.lookup strKey (.int .i64 0) k
    have hcn : (Go.HL.look (B.vals m) k).getD (.int .i64 0) = .int .i64 (c : Nat) := by
      have h1 := A.held k
      rw [(A.2.there (List.mem_of_getElem? hp2)).2] at h1
      rw [h1, B.look_vals]
    rw [hcn] at hlk
    simp -implicitDefEqProofs (disch := first | omega | decide) only [vwp_skip, vwp_ret, vwp_exit, vwp_lab, vwp_seq, vwp_cond, vwp_block, vwp_scope, vwp_region, vwp_draw, vwp_loop, vcnd_tt, vcnd_ff, vthen_normal, vthen_ret, vthen_exit, vblock_normal, vblock_ret, vblock_exit, vreg_nil, vreg_cons, vhl_nil, vhl_op, vhl_guard, vguard_tt, vguard_ff, vguard_tf, vguard_ft, vguard_no, vact_op, vop_some, vput_some, vput_none, vsame_sm, vunit_sm, vget_nil, vget_cons, vget_some,
    vo_mv, vo_bin, vo_un, vo_ext, vo_len, vo_idxS, vo_idxStr, vo_load, vo_pick, vo_append, vo_bslice, evp, vo_nilc, vo_faddr, vo_store, vo_sliceSl, vo_sliceStr, vo_cInt, vo_copy, vo_mkSlice, vo_box, vo_build, vo_b2s, vb2s_sl, vb2s_nil, vcInt, vnil_ptr, vo_mkMap, vo_mkfn, vo_lookup, vo_mapUpd, vo_del, vdel_some, vo_rangeMap, vo_entry, vfaddr_ptr, beq_self_eq_true, eq_self, decide_true, decide_false, vb_lss, vb_leq, vb_gtr, vb_geq, vb_eql, vb_neq, vb_seql, vb_sneq, vb_beql, vb_bneq, vun_not, vlen_str, vlen_sl, vlen_nil, vext_tup, HX.ev, List.length_cons, List.length_nil, List.append_nil, List.nil_append, List.cons_append, List.set_cons_succ, List.set_cons_zero, List.getElem?_cons_succ, List.getElem?_cons_zero, Option.getD_some, Option.map_some, Option.map_none, List.map_cons, List.map_nil, if_true, Bool.not_true, Bool.not_false, Bool.false_eq_true, if_false, hlt, e1, e2, e3, lg, hlk]
    refine vcall_yld rfl (step i (k, c) g hp2 hI (by omega)) ?_
    rintro r g' ⟨q1, q2, ⟨rfl, q3⟩ | ⟨rfl, q3⟩⟩
    · simp -implicitDefEqProofs (disch := first | omega | decide) only [vwp_skip, vwp_ret, vwp_exit, vwp_lab, vwp_seq, vwp_cond, vwp_block, vwp_scope, vwp_region, vwp_draw, vwp_loop, vcnd_tt, vcnd_ff, vthen_normal, vthen_ret, vthen_exit, vblock_normal, vblock_ret, vblock_exit, vreg_nil, vreg_cons, vhl_nil, vhl_op, vhl_guard, vguard_tt, vguard_ff, vguard_tf, vguard_ft, vguard_no, vact_op, vop_some, vput_some, vput_none, vsame_sm, vunit_sm, vget_nil, vget_cons, vget_some,
    vo_mv, vo_bin, vo_un, vo_ext, vo_len, vo_idxS, vo_idxStr, vo_load, vo_pick, vo_append, vo_bslice, evp, vo_nilc, vo_faddr, vo_store, vo_sliceSl, vo_sliceStr, vo_cInt, vo_copy, vo_mkSlice, vo_box, vo_build, vo_b2s, vb2s_sl, vb2s_nil, vcInt, vnil_ptr, vo_mkMap, vo_mkfn, vo_lookup, vo_mapUpd, vo_del, vdel_some, vo_rangeMap, vo_entry, vfaddr_ptr, beq_self_eq_true, eq_self, decide_true, decide_false, vb_lss, vb_leq, vb_gtr, vb_geq, vb_eql, vb_neq, vb_seql, vb_sneq, vb_beql, vb_bneq, vun_not, vlen_str, vlen_sl, vlen_nil, vext_tup, HX.ev, List.length_cons, List.length_nil, List.append_nil, List.nil_append, List.cons_append, List.set_cons_succ, List.set_cons_zero, List.getElem?_cons_succ, List.getElem?_cons_zero, Option.getD_some, Option.map_some, Option.map_none, List.map_cons, List.map_nil, if_true, Bool.not_true, Bool.not_false, Bool.false_eq_true, if_false, vadd1]
      exact ⟨(i + 1, g'), by simp only; omega, ⟨by simp only; omega, q3, by simp only; omega, fun j h1 h2 => by simp only; rw [q2 j h1 (by omega), hsm j h1 h2]⟩, rfl, by (repeat first | exact Less.nil | refine Less.undef _ ?_ | refine Less.keep _ ?_)⟩
    · simp -implicitDefEqProofs (disch := first | omega | decide) only [vwp_skip, vwp_ret, vwp_exit, vwp_lab, vwp_seq, vwp_cond, vwp_block, vwp_scope, vwp_region, vwp_draw, vwp_loop, vcnd_tt, vcnd_ff, vthen_normal, vthen_ret, vthen_exit, vblock_normal, vblock_ret, vblock_exit, vreg_nil, vreg_cons, vhl_nil, vhl_op, vhl_guard, vguard_tt, vguard_ff, vguard_tf, vguard_ft, vguard_no, vact_op, vop_some, vput_some, vput_none, vsame_sm, vunit_sm, vget_nil, vget_cons, vget_some,
    vo_mv, vo_bin, vo_un, vo_ext, vo_len, vo_idxS, vo_idxStr, vo_load, vo_pick, vo_append, vo_bslice, evp, vo_nilc, vo_faddr, vo_store, vo_sliceSl, vo_sliceStr, vo_cInt, vo_copy, vo_mkSlice, vo_box, vo_build, vo_b2s, vb2s_sl, vb2s_nil, vcInt, vnil_ptr, vo_mkMap, vo_mkfn, vo_lookup, vo_mapUpd, vo_del, vdel_some, vo_rangeMap, vo_entry, vfaddr_ptr, beq_self_eq_true, eq_self, decide_true, decide_false, vb_lss, vb_leq, vb_gtr, vb_geq, vb_eql, vb_neq, vb_seql, vb_sneq, vb_beql, vb_bneq, vun_not, vlen_str, vlen_sl, vlen_nil, vext_tup, HX.ev, List.length_cons, List.length_nil, List.append_nil, List.nil_append, List.cons_append, List.set_cons_succ, List.set_cons_zero, List.getElem?_cons_succ, List.getElem?_cons_zero, Option.getD_some, Option.map_some, Option.map_none, List.map_cons, List.map_nil, if_true, Bool.not_true, Bool.not_false, Bool.false_eq_true, if_false]
      exact ⟨rfl, _, rfl, .inr q3⟩
  · obtain rfl : i = m2.length := by omega
    have hlt : decide (((m2.length : Nat) : Int) < (m2.length : Nat)) = false := by simp
    simp -implicitDefEqProofs (disch := first | omega | decide) only [vwp_skip, vwp_ret, vwp_exit, vwp_lab, vwp_seq, vwp_cond, vwp_block, vwp_scope, vwp_region, vwp_draw, vwp_loop, vcnd_tt, vcnd_ff, vthen_normal, vthen_ret, vthen_exit, vblock_normal, vblock_ret, vblock_exit, vreg_nil, vreg_cons, vhl_nil, vhl_op, vhl_guard, vguard_tt, vguard_ff, vguard_tf, vguard_ft, vguard_no, vact_op, vop_some, vput_some, vput_none, vsame_sm, vunit_sm, vget_nil, vget_cons, vget_some,
    vo_mv, vo_bin, vo_un, vo_ext, vo_len, vo_idxS, vo_idxStr, vo_load, vo_pick, vo_append, vo_bslice, evp, vo_nilc, vo_faddr, vo_store, vo_sliceSl, vo_sliceStr, vo_cInt, vo_copy, vo_mkSlice, vo_box, vo_build, vo_b2s, vb2s_sl, vb2s_nil, vcInt, vnil_ptr, vo_mkMap, vo_mkfn, vo_lookup, vo_mapUpd, vo_del, vdel_some, vo_rangeMap, vo_entry, vfaddr_ptr, beq_self_eq_true, eq_self, decide_true, decide_false, vb_lss, vb_leq, vb_gtr, vb_geq, vb_eql, vb_neq, vb_seql, vb_sneq, vb_beql, vb_bneq, vun_not, vlen_str, vlen_sl, vlen_nil, vext_tup, HX.ev, List.length_cons, List.length_nil, List.append_nil, List.nil_append, List.cons_append, List.set_cons_succ, List.set_cons_zero, List.getElem?_cons_succ, List.getElem?_cons_zero, Option.getD_some, Option.map_some, Option.map_none, List.map_cons, List.map_nil, if_true, Bool.not_true, Bool.not_false, Bool.false_eq_true, if_false, hlt]
    exact ⟨rfl, _, rfl, .inl hI⟩
end R
end Go.Proofs.Ytalcaflkfpiehaa
