/-
  The law NamesLate: the scripts.
-/
import Derived.Test.YtalcaflkfpiehaaK2
namespace Go.Proofs.Ytalcaflkfpiehaa
open Go Go.HL V P2
namespace R
open B (NM cnt putN cutN keys sum BookIs OpsAt ok8 ok11 new11 shownA and_some ops_cut)
set_option maxRecDepth 100000
set_option maxHeartbeats 4000000
set_option linter.unusedSimpArgs false
theorem ok25 : okF Try.prog 25 := ⟨_, Try.func25, by kernel_rfl, by kernel_rfl⟩

theorem ops_fields {hs : HS} {v : HV} {ops : List B.Op} (h : OpsAt hs v ops) {i : Nat} {o : B.Op} (ho : ops[i]? = some o) :
    ∃ b, hindexAddr 4 v (.int .i64 (i : Nat)) = some (.ptr b (i * 4)) ∧ sOk hs 4 v = true ∧ hload none hs (.ptr b (i * 4 + 2)) = some (.str o.name) ∧ hload none hs (.ptr b (i * 4 + 1)) = some (.int .i64 o.kind) := by
  rcases h with ⟨rfl, _⟩ | ⟨h, cap, ro, opn, olds, rfl, hb⟩
  · simp at ho
  · obtain ⟨h1, h2⟩ := ops_cut ho
    have at4 : ∀ j, j < 4 → (ops.flatMap B.Op.cells)[i * 4 + j]? = o.cells[j]? := by
      intro j hj
      rw [← h1, List.getElem?_take, if_pos hj, List.getElem?_drop]
    refine ⟨h, by rw [vidx_some (lt_of_get ho)]; simp, by simp [sOk, hb], ?_, ?_⟩
    · simp only [hload, hb]; rw [at4 2 (by omega)]; rfl
    · simp only [hload, hb]; rw [at4 1 (by omega)]; rfl
theorem add_some (a b : Int) : ∃ z, hbin .add none (.int .i64 a) (.int .i64 b) = some (.int .i64 z) := by
  simp only [hbin, ibin, if_true]
  exact ⟨_, rfl⟩
theorem Stay.trans {own : Nat → Prop} {a b c : HS} (h : Stay own a b) (h' : Stay own b c) : Stay own a c := ⟨Nat.le_trans h.1 h'.1, fun j s cs ro opn olds hj hb => h'.2 _ _ _ _ _ _ hj (h.2 _ _ _ _ _ _ hj hb)⟩
theorem Stay.ops {own : Nat → Prop} {a b : HS} {v : HV} {ops : List B.Op} {n : Nat} (hO : OpsAt a v ops) (ha : a.length ≤ n) (hn : ∀ i, own i → n ≤ i) {c : HS} (hk : Keeps n a c) (h : Stay own c b) : OpsAt b v ops := by
  rcases hO with h' | ⟨h', cap, ro, opn, olds, rfl, hb⟩
  · exact .inl h'
  · have hl := lt_of_get hb
    exact .inr ⟨h', cap, ro, opn, olds, rfl, h.2 _ _ _ _ _ _ (fun ho => by have := hn _ ho; omega) (hk.get (by omega) hb)⟩

theorem vres_cell {fr : List HV} {hs : HS} {t h o : Nat} {v : HV} (h1 : fr[t]? = some (.ptr h o)) (h2 : hload none hs (.ptr h o) = some v) : hres [.cell t none] fr hs = some v := by
  simp only [hres, hresL, hres1, h1, Option.getD_some, h2]
/-- the books behind a script. -/
def runA (z : B.Op → Int) : List B.Op → NM × NM → NM × NM
  | [], p => p
  | o :: r, p => runA z r (turnC (z o) p.1 o.name, turnD (z o) p.2 o.name)

theorem late_round {own : Nat → Prop} {g : HS} {hB hm hD : Nat} {m1 m2 : NM} (H : Both own g hB hm hD m1 m2) (A : Alike m1 m2) (G : B.Good m1) (o : B.Op) (hs1 : sum m1 < 8796093022208) (c : Int) :
    HC Try.prog 24 [.agg [.ptr hB 0, .ptr hD 0], .str o.name, .int .i64 c] g fun r g' => r = .bool true ∧ ∃ m1' m2', Both own g' hB hm hD m1' m2' ∧ Alike m1' m2' ∧ B.Good m1' ∧ sum m1' ≤ sum m1 + 1 ∧ Stay own g g' := by
  refine (turn24 H A G o.name c hs1).mono ?_
  rintro r g' ⟨rfl, H', S⟩
  refine ⟨rfl, _, _, H', ?_, ?_, ?_, S⟩
  all_goals
    unfold turnC
    try unfold turnD
    split
    · first | exact (alike_turn A G o.name false).1 | exact (alike_turn A G o.name false).2.1 | exact (alike_turn A G o.name false).2.2
    · split
      · first | exact (alike_turn A G o.name true).1 | exact (alike_turn A G o.name true).2.1 | exact (alike_turn A G o.name true).2.2
      · first | exact A | exact G | omega
theorem all25 (hs : HS) (h : Nat) : HC Try.prog 25 [.ptr h 0] hs fun v hs' => v = .func (.func 39) [] [.ptr hs.length 0] ∧ hs' = hs ++ [some (.cells 1 [.ptr h 0] false false [])] := by
  have hbo : hbox hs (.ptr h 0) = some (.ptr hs.length 0, hs ++ [some (.cells 1 [.ptr h 0] false false [])]) := rfl
  refine HC.wp mixed Try.func25 c25 ?_
  simp -implicitDefEqProofs (disch := first | omega | decide) only [vwp_skip, vwp_ret, vwp_exit, vwp_lab, vwp_seq, vwp_cond, vwp_block, vwp_scope, vwp_region, vwp_draw, vwp_loop, vwp_range, vcnd_tt, vcnd_ff, vthen_normal, vthen_ret, vthen_exit, vblock_normal, vblock_ret, vblock_exit, vreg_nil, vreg_cons, vhl_nil, vhl_op, vhl_guard, vguard_tt, vguard_ff, vguard_tf, vguard_ft, vguard_no, vact_op, vop_some, vput_some, vput_none, vsame_sm, vunit_sm, vget_nil, vget_cons, vget_some,
    vo_mv, vo_bin, vo_un, vo_ext, vo_len, vo_idxS, vo_idxStr, vo_load, vo_pick, vo_append, vo_bslice, evp, vo_nilc, vo_faddr, vo_store, vo_sliceSl, vo_sliceStr, vo_cInt, vo_copy, vo_mkSlice, vo_box, vo_build, vo_b2s, vb2s_sl, vb2s_nil, vcInt, vnil_ptr, vo_mkMap, vo_mkfn, vo_lookup, vo_mapUpd, vo_del, vdel_some, vo_rangeMap, vo_entry, vfaddr_ptr, beq_self_eq_true, eq_self, decide_true, decide_false, vb_lss, vb_leq, vb_gtr, vb_geq, vb_eql, vb_neq, vb_seql, vb_sneq, vb_beql, vb_bneq, vun_not, vlen_str, vlen_sl, vlen_nil, vext_tup, HX.ev, List.length_cons, List.length_nil, List.append_nil, List.nil_append, List.cons_append, List.set_cons_succ, List.set_cons_zero, List.getElem?_cons_succ, List.getElem?_cons_zero, Option.getD_some, Option.map_some, Option.map_none, List.map_cons, List.map_nil, if_true, Bool.not_true, Bool.not_false, Bool.false_eq_true, if_false, h25, hbo, frame0, List.replicate, Nat.sub]
  exact ⟨rfl, _, rfl, rfl, trivial⟩
theorem RefIs.shrink {own own2 : Nat → Prop} {hs : HS} {hD : Nat} {m : NM} (R : RefIs own hs hD m) (h : ∀ i, i < hs.length → own i → own2 i) : RefIs own2 hs hD m := by
  obtain ⟨o1, vL, b, r⟩ := R
  refine ⟨h _ (lt_of_get b) o1, vL, b, ?_⟩
  rcases r with r | ⟨h1, h', olds, h2, h3, h4, h5, h6⟩
  · exact .inl r
  · have hl := lt_of_get h5
    exact .inr ⟨h1, h', olds, h2, h _ hl h3, h4, h5, fun o ho => ⟨h _ (by have := (h6 o ho).2.2; omega) (h6 o ho).1, (h6 o ho).2⟩⟩
theorem Stay.wide {own own2 : Nat → Prop} {a b : HS} (S : Stay own2 a b) (h : ∀ i, own2 i → own i) : Stay own a b := ⟨S.1, fun j s cs ro opn olds hj hb => S.2 _ _ _ _ _ _ (fun h2 => hj (h _ h2)) hb⟩
theorem Stay.of {own : Nat → Prop} {a b : HS} {n : Nat} (hn : a.length ≤ n) (h : Keeps n a b) : Stay own a b := ⟨by have := h.1; omega, fun _ _ _ _ _ _ _ hb => h.get (by have := lt_of_get hb; omega) hb⟩

/-- what is true between the steps. -/
def LateJ (own : Nat → Prop) (base : HS) (hB hm hD : Nat) (b : Nat) (s : Nat × NM × NM × HS) : Prop :=
  Both own s.2.2.2 hB hm hD s.2.1 s.2.2.1 ∧ Alike s.2.1 s.2.2.1 ∧ B.Good s.2.1 ∧ sum s.2.1 ≤ b + s.1 ∧ Stay own base s.2.2.2

theorem law7 (hs : HS) (v1 v2 : HV) (o1 o2 : List B.Op) (hO1 : OpsAt hs v1 o1) (hO2 : OpsAt hs v2 o2) (hl1 : o1.length < 4398046511104) (hl2 : o2.length < 4398046511104) : HC Try.prog 7 [v1, v2] hs fun r _ => r = .bool true := by
  have hsl1 := hO1.len
  refine HC.wp mixed Try.func7 c7 ?_
  have hbR : hbox hs (.bool false) = some (.ptr hs.length 0, hs ++ [some (.cells 1 [.bool false] false false [])]) := rfl
  obtain ⟨g0, hg0⟩ : ∃ g0, g0 = hs ++ [some (HB.cells 1 [HV.bool false] false false [])] := ⟨_, rfl⟩
  have kR : Keeps hs.length hs g0 := by rw [hg0]; exact Keeps.app (Nat.le_refl _)
  have lR : g0.length = hs.length + 1 := by rw [hg0]; simp
  have gR : g0[hs.length]? = some (some (.cells 1 [.bool false] false false [])) := by rw [hg0]; simp
  rw [← hg0] at hbR
  simp -implicitDefEqProofs (disch := first | omega | decide) only [vwp_skip, vwp_ret, vwp_exit, vwp_lab, vwp_seq, vwp_cond, vwp_block, vwp_scope, vwp_region, vwp_draw, vwp_loop, vwp_range, vcnd_tt, vcnd_ff, vthen_normal, vthen_ret, vthen_exit, vblock_normal, vblock_ret, vblock_exit, vreg_nil, vreg_cons, vhl_nil, vhl_op, vhl_guard, vguard_tt, vguard_ff, vguard_tf, vguard_ft, vguard_no, vact_op, vop_some, vput_some, vput_none, vsame_sm, vunit_sm, vget_nil, vget_cons, vget_some,
    vo_mv, vo_bin, vo_un, vo_ext, vo_len, vo_idxS, vo_idxStr, vo_load, vo_pick, vo_append, vo_bslice, evp, vo_nilc, vo_faddr, vo_store, vo_sliceSl, vo_sliceStr, vo_cInt, vo_copy, vo_mkSlice, vo_box, vo_build, vo_b2s, vb2s_sl, vb2s_nil, vcInt, vnil_ptr, vo_mkMap, vo_mkfn, vo_lookup, vo_mapUpd, vo_del, vdel_some, vo_rangeMap, vo_entry, vfaddr_ptr, beq_self_eq_true, eq_self, decide_true, decide_false, vb_lss, vb_leq, vb_gtr, vb_geq, vb_eql, vb_neq, vb_seql, vb_sneq, vb_beql, vb_bneq, vun_not, vlen_str, vlen_sl, vlen_nil, vext_tup, HX.ev, List.length_cons, List.length_nil, List.append_nil, List.nil_append, List.cons_append, List.set_cons_succ, List.set_cons_zero, List.getElem?_cons_succ, List.getElem?_cons_zero, Option.getD_some, Option.map_some, Option.map_none, List.map_cons, List.map_nil, if_true, Bool.not_true, Bool.not_false, Bool.false_eq_true, if_false, h7, hbR, frame0, List.replicate, Nat.sub]
  refine vcall_of ok8 rfl (shownA g0) ?_
  rintro _ g0 ⟨rfl, rfl⟩
  simp -implicitDefEqProofs (disch := first | omega | decide) only [vwp_skip, vwp_ret, vwp_exit, vwp_lab, vwp_seq, vwp_cond, vwp_block, vwp_scope, vwp_region, vwp_draw, vwp_loop, vwp_range, vcnd_tt, vcnd_ff, vthen_normal, vthen_ret, vthen_exit, vblock_normal, vblock_ret, vblock_exit, vreg_nil, vreg_cons, vhl_nil, vhl_op, vhl_guard, vguard_tt, vguard_ff, vguard_tf, vguard_ft, vguard_no, vact_op, vop_some, vput_some, vput_none, vsame_sm, vunit_sm, vget_nil, vget_cons, vget_some,
    vo_mv, vo_bin, vo_un, vo_ext, vo_len, vo_idxS, vo_idxStr, vo_load, vo_pick, vo_append, vo_bslice, evp, vo_nilc, vo_faddr, vo_store, vo_sliceSl, vo_sliceStr, vo_cInt, vo_copy, vo_mkSlice, vo_box, vo_build, vo_b2s, vb2s_sl, vb2s_nil, vcInt, vnil_ptr, vo_mkMap, vo_mkfn, vo_lookup, vo_mapUpd, vo_del, vdel_some, vo_rangeMap, vo_entry, vfaddr_ptr, beq_self_eq_true, eq_self, decide_true, decide_false, vb_lss, vb_leq, vb_gtr, vb_geq, vb_eql, vb_neq, vb_seql, vb_sneq, vb_beql, vb_bneq, vun_not, vlen_str, vlen_sl, vlen_nil, vext_tup, HX.ev, List.length_cons, List.length_nil, List.append_nil, List.nil_append, List.cons_append, List.set_cons_succ, List.set_cons_zero, List.getElem?_cons_succ, List.getElem?_cons_zero, Option.getD_some, Option.map_some, Option.map_none, List.map_cons, List.map_nil, if_true, Bool.not_true, Bool.not_false, Bool.false_eq_true, if_false]
  refine vcall_of ok11 rfl (new11 (n := g0.length) (Nat.le_refl _)) ?_
  rintro _ g1 ⟨rfl, B1, k1, l1⟩
  simp -implicitDefEqProofs (disch := first | omega | decide) only [vwp_skip, vwp_ret, vwp_exit, vwp_lab, vwp_seq, vwp_cond, vwp_block, vwp_scope, vwp_region, vwp_draw, vwp_loop, vwp_range, vcnd_tt, vcnd_ff, vthen_normal, vthen_ret, vthen_exit, vblock_normal, vblock_ret, vblock_exit, vreg_nil, vreg_cons, vhl_nil, vhl_op, vhl_guard, vguard_tt, vguard_ff, vguard_tf, vguard_ft, vguard_no, vact_op, vop_some, vput_some, vput_none, vsame_sm, vunit_sm, vget_nil, vget_cons, vget_some,
    vo_mv, vo_bin, vo_un, vo_ext, vo_len, vo_idxS, vo_idxStr, vo_load, vo_pick, vo_append, vo_bslice, evp, vo_nilc, vo_faddr, vo_store, vo_sliceSl, vo_sliceStr, vo_cInt, vo_copy, vo_mkSlice, vo_box, vo_build, vo_b2s, vb2s_sl, vb2s_nil, vcInt, vnil_ptr, vo_mkMap, vo_mkfn, vo_lookup, vo_mapUpd, vo_del, vdel_some, vo_rangeMap, vo_entry, vfaddr_ptr, beq_self_eq_true, eq_self, decide_true, decide_false, vb_lss, vb_leq, vb_gtr, vb_geq, vb_eql, vb_neq, vb_seql, vb_sneq, vb_beql, vb_bneq, vun_not, vlen_str, vlen_sl, vlen_nil, vext_tup, HX.ev, List.length_cons, List.length_nil, List.append_nil, List.nil_append, List.cons_append, List.set_cons_succ, List.set_cons_zero, List.getElem?_cons_succ, List.getElem?_cons_zero, Option.getD_some, Option.map_some, Option.map_none, List.map_cons, List.map_nil, if_true, Bool.not_true, Bool.not_false, Bool.false_eq_true, if_false]
  refine vcall_of ok17 rfl (new17 (own := fun i => g1.length ≤ i) (fun i hi => hi)) ?_
  rintro _ g2 ⟨rfl, R2, k2, l2⟩
  have hbu : hbuild [.nilPtr, .nilPtr] [(0, 1, .ptr (g0.length + 1) 0), (1, 1, .ptr g1.length 0)] = some (.agg [.ptr (g0.length + 1) 0, .ptr g1.length 0]) := rfl
  have hbo : hbox g2 (.agg [.nilPtr, .nilPtr]) = some (.ptr g2.length 0, g2 ++ [some (.cells 1 [.nilPtr, .nilPtr] false false [])]) := rfl
  have hst : hstore 2 (g2 ++ [some (.cells 1 [.nilPtr, .nilPtr] false false [])]) (.ptr g2.length 0) (.agg [.ptr (g0.length + 1) 0, .ptr g1.length 0]) = some (g2 ++ [some (.cells 1 [.ptr (g0.length + 1) 0, .ptr g1.length 0] false false [])]) := by
    simp only [hstore, B.get_last']
    rw [if_pos ⟨rfl, rfl, by simp⟩]
    simp [killAll, overw, HV.cells]
  obtain ⟨g4, hg4⟩ : ∃ g4, g4 = g2 ++ [some (HB.cells 1 [HV.ptr (g0.length + 1) 0, HV.ptr g1.length 0] false false [])] := ⟨_, rfl⟩
  have k4 : Keeps g2.length g2 g4 := by rw [hg4]; exact Keeps.app (Nat.le_refl _)
  have l4 : g4.length = g2.length + 1 := by rw [hg4]; simp
  have gP : g4[g2.length]? = some (some (.cells 1 [.ptr (g0.length + 1) 0, .ptr g1.length 0] false false [])) := by rw [hg4]; simp
  rw [← hg4] at hst
  obtain ⟨hB, eB⟩ : ∃ hB, hB = g0.length + 1 := ⟨_, rfl⟩
  obtain ⟨hD, eD⟩ : ∃ hD, hD = g1.length := ⟨_, rfl⟩
  obtain ⟨hP, eP⟩ : ∃ hP, hP = g2.length := ⟨_, rfl⟩
  rw [← eB, ← eD, ← eP] at hst
  rw [← eB, ← eD] at hbu
  rw [← eP] at hbo
  rw [← eB, ← eD, ← eP] at gP
  rw [← eB] at B1
  rw [← eD] at R2
  rw [← eB, ← eD]
  have k04 : Keeps g0.length g0 g4 := k1.trans ((k2.less k1.1).trans (k4.less (by omega)))
  have k14 : Keeps g1.length g1 g4 := k2.trans (k4.less (by omega))
  obtain ⟨hm, b1, M1, n1, n2, n3⟩ := B1
  have hmlt := M1.lt
  obtain ⟨own, hown⟩ : ∃ own : Nat → Prop, own = fun i => g0.length ≤ i ∧ i ≠ hB ∧ i ≠ hm ∧ i ≠ hP := ⟨_, rfl⟩
  have ownlow : ∀ i, own i → g0.length ≤ i := fun i h => by rw [hown] at h; exact h.1
  have nP : ¬ own hP := by rw [hown]; simp
  have H4 : Both own g4 hB hm hD [] [] := by
    refine ⟨k14.get (by have := lt_of_get b1; omega) b1, M1.same (k14.2 hm hmlt), n3, by rw [hown]; simp, by rw [hown]; simp, fun i hi => by rw [hown]; exact ⟨by omega, by omega, by omega, by omega⟩, ?_⟩
    obtain ⟨_, vL, b, r⟩ := R2
    refine ⟨by rw [hown]; exact ⟨by omega, by omega, by omega, by omega⟩, vL, k4.get (by omega) b, ?_⟩
    rcases r with ⟨_, h2 | ⟨h', ro, opn, olds, h2, h3⟩⟩ | ⟨h1, _⟩
    · exact .inl ⟨rfl, .inl h2⟩
    · exact .inl ⟨rfl, .inr ⟨h', ro, opn, olds, h2, k4.get (lt_of_get h3) h3⟩⟩
    · exact absurd rfl h1
  have hnp : hbin .eql (some .ptrN) (.ptr hB 0) .nilPtr = some (.bool false) := rfl
  have pf : ∀ g : HS, Stay own g4 g → hload none g (.ptr hP 0) = some (.ptr hB 0) ∧ hload none g (.ptr hP 1) = some (.ptr hD 0) ∧ hload (some 2) g (.ptr hP 0) = some (.agg [.ptr hB 0, .ptr hD 0]) := fun g S => by
    have := S.2 _ _ _ _ _ _ nP gP
    simp only [hload, this]
    exact ⟨rfl, rfl, rfl⟩
  have S4 : Stay own g4 g4 := ⟨Nat.le_refl _, fun _ _ _ _ _ _ _ h => h⟩
  have kh4 : Keeps hs.length hs g4 := kR.trans (k04.less (by omega))
  have ownh : ∀ i, own i → hs.length ≤ i := fun i h => by have := ownlow i h; omega
  have O1 : ∀ g : HS, Stay own g4 g → OpsAt g v1 o1 := fun g S => S.ops hO1 (Nat.le_refl _) ownh kh4
  have O2 : ∀ g : HS, Stay own g4 g → OpsAt g v2 o2 := fun g S => S.ops hO2 (Nat.le_refl _) ownh kh4
  simp -implicitDefEqProofs (disch := first | omega | decide) only [vwp_skip, vwp_ret, vwp_exit, vwp_lab, vwp_seq, vwp_cond, vwp_block, vwp_scope, vwp_region, vwp_draw, vwp_loop, vwp_range, vcnd_tt, vcnd_ff, vthen_normal, vthen_ret, vthen_exit, vblock_normal, vblock_ret, vblock_exit, vreg_nil, vreg_cons, vhl_nil, vhl_op, vhl_guard, vguard_tt, vguard_ff, vguard_tf, vguard_ft, vguard_no, vact_op, vop_some, vput_some, vput_none, vsame_sm, vunit_sm, vget_nil, vget_cons, vget_some,
    vo_mv, vo_bin, vo_un, vo_ext, vo_len, vo_idxS, vo_idxStr, vo_load, vo_pick, vo_append, vo_bslice, evp, vo_nilc, vo_faddr, vo_store, vo_sliceSl, vo_sliceStr, vo_cInt, vo_copy, vo_mkSlice, vo_box, vo_build, vo_b2s, vb2s_sl, vb2s_nil, vcInt, vnil_ptr, vo_mkMap, vo_mkfn, vo_lookup, vo_mapUpd, vo_del, vdel_some, vo_rangeMap, vo_entry, vfaddr_ptr, beq_self_eq_true, eq_self, decide_true, decide_false, vb_lss, vb_leq, vb_gtr, vb_geq, vb_eql, vb_neq, vb_seql, vb_sneq, vb_beql, vb_bneq, vun_not, vlen_str, vlen_sl, vlen_nil, vext_tup, HX.ev, List.length_cons, List.length_nil, List.append_nil, List.nil_append, List.cons_append, List.set_cons_succ, List.set_cons_zero, List.getElem?_cons_succ, List.getElem?_cons_zero, Option.getD_some, Option.map_some, Option.map_none, List.map_cons, List.map_nil, if_true, Bool.not_true, Bool.not_false, Bool.false_eq_true, if_false, hbu, hbo, hst, (pf g4 S4).1, hnp]
  refine HW.loopS (σ := Nat × NM × NM × HS) mixed (fun s => (v1 :: v2 :: .undef :: .undef :: .ptr hs.length 0 :: .ptr hP 0 :: .int .i64 (s.1 : Nat) :: .undef :: .undef :: .undef :: .undef :: .undef :: .undef :: .undef :: .undef :: .undef :: .undef :: .undef :: .undef :: .undef :: .undef :: .undef :: .undef :: .undef :: .undef :: .undef :: .undef :: .undef :: .undef :: .undef :: .undef :: .undef :: .undef :: .undef :: .undef :: .undef :: .undef :: .undef :: .undef :: .undef :: .undef :: .undef :: .undef :: .undef :: .undef :: .undef :: .undef :: .undef :: .undef :: .undef :: .undef :: .undef :: .undef :: .undef :: .undef :: .undef :: .undef :: .undef :: .undef :: .undef :: .undef :: .undef :: .undef :: .undef :: .undef :: .undef :: .undef :: .undef :: .undef :: .undef :: .undef :: .undef :: .undef :: .undef :: .undef :: .undef :: .undef :: .undef :: .undef :: .undef :: .undef :: .undef :: .undef :: .undef :: .undef :: .undef :: .undef :: .undef :: .undef :: .undef :: .undef :: .undef :: .undef :: .undef :: .undef :: .undef :: .undef :: .undef :: .undef :: .undef :: .undef :: .undef :: [])) (fun s => s.2.2.2) (fun s => o1.length - s.1) (fun s => s.1 ≤ o1.length ∧ LateJ own g4 hB hm hD 0 s)
    (0, [], [], g4) ⟨by simp, H4, ⟨List.Perm.refl _, by simp [Rises, keys]⟩, fun p hp => by simp at hp, by simp [sum], S4⟩ rfl (by (repeat first | exact Less.nil | refine Less.undef _ ?_ | refine Less.keep _ ?_)) ?_
  rintro ⟨i, m1, m2, g⟩ ⟨hi, H, A, G, hsum, S⟩
  simp only at hi H A G hsum S ⊢
  have hlen := (O1 g S).len
  by_cases h : i < o1.length
  · have hlt : decide ((i : Int) < (o1.length : Nat)) = true := by simp; omega
    have hx : o1[i]? = some o1[i] := List.getElem?_eq_getElem h
    obtain ⟨o, ho⟩ : ∃ o, o = o1[i] := ⟨_, rfl⟩
    rw [← ho] at hx
    obtain ⟨b, e1, e2, e3, e4⟩ := ops_fields (O1 g S) hx
    obtain ⟨z, hz⟩ := and_some o.kind 1
    obtain ⟨c, hc⟩ := add_some 1 z
    simp -implicitDefEqProofs (disch := first | omega | decide) only [vwp_skip, vwp_ret, vwp_exit, vwp_lab, vwp_seq, vwp_cond, vwp_block, vwp_scope, vwp_region, vwp_draw, vwp_loop, vwp_range, vcnd_tt, vcnd_ff, vthen_normal, vthen_ret, vthen_exit, vblock_normal, vblock_ret, vblock_exit, vreg_nil, vreg_cons, vhl_nil, vhl_op, vhl_guard, vguard_tt, vguard_ff, vguard_tf, vguard_ft, vguard_no, vact_op, vop_some, vput_some, vput_none, vsame_sm, vunit_sm, vget_nil, vget_cons, vget_some,
    vo_mv, vo_bin, vo_un, vo_ext, vo_len, vo_idxS, vo_idxStr, vo_load, vo_pick, vo_append, vo_bslice, evp, vo_nilc, vo_faddr, vo_store, vo_sliceSl, vo_sliceStr, vo_cInt, vo_copy, vo_mkSlice, vo_box, vo_build, vo_b2s, vb2s_sl, vb2s_nil, vcInt, vnil_ptr, vo_mkMap, vo_mkfn, vo_lookup, vo_mapUpd, vo_del, vdel_some, vo_rangeMap, vo_entry, vfaddr_ptr, beq_self_eq_true, eq_self, decide_true, decide_false, vb_lss, vb_leq, vb_gtr, vb_geq, vb_eql, vb_neq, vb_seql, vb_sneq, vb_beql, vb_bneq, vun_not, vlen_str, vlen_sl, vlen_nil, vext_tup, HX.ev, List.length_cons, List.length_nil, List.append_nil, List.nil_append, List.cons_append, List.set_cons_succ, List.set_cons_zero, List.getElem?_cons_succ, List.getElem?_cons_zero, Option.getD_some, Option.map_some, Option.map_none, List.map_cons, List.map_nil, if_true, Bool.not_true, Bool.not_false, Bool.false_eq_true, if_false, hlen, hlt, (pf g S).2.2, e1, e2, e3, e4, hz, hc]
    refine vcall_of ok24 rfl (late_round H A G o (by omega) c) ?_
    rintro _ g' ⟨rfl, m1', m2', H', A', G', hs', S'⟩
    simp -implicitDefEqProofs (disch := first | omega | decide) only [vwp_skip, vwp_ret, vwp_exit, vwp_lab, vwp_seq, vwp_cond, vwp_block, vwp_scope, vwp_region, vwp_draw, vwp_loop, vwp_range, vcnd_tt, vcnd_ff, vthen_normal, vthen_ret, vthen_exit, vblock_normal, vblock_ret, vblock_exit, vreg_nil, vreg_cons, vhl_nil, vhl_op, vhl_guard, vguard_tt, vguard_ff, vguard_tf, vguard_ft, vguard_no, vact_op, vop_some, vput_some, vput_none, vsame_sm, vunit_sm, vget_nil, vget_cons, vget_some,
    vo_mv, vo_bin, vo_un, vo_ext, vo_len, vo_idxS, vo_idxStr, vo_load, vo_pick, vo_append, vo_bslice, evp, vo_nilc, vo_faddr, vo_store, vo_sliceSl, vo_sliceStr, vo_cInt, vo_copy, vo_mkSlice, vo_box, vo_build, vo_b2s, vb2s_sl, vb2s_nil, vcInt, vnil_ptr, vo_mkMap, vo_mkfn, vo_lookup, vo_mapUpd, vo_del, vdel_some, vo_rangeMap, vo_entry, vfaddr_ptr, beq_self_eq_true, eq_self, decide_true, decide_false, vb_lss, vb_leq, vb_gtr, vb_geq, vb_eql, vb_neq, vb_seql, vb_sneq, vb_beql, vb_bneq, vun_not, vlen_str, vlen_sl, vlen_nil, vext_tup, HX.ev, List.length_cons, List.length_nil, List.append_nil, List.nil_append, List.cons_append, List.set_cons_succ, List.set_cons_zero, List.getElem?_cons_succ, List.getElem?_cons_zero, Option.getD_some, Option.map_some, Option.map_none, List.map_cons, List.map_nil, if_true, Bool.not_true, Bool.not_false, Bool.false_eq_true, if_false, vadd1]
    exact ⟨(i + 1, m1', m2', g'), by simp only; omega, ⟨by simp only; omega, H', A', G', by simp only; omega, S.trans S'⟩, rfl, by (repeat first | exact Less.nil | refine Less.undef _ ?_ | refine Less.keep _ ?_)⟩
  · obtain rfl : i = o1.length := by omega
    have hlt : decide (((o1.length : Nat) : Int) < (o1.length : Nat)) = false := by simp
    simp -implicitDefEqProofs (disch := first | omega | decide) only [vwp_skip, vwp_ret, vwp_exit, vwp_lab, vwp_seq, vwp_cond, vwp_block, vwp_scope, vwp_region, vwp_draw, vwp_loop, vwp_range, vcnd_tt, vcnd_ff, vthen_normal, vthen_ret, vthen_exit, vblock_normal, vblock_ret, vblock_exit, vreg_nil, vreg_cons, vhl_nil, vhl_op, vhl_guard, vguard_tt, vguard_ff, vguard_tf, vguard_ft, vguard_no, vact_op, vop_some, vput_some, vput_none, vsame_sm, vunit_sm, vget_nil, vget_cons, vget_some,
    vo_mv, vo_bin, vo_un, vo_ext, vo_len, vo_idxS, vo_idxStr, vo_load, vo_pick, vo_append, vo_bslice, evp, vo_nilc, vo_faddr, vo_store, vo_sliceSl, vo_sliceStr, vo_cInt, vo_copy, vo_mkSlice, vo_box, vo_build, vo_b2s, vb2s_sl, vb2s_nil, vcInt, vnil_ptr, vo_mkMap, vo_mkfn, vo_lookup, vo_mapUpd, vo_del, vdel_some, vo_rangeMap, vo_entry, vfaddr_ptr, beq_self_eq_true, eq_self, decide_true, decide_false, vb_lss, vb_leq, vb_gtr, vb_geq, vb_eql, vb_neq, vb_seql, vb_sneq, vb_beql, vb_bneq, vun_not, vlen_str, vlen_sl, vlen_nil, vext_tup, HX.ev, List.length_cons, List.length_nil, List.append_nil, List.nil_append, List.cons_append, List.set_cons_succ, List.set_cons_zero, List.getElem?_cons_succ, List.getElem?_cons_zero, Option.getD_some, Option.map_some, Option.map_none, List.map_cons, List.map_nil, if_true, Bool.not_true, Bool.not_false, Bool.false_eq_true, if_false, hlen, hlt, (pf g S).1]
    refine vcall_of ok25 rfl (all25 g hB) ?_
    rintro _ gA ⟨rfl, hgA⟩
    have kA : Keeps g.length g gA := by rw [hgA]; exact Keeps.app (Nat.le_refl _)
    have lA : gA.length = g.length + 1 := by rw [hgA]; simp
    have gC : gA[g.length]? = some (some (.cells 1 [.ptr hB 0] false false [])) := by rw [hgA]; simp
    obtain ⟨hC, eC⟩ : ∃ hC, hC = g.length := ⟨_, rfl⟩
    rw [← eC] at gC ⊢
    obtain ⟨own2, hown2⟩ : ∃ own2 : Nat → Prop, own2 = fun i => own i ∧ i ≠ hC := ⟨_, rfl⟩
    have w2 : ∀ i, own2 i → own i := fun i h => by rw [hown2] at h; exact h.1
    have nC : ¬ own2 hC := by rw [hown2]; simp
    have HA : Both own2 gA hB hm hD m1 m2 := by
      obtain ⟨b1, b2, b3, b4, b5, b6, b7⟩ := H.keep (Nat.le_refl _) kA
      refine ⟨b1, b2, b3, fun h => b4 (w2 _ h), fun h => b5 (w2 _ h), fun i hi => by rw [hown2]; exact ⟨b6 i hi, by omega⟩, ?_⟩
      refine (RefIs.keep (n := g.length) (RefIs.shrink (own2 := own2) H.2.2.2.2.2.2 fun i hi ho => by rw [hown2]; exact ⟨ho, by omega⟩) (Nat.le_refl _) kA)
    have SA : Stay own g4 gA := S.trans (.of (Nat.le_refl _) kA)
    have SAA : Stay own2 gA gA := ⟨Nat.le_refl _, fun _ _ _ _ _ _ _ h => h⟩
    have hnf : hbin .eql (some .func) (.func (.func 39) [] [.ptr hC 0]) .nilFunc = some (.bool false) := rfl
    simp -implicitDefEqProofs (disch := first | omega | decide) only [vwp_skip, vwp_ret, vwp_exit, vwp_lab, vwp_seq, vwp_cond, vwp_block, vwp_scope, vwp_region, vwp_draw, vwp_loop, vwp_range, vcnd_tt, vcnd_ff, vthen_normal, vthen_ret, vthen_exit, vblock_normal, vblock_ret, vblock_exit, vreg_nil, vreg_cons, vhl_nil, vhl_op, vhl_guard, vguard_tt, vguard_ff, vguard_tf, vguard_ft, vguard_no, vact_op, vop_some, vput_some, vput_none, vsame_sm, vunit_sm, vget_nil, vget_cons, vget_some,
    vo_mv, vo_bin, vo_un, vo_ext, vo_len, vo_idxS, vo_idxStr, vo_load, vo_pick, vo_append, vo_bslice, evp, vo_nilc, vo_faddr, vo_store, vo_sliceSl, vo_sliceStr, vo_cInt, vo_copy, vo_mkSlice, vo_box, vo_build, vo_b2s, vb2s_sl, vb2s_nil, vcInt, vnil_ptr, vo_mkMap, vo_mkfn, vo_lookup, vo_mapUpd, vo_del, vdel_some, vo_rangeMap, vo_entry, vfaddr_ptr, beq_self_eq_true, eq_self, decide_true, decide_false, vb_lss, vb_leq, vb_gtr, vb_geq, vb_eql, vb_neq, vb_seql, vb_sneq, vb_beql, vb_bneq, vun_not, vlen_str, vlen_sl, vlen_nil, vext_tup, HX.ev, List.length_cons, List.length_nil, List.append_nil, List.nil_append, List.cons_append, List.set_cons_succ, List.set_cons_zero, List.getElem?_cons_succ, List.getElem?_cons_zero, Option.getD_some, Option.map_some, Option.map_none, List.map_cons, List.map_nil, if_true, Bool.not_true, Bool.not_false, Bool.false_eq_true, if_false, hnf]
    refine HW.loopS (σ := Nat × NM × NM × HS) mixed (fun s => (v1 :: v2 :: .undef :: .undef :: .ptr hs.length 0 :: .ptr hP 0 :: .undef :: (.func (.func 39) [] [.ptr hC 0]) :: .int .i64 (s.1 : Nat) :: .undef :: .undef :: .undef :: .undef :: .undef :: .undef :: .undef :: .undef :: .undef :: .undef :: .undef :: .undef :: .undef :: .undef :: .undef :: .undef :: .undef :: .undef :: .undef :: .undef :: .undef :: .undef :: .undef :: .undef :: .undef :: .undef :: .undef :: .undef :: .undef :: .undef :: .undef :: .undef :: .undef :: .undef :: .undef :: .undef :: .undef :: .undef :: .undef :: .undef :: .undef :: .undef :: .undef :: .undef :: .undef :: .undef :: .undef :: .undef :: .undef :: .undef :: .undef :: .undef :: .undef :: .undef :: .undef :: .undef :: .undef :: .undef :: .undef :: .undef :: .undef :: .undef :: .undef :: .undef :: .undef :: .undef :: .undef :: .undef :: .undef :: .undef :: .undef :: .undef :: .undef :: .undef :: .undef :: .undef :: .undef :: .undef :: .undef :: .undef :: .undef :: .undef :: .undef :: .undef :: .undef :: .undef :: .undef :: .undef :: .undef :: .undef :: .undef :: .undef :: .undef :: [])) (fun s => s.2.2.2) (fun s => o2.length - s.1) (fun s => s.1 ≤ o2.length ∧ LateJ own2 gA hB hm hD o1.length s)
      (0, m1, m2, gA) ⟨by simp, HA, A, G, by simp only; omega, SAA⟩ rfl (by (repeat first | exact Less.nil | refine Less.undef _ ?_ | refine Less.keep _ ?_)) ?_
    rintro ⟨i, m1, m2, g⟩ ⟨hi, H, A, G, hsum, S⟩
    simp only at hi H A G hsum S ⊢
    have SW : Stay own g4 g := SA.trans (S.wide w2)
    have hlen2 := (O2 g SW).len
    by_cases h' : i < o2.length
    · have hlt2 : decide ((i : Int) < (o2.length : Nat)) = true := by simp; omega
      have hx : o2[i]? = some o2[i] := List.getElem?_eq_getElem h'
      obtain ⟨o, ho⟩ : ∃ o, o = o2[i] := ⟨_, rfl⟩
      rw [← ho] at hx
      obtain ⟨b, e1, e2, e3, e4⟩ := ops_fields (O2 g SW) hx
      obtain ⟨z, hz⟩ := and_some o.kind 1
      obtain ⟨c, hc⟩ := add_some 1 z
      simp -implicitDefEqProofs (disch := first | omega | decide) only [vwp_skip, vwp_ret, vwp_exit, vwp_lab, vwp_seq, vwp_cond, vwp_block, vwp_scope, vwp_region, vwp_draw, vwp_loop, vwp_range, vcnd_tt, vcnd_ff, vthen_normal, vthen_ret, vthen_exit, vblock_normal, vblock_ret, vblock_exit, vreg_nil, vreg_cons, vhl_nil, vhl_op, vhl_guard, vguard_tt, vguard_ff, vguard_tf, vguard_ft, vguard_no, vact_op, vop_some, vput_some, vput_none, vsame_sm, vunit_sm, vget_nil, vget_cons, vget_some,
    vo_mv, vo_bin, vo_un, vo_ext, vo_len, vo_idxS, vo_idxStr, vo_load, vo_pick, vo_append, vo_bslice, evp, vo_nilc, vo_faddr, vo_store, vo_sliceSl, vo_sliceStr, vo_cInt, vo_copy, vo_mkSlice, vo_box, vo_build, vo_b2s, vb2s_sl, vb2s_nil, vcInt, vnil_ptr, vo_mkMap, vo_mkfn, vo_lookup, vo_mapUpd, vo_del, vdel_some, vo_rangeMap, vo_entry, vfaddr_ptr, beq_self_eq_true, eq_self, decide_true, decide_false, vb_lss, vb_leq, vb_gtr, vb_geq, vb_eql, vb_neq, vb_seql, vb_sneq, vb_beql, vb_bneq, vun_not, vlen_str, vlen_sl, vlen_nil, vext_tup, HX.ev, List.length_cons, List.length_nil, List.append_nil, List.nil_append, List.cons_append, List.set_cons_succ, List.set_cons_zero, List.getElem?_cons_succ, List.getElem?_cons_zero, Option.getD_some, Option.map_some, Option.map_none, List.map_cons, List.map_nil, if_true, Bool.not_true, Bool.not_false, Bool.false_eq_true, if_false, hlen2, hlt2, (pf g SW).2.2, e1, e2, e3, e4, hz, hc]
      refine vcall_of ok24 rfl (late_round H A G o (by omega) c) ?_
      rintro _ g' ⟨rfl, m1', m2', H', A', G', hs', S'⟩
      simp -implicitDefEqProofs (disch := first | omega | decide) only [vwp_skip, vwp_ret, vwp_exit, vwp_lab, vwp_seq, vwp_cond, vwp_block, vwp_scope, vwp_region, vwp_draw, vwp_loop, vwp_range, vcnd_tt, vcnd_ff, vthen_normal, vthen_ret, vthen_exit, vblock_normal, vblock_ret, vblock_exit, vreg_nil, vreg_cons, vhl_nil, vhl_op, vhl_guard, vguard_tt, vguard_ff, vguard_tf, vguard_ft, vguard_no, vact_op, vop_some, vput_some, vput_none, vsame_sm, vunit_sm, vget_nil, vget_cons, vget_some,
    vo_mv, vo_bin, vo_un, vo_ext, vo_len, vo_idxS, vo_idxStr, vo_load, vo_pick, vo_append, vo_bslice, evp, vo_nilc, vo_faddr, vo_store, vo_sliceSl, vo_sliceStr, vo_cInt, vo_copy, vo_mkSlice, vo_box, vo_build, vo_b2s, vb2s_sl, vb2s_nil, vcInt, vnil_ptr, vo_mkMap, vo_mkfn, vo_lookup, vo_mapUpd, vo_del, vdel_some, vo_rangeMap, vo_entry, vfaddr_ptr, beq_self_eq_true, eq_self, decide_true, decide_false, vb_lss, vb_leq, vb_gtr, vb_geq, vb_eql, vb_neq, vb_seql, vb_sneq, vb_beql, vb_bneq, vun_not, vlen_str, vlen_sl, vlen_nil, vext_tup, HX.ev, List.length_cons, List.length_nil, List.append_nil, List.nil_append, List.cons_append, List.set_cons_succ, List.set_cons_zero, List.getElem?_cons_succ, List.getElem?_cons_zero, Option.getD_some, Option.map_some, Option.map_none, List.map_cons, List.map_nil, if_true, Bool.not_true, Bool.not_false, Bool.false_eq_true, if_false, vadd1]
      exact ⟨(i + 1, m1', m2', g'), by simp only; omega, ⟨by simp only; omega, H', A', G', by simp only; omega, S.trans S'⟩, rfl, by (repeat first | exact Less.nil | refine Less.undef _ ?_ | refine Less.keep _ ?_)⟩
    · obtain rfl : i = o2.length := by omega
      have hlt2 : decide (((o2.length : Nat) : Int) < (o2.length : Nat)) = false := by simp
      have hml : m2.length < 8796093022208 := by
        have h1 := B.len_le_sum G
        have h2 := A.1.length_eq
        omega
      simp -implicitDefEqProofs (disch := first | omega | decide) only [vwp_skip, vwp_ret, vwp_exit, vwp_lab, vwp_seq, vwp_cond, vwp_block, vwp_scope, vwp_region, vwp_draw, vwp_loop, vwp_range, vcnd_tt, vcnd_ff, vthen_normal, vthen_ret, vthen_exit, vblock_normal, vblock_ret, vblock_exit, vreg_nil, vreg_cons, vhl_nil, vhl_op, vhl_guard, vguard_tt, vguard_ff, vguard_tf, vguard_ft, vguard_no, vact_op, vop_some, vput_some, vput_none, vsame_sm, vunit_sm, vget_nil, vget_cons, vget_some,
    vo_mv, vo_bin, vo_un, vo_ext, vo_len, vo_idxS, vo_idxStr, vo_load, vo_pick, vo_append, vo_bslice, evp, vo_nilc, vo_faddr, vo_store, vo_sliceSl, vo_sliceStr, vo_cInt, vo_copy, vo_mkSlice, vo_box, vo_build, vo_b2s, vb2s_sl, vb2s_nil, vcInt, vnil_ptr, vo_mkMap, vo_mkfn, vo_lookup, vo_mapUpd, vo_del, vdel_some, vo_rangeMap, vo_entry, vfaddr_ptr, beq_self_eq_true, eq_self, decide_true, decide_false, vb_lss, vb_leq, vb_gtr, vb_geq, vb_eql, vb_neq, vb_seql, vb_sneq, vb_beql, vb_bneq, vun_not, vlen_str, vlen_sl, vlen_nil, vext_tup, HX.ev, List.length_cons, List.length_nil, List.append_nil, List.nil_append, List.cons_append, List.set_cons_succ, List.set_cons_zero, List.getElem?_cons_succ, List.getElem?_cons_zero, Option.getD_some, Option.map_some, Option.map_none, List.map_cons, List.map_nil, if_true, Bool.not_true, Bool.not_false, Bool.false_eq_true, if_false, hlen2, hlt2, (pf g SW).2.1]
      refine vcall_of ok26 rfl (all26 H.2.2.2.2.2.2 hml) ?_
      rintro want g5 ⟨hW, k5⟩
      have hb9 : hbox g5 .nilSlice = some (.ptr g5.length 0, g5 ++ [some (.cells 1 [.nilSlice] false false [])]) := rfl
      have hw1 : want.one = true ∧ want.cells = [want] := by
        rcases hW with ⟨_, rfl | ⟨_, _, _, rfl⟩⟩ | ⟨_, _, _, _, _, rfl, _⟩ <;> exact ⟨rfl, rfl⟩
      have hs9 := store_at (k := 0) (x := want) (B.get_last' g5 (some (.cells 1 [.nilSlice] false false []))) (by simp) hw1.2 hw1.1
      simp only [List.set_cons_zero, set_last] at hs9
      obtain ⟨g6, eg6⟩ : ∃ g6, g6 = g5 ++ [some (HB.cells 1 [want] false false [])] := ⟨_, rfl⟩
      rw [← eg6] at hs9
      have hb10 : hbox g6 (.int .i64 0) = some (.ptr g6.length 0, g6 ++ [some (.cells 1 [.int .i64 0] false false [])]) := rfl
      have hs10 := store_at (k := 0) (x := .int .i64 0) (B.get_last' g6 (some (.cells 1 [.int .i64 0] false false []))) (by simp) rfl rfl
      simp only [List.set_cons_zero, set_last] at hs10
      obtain ⟨g7, eg7⟩ : ∃ g7, g7 = g6 ++ [some (HB.cells 1 [HV.int .i64 0] false false [])] := ⟨_, rfl⟩
      rw [← eg7] at hs10 hb10
      have k56 : Keeps g5.length g5 g6 := by rw [eg6]; exact Keeps.app (Nat.le_refl _)
      have l6 : g6.length = g5.length + 1 := by rw [eg6]; simp
      have k67 : Keeps g6.length g6 g7 := by rw [eg7]; exact Keeps.app (Nat.le_refl _)
      have l7 : g7.length = g6.length + 1 := by rw [eg7]; simp
      have k5l := k5.1
      have k7 : Keeps g.length g g7 := k5.trans ((k56.less (by omega)).trans (k67.less (by omega)))
      have hgR : g7[hs.length]? = some (some (.cells 1 [.bool false] false false [])) := by
        refine k7.get (by have := SW.1; omega) (SW.2 _ _ _ _ _ _ (fun ho => by have := ownlow _ ho; omega) (k04.get (by omega) gR))
      have hgC : g7[hC]? = some (some (.cells 1 [.ptr hB 0] false false [])) := k7.get (by have := S.1; omega) (S.2 _ _ _ _ _ _ nC gC)
      have hgW : g7[g5.length]? = some (some (.cells 1 [want] false false [])) := k67.get (by omega) (by rw [eg6]; simp)
      have hgN : g7[g6.length]? = some (some (.cells 1 [.int .i64 0] false false [])) := by rw [eg7]; simp
      have hRW : RowsAt g7 want m2 := hW.keep (Nat.le_refl _) ((k56.trans (k67.less (by omega))))
      have hmm : m1.length = m2.length := A.1.length_eq
      simp -implicitDefEqProofs (disch := first | omega | decide) only [vwp_skip, vwp_ret, vwp_exit, vwp_lab, vwp_seq, vwp_cond, vwp_block, vwp_scope, vwp_region, vwp_draw, vwp_loop, vwp_range, vcnd_tt, vcnd_ff, vthen_normal, vthen_ret, vthen_exit, vblock_normal, vblock_ret, vblock_exit, vreg_nil, vreg_cons, vhl_nil, vhl_op, vhl_guard, vguard_tt, vguard_ff, vguard_tf, vguard_ft, vguard_no, vact_op, vop_some, vput_some, vput_none, vsame_sm, vunit_sm, vget_nil, vget_cons, vget_some,
    vo_mv, vo_bin, vo_un, vo_ext, vo_len, vo_idxS, vo_idxStr, vo_load, vo_pick, vo_append, vo_bslice, evp, vo_nilc, vo_faddr, vo_store, vo_sliceSl, vo_sliceStr, vo_cInt, vo_copy, vo_mkSlice, vo_box, vo_build, vo_b2s, vb2s_sl, vb2s_nil, vcInt, vnil_ptr, vo_mkMap, vo_mkfn, vo_lookup, vo_mapUpd, vo_del, vdel_some, vo_rangeMap, vo_entry, vfaddr_ptr, beq_self_eq_true, eq_self, decide_true, decide_false, vb_lss, vb_leq, vb_gtr, vb_geq, vb_eql, vb_neq, vb_seql, vb_sneq, vb_beql, vb_bneq, vun_not, vlen_str, vlen_sl, vlen_nil, vext_tup, HX.ev, List.length_cons, List.length_nil, List.append_nil, List.nil_append, List.cons_append, List.set_cons_succ, List.set_cons_zero, List.getElem?_cons_succ, List.getElem?_cons_zero, Option.getD_some, Option.map_some, Option.map_none, List.map_cons, List.map_nil, if_true, Bool.not_true, Bool.not_false, Bool.false_eq_true, if_false, hb9, hs9, hb10, hs10]
      refine HW.less (fr := (.undef :: .undef :: .undef :: .undef :: .ptr hs.length 0 :: .undef :: .undef :: .undef :: .undef :: .ptr g5.length 0 :: .ptr g6.length 0 :: .undef :: .undef :: .undef :: .undef :: .undef :: .undef :: .undef :: .undef :: .undef :: .undef :: .undef :: .undef :: .undef :: .undef :: .undef :: .undef :: .undef :: .undef :: .undef :: .undef :: .undef :: .undef :: .undef :: .undef :: .undef :: .undef :: .undef :: .undef :: .undef :: .undef :: .undef :: .undef :: .undef :: .undef :: .undef :: .undef :: .undef :: .undef :: .undef :: .undef :: .undef :: .undef :: .undef :: .undef :: .undef :: .undef :: .undef :: .undef :: .undef :: .undef :: .undef :: .undef :: .undef :: .undef :: .undef :: .undef :: .undef :: .undef :: .undef :: .undef :: .func (.func 39) [] [.ptr hC 0] :: .undef :: .undef :: .undef :: .undef :: .undef :: .undef :: .undef :: .undef :: .undef :: .undef :: .undef :: .undef :: .undef :: .undef :: .undef :: .undef :: .undef :: .undef :: .undef :: .undef :: .undef :: .undef :: .undef :: .undef :: .undef :: .undef :: .undef :: .undef :: .undef :: .undef :: [])) ?_ (late_range (hR := hs.length) (hW := g5.length) (hN := g6.length) (hC := hC) (hB := hB) (m1 := m1) (m2 := m2) (want := want) (H.book.keep (Nat.le_refl _) k7) A (by omega) hgC hgN hgW hw1 (by omega) hRW ?_)
      · (repeat first | exact Less.nil | refine Less.undef _ ?_ | refine Less.keep _ ?_)
      intro gz z1 z2
      have hzR : gz[hs.length]? = some (some (.cells 1 [.bool false] false false [])) := by rw [z1 _ (lt_of_get hgR) (by have := SW.1; omega)]; exact hgR
      have hzW : gz[g5.length]? = some (some (.cells 1 [want] false false [])) := by rw [z1 _ (lt_of_get hgW) (by omega)]; exact hgW
      have lzN : hload none gz (.ptr g6.length 0) = some (.int .i64 (m2.length : Nat)) := by simp only [hload, z2]; rfl
      have lzW : hload none gz (.ptr g5.length 0) = some want := by simp only [hload, hzW]; rfl
      have hzl := (hRW.near hgN z1).len
      have hst := store_at (k := 0) (x := .bool true) hzR (by simp) rfl rfl
      simp only [List.set_cons_zero] at hst
      simp -implicitDefEqProofs (disch := first | omega | decide) only [vwp_skip, vwp_ret, vwp_exit, vwp_lab, vwp_seq, vwp_cond, vwp_block, vwp_scope, vwp_region, vwp_draw, vwp_loop, vwp_range, vcnd_tt, vcnd_ff, vthen_normal, vthen_ret, vthen_exit, vblock_normal, vblock_ret, vblock_exit, vreg_nil, vreg_cons, vhl_nil, vhl_op, vhl_guard, vguard_tt, vguard_ff, vguard_tf, vguard_ft, vguard_no, vact_op, vop_some, vput_some, vput_none, vsame_sm, vunit_sm, vget_nil, vget_cons, vget_some,
    vo_mv, vo_bin, vo_un, vo_ext, vo_len, vo_idxS, vo_idxStr, vo_load, vo_pick, vo_append, vo_bslice, evp, vo_nilc, vo_faddr, vo_store, vo_sliceSl, vo_sliceStr, vo_cInt, vo_copy, vo_mkSlice, vo_box, vo_build, vo_b2s, vb2s_sl, vb2s_nil, vcInt, vnil_ptr, vo_mkMap, vo_mkfn, vo_lookup, vo_mapUpd, vo_del, vdel_some, vo_rangeMap, vo_entry, vfaddr_ptr, beq_self_eq_true, eq_self, decide_true, decide_false, vb_lss, vb_leq, vb_gtr, vb_geq, vb_eql, vb_neq, vb_seql, vb_sneq, vb_beql, vb_bneq, vun_not, vlen_str, vlen_sl, vlen_nil, vext_tup, HX.ev, List.length_cons, List.length_nil, List.append_nil, List.nil_append, List.cons_append, List.set_cons_succ, List.set_cons_zero, List.getElem?_cons_succ, List.getElem?_cons_zero, Option.getD_some, Option.map_some, Option.map_none, List.map_cons, List.map_nil, if_true, Bool.not_true, Bool.not_false, Bool.false_eq_true, if_false, lzN, lzW, hzl, hst]
      refine ⟨rfl, .bool true, ?_, rfl⟩
      have : (gz.set hs.length (some (HB.cells 1 [HV.bool true] false false [])))[hs.length]? = some (some (.cells 1 [.bool true] false false [])) := by rw [List.getElem?_set]; simp [lt_of_get hzR]
      have hld : hload none (gz.set hs.length (some (HB.cells 1 [HV.bool true] false false []))) (.ptr hs.length 0) = some (.bool true) := by simp only [hload, this]; rfl
      exact vres_cell rfl hld
end R
end Go.Proofs.Ytalcaflkfpiehaa
