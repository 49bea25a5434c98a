/-
  The law NamesSums: what it answers, at any script that is not too long.
-/
import Derived.Test.YtalcaflkfpiehaaC
namespace Go.Proofs.Ytalcaflkfpiehaa
open Go Go.HL V
namespace B
set_option maxRecDepth 100000
set_option maxHeartbeats 4000000
set_option linter.unusedSimpArgs false

/-- a step of a script. -/
structure Op where
  second : Bool
  kind : Int
  name : List UInt8
  k : Int
def Op.cells (o : Op) : List HV := [.bool o.second, .int .i64 o.kind, .str o.name, .int .i64 o.k]
def OpsAt (hs : HS) (v : HV) (ops : List Op) : Prop := (ops = [] ∧ (v = .nilSlice ∨ ∃ h o c, v = .slice h o 0 c)) ∨ ∃ h cap ro opn olds, v = .slice h 0 ops.length cap ∧ hs[h]? = some (some (.cells 4 (ops.flatMap Op.cells) ro opn olds))
theorem OpsAt.len {hs : HS} {v : HV} {ops : List Op} (h : OpsAt hs v ops) : hlenK hs .slice v = some (.int .i64 (ops.length : Nat)) := by
  rcases h with ⟨rfl, rfl | ⟨h, o, c, rfl⟩⟩ | ⟨h, cap, ro, opn, olds, rfl, hb⟩ <;> rfl
theorem ops_cut : ∀ {ops : List Op} {i : Nat} {o : Op}, ops[i]? = some o → ((ops.flatMap Op.cells).drop (i * 4)).take 4 = o.cells ∧ i * 4 + 4 ≤ (ops.flatMap Op.cells).length
  | [], _, _, h => by simp at h
  | a :: ops, 0, o, h => by
    simp at h; subst h
    simp [Op.cells]
  | a :: ops, i + 1, o, h => by
    obtain ⟨h1, h2⟩ := ops_cut (ops := ops) (i := i) (by simpa using h)
    have hl : (Op.cells a).length = 4 := rfl
    rw [List.flatMap_cons]
    refine ⟨?_, by rw [List.length_append, hl]; omega⟩
    rw [List.drop_append, List.drop_of_length_le (by omega), List.nil_append, hl, show (i + 1) * 4 - 4 = i * 4 by omega]
    exact h1
theorem OpsAt.idx {hs : HS} {v : HV} {ops : List Op} (h : OpsAt hs v ops) {i : Nat} {o : Op} (ho : ops[i]? = some o) : ∃ p, hindexAddr 4 v (.int .i64 (i : Nat)) = some p ∧ sOk hs 4 v = true ∧ hload (some 4) hs p = some (.agg o.cells) := by
  rcases h with ⟨rfl, _⟩ | ⟨h, cap, ro, opn, olds, rfl, hb⟩
  · simp at ho
  · obtain ⟨h1, h2⟩ := ops_cut ho
    refine ⟨_, vidx_some (lt_of_get ho), by simp [sOk, hb], ?_⟩
    simp only [hload, hb, Nat.zero_add]
    rw [if_pos h2, h1]
theorem OpsAt.keep {hs hs' : HS} {v : HV} {ops : List Op} (h : OpsAt hs v ops) {n : Nat} (hn : hs.length ≤ n) (hk : Keeps n hs hs') : OpsAt hs' v ops := by
  rcases h with h | ⟨h, cap, ro, opn, olds, rfl, hb⟩
  · exact .inl h
  · exact .inr ⟨h, cap, ro, opn, olds, rfl, hk.get (by have := lt_of_get hb; omega) hb⟩
theorem get_last' (g : HS) (c : Option HB) : (g ++ [c])[g.length]? = some c := by simp
theorem run8 : ((hcall F X 200 8 [] []).map fun x => HV.eqb x.1 (.bool true)) = some true := by kernel_rfl
theorem box_store (g : HS) (o : Op) : hstore 4 (g ++ [some (.cells 1 [.bool false, .int .i64 0, .str [], .int .i64 0] false false [])]) (.ptr g.length 0) (.agg o.cells) = some (g ++ [some (.cells 1 o.cells false false [])]) := by
  simp only [hstore, get_last']
  rw [if_pos ⟨rfl, rfl, by simp⟩]
  simp [killAll, overw, Op.cells, HV.cells]
theorem and_some (a b : Int) : ∃ z, hbin .and none (.int .i64 a) (.int .i64 b) = some (.int .i64 z) := by
  simp only [hbin, ibin, if_true]
  exact ⟨_, rfl⟩

theorem shownA (hs : HS) : HC Try.prog 8 [] hs fun v hs' => v = .bool true ∧ hs' = hs := HC.frame (R := fun v => v = .bool true) rfl (fun v h => by subst h; rfl) (hcall_bool mixed F_ok X_ok rfl run8)

/-- the sum over the first i names. -/
def part (m : NM) (l : List (List UInt8)) (i : Nat) : Nat := ((l.take i).map (cnt m)).sum
theorem part_next {m : NM} {l : List (List UInt8)} {i : Nat} {k : List UInt8} (h : l[i]? = some k) : part m l (i + 1) = part m l i + cnt m k := by
  unfold part
  rw [List.take_add_one, h]
  simp
theorem cnt_cons_ne {k k' : List UInt8} {v : Nat} {m : NM} (h : k ≠ k') : cnt ((k', v) :: m) k = cnt m k := by
  have : ∀ (m : NM) (i j : Nat), (fndN k m i).map Prod.snd = (fndN k m j).map Prod.snd := by
    intro m
    induction m with
    | nil => intro i j; rfl
    | cons p m ih =>
      intro i j
      obtain ⟨a, b⟩ := p
      unfold fndN
      split
      · rfl
      · exact ih _ _
  unfold cnt
  rw [fndN, if_neg h, this m 1 0]
theorem sum_keys : ∀ (m : NM), (keys m).Nodup → ((keys m).map (cnt m)).sum = sum m
  | [], _ => rfl
  | (k, v) :: m, h => by
    simp only [keys, List.map_cons, List.nodup_cons] at h
    have ih := sum_keys m h.2
    simp only [keys, List.map_cons, List.sum_cons, sum]
    have h1 : cnt ((k, v) :: m) k = v := by simp [cnt, fndN]
    rw [h1]
    congr 1
    rw [← sum, ← ih]
    congr 1
    apply List.map_congr_left
    intro x hx
    exact cnt_cons_ne fun e => h.1 (by rw [← e]; exact hx)
theorem cnt_pos {m : NM} (hg : Good m) {k : List UInt8} (hk : k ∈ keys m) : 0 < cnt m k := by
  unfold cnt
  cases hf : fndN k m 0 with
  | none =>
    obtain ⟨p, hp, rfl⟩ := List.mem_map.1 hk
    exact absurd rfl (fndN_none hf p hp)
  | some p =>
    obtain ⟨i, v⟩ := p
    obtain ⟨j, e1, e2⟩ := fndN_some hf
    exact (hg _ (List.mem_of_getElem? e2)).1
theorem keys_nodup {n : Nat} {hs : HS} {hB : Nat} {m : NM} (B : BookIs n hs hB m) : (keys m).Nodup := by
  obtain ⟨hm, _, M, _⟩ := B
  have := M.nodup
  rwa [show (vals m).map Prod.fst = keys m by simp [vals, keys]] at this
theorem len_le_sum {m : NM} (hg : Good m) : m.length ≤ sum m := by
  induction m with
  | nil => simp [sum]
  | cons p m ih =>
    have h1 := (hg p (by simp)).1
    have h2 := ih fun q hq => hg q (by simp [hq])
    simp [sum] at h2 ⊢
    omega

theorem law5 (hs : HS) (v : HV) (ops : List Op) (hO : OpsAt hs v ops) (hl : ops.length < 4398046511104) : HC Try.prog 5 [v] hs fun r _ => r = .bool true := by
  have hsl := hO.len
  refine HC.wp mixed Try.func5 c5 ?_
  simp -implicitDefEqProofs (disch := first | omega | decide) only [vwp_skip, vwp_ret, vwp_exit, vwp_lab, vwp_seq, vwp_cond, vwp_block, vwp_scope, vwp_region, vwp_draw, vwp_loop, vcnd_tt, vcnd_ff, vthen_normal, vthen_ret, vthen_exit, vblock_normal, vblock_ret, vblock_exit, vreg_nil, vreg_cons, vhl_nil, vhl_op, vhl_guard, vguard_tt, vguard_ff, vguard_tf, vguard_ft, vguard_no, vact_op, vop_some, vput_some, vput_none, vsame_sm, vunit_sm, vget_nil, vget_cons, vget_some,
    vo_mv, vo_bin, vo_un, vo_ext, vo_len, vo_idxS, vo_idxStr, vo_load, vo_pick, vo_append, vo_bslice, evp, vo_nilc, vo_faddr, vo_store, vo_sliceSl, vo_sliceStr, vo_cInt, vo_copy, vo_mkSlice, vo_box, vo_build, vo_b2s, vb2s_sl, vb2s_nil, vcInt, vnil_ptr, vo_mkMap, vo_lookup, vo_mapUpd, vo_del, vdel_some, vo_rangeMap, vo_entry, vfaddr_ptr, beq_self_eq_true, eq_self, decide_true, decide_false, vb_lss, vb_leq, vb_gtr, vb_geq, vb_eql, vb_neq, vb_seql, vb_sneq, vb_beql, vb_bneq, vun_not, vlen_str, vlen_sl, vlen_nil, vext_tup, HX.ev, List.length_cons, List.length_nil, List.append_nil, List.nil_append, List.cons_append, List.set_cons_succ, List.set_cons_zero, List.getElem?_cons_succ, List.getElem?_cons_zero, Option.getD_some, Option.map_some, Option.map_none, List.map_cons, List.map_nil, if_true, Bool.not_true, Bool.not_false, Bool.false_eq_true, if_false, h5, frame0, List.replicate, Nat.sub]
  refine vcall_of ok8 rfl (shownA hs) ?_
  rintro _ hs ⟨rfl, rfl⟩
  simp -implicitDefEqProofs (disch := first | omega | decide) only [vwp_skip, vwp_ret, vwp_exit, vwp_lab, vwp_seq, vwp_cond, vwp_block, vwp_scope, vwp_region, vwp_draw, vwp_loop, vcnd_tt, vcnd_ff, vthen_normal, vthen_ret, vthen_exit, vblock_normal, vblock_ret, vblock_exit, vreg_nil, vreg_cons, vhl_nil, vhl_op, vhl_guard, vguard_tt, vguard_ff, vguard_tf, vguard_ft, vguard_no, vact_op, vop_some, vput_some, vput_none, vsame_sm, vunit_sm, vget_nil, vget_cons, vget_some,
    vo_mv, vo_bin, vo_un, vo_ext, vo_len, vo_idxS, vo_idxStr, vo_load, vo_pick, vo_append, vo_bslice, evp, vo_nilc, vo_faddr, vo_store, vo_sliceSl, vo_sliceStr, vo_cInt, vo_copy, vo_mkSlice, vo_box, vo_build, vo_b2s, vb2s_sl, vb2s_nil, vcInt, vnil_ptr, vo_mkMap, vo_lookup, vo_mapUpd, vo_del, vdel_some, vo_rangeMap, vo_entry, vfaddr_ptr, beq_self_eq_true, eq_self, decide_true, decide_false, vb_lss, vb_leq, vb_gtr, vb_geq, vb_eql, vb_neq, vb_seql, vb_sneq, vb_beql, vb_bneq, vun_not, vlen_str, vlen_sl, vlen_nil, vext_tup, HX.ev, List.length_cons, List.length_nil, List.append_nil, List.nil_append, List.cons_append, List.set_cons_succ, List.set_cons_zero, List.getElem?_cons_succ, List.getElem?_cons_zero, Option.getD_some, Option.map_some, Option.map_none, List.map_cons, List.map_nil, if_true, Bool.not_true, Bool.not_false, Bool.false_eq_true, if_false]
  refine vcall_of ok11 rfl (new11 (n := hs.length) (Nat.le_refl _)) ?_
  rintro _ g0 ⟨rfl, B0, k0, l0⟩
  obtain ⟨hB, hBe⟩ : ∃ hB, hB = hs.length + 1 := ⟨_, rfl⟩
  rw [← hBe] at B0 ⊢
  have hnp : hbin .eql (some .ptrN) (.ptr hB 0) .nilPtr = some (.bool false) := rfl
  simp -implicitDefEqProofs (disch := first | omega | decide) only [vwp_skip, vwp_ret, vwp_exit, vwp_lab, vwp_seq, vwp_cond, vwp_block, vwp_scope, vwp_region, vwp_draw, vwp_loop, vcnd_tt, vcnd_ff, vthen_normal, vthen_ret, vthen_exit, vblock_normal, vblock_ret, vblock_exit, vreg_nil, vreg_cons, vhl_nil, vhl_op, vhl_guard, vguard_tt, vguard_ff, vguard_tf, vguard_ft, vguard_no, vact_op, vop_some, vput_some, vput_none, vsame_sm, vunit_sm, vget_nil, vget_cons, vget_some,
    vo_mv, vo_bin, vo_un, vo_ext, vo_len, vo_idxS, vo_idxStr, vo_load, vo_pick, vo_append, vo_bslice, evp, vo_nilc, vo_faddr, vo_store, vo_sliceSl, vo_sliceStr, vo_cInt, vo_copy, vo_mkSlice, vo_box, vo_build, vo_b2s, vb2s_sl, vb2s_nil, vcInt, vnil_ptr, vo_mkMap, vo_lookup, vo_mapUpd, vo_del, vdel_some, vo_rangeMap, vo_entry, vfaddr_ptr, beq_self_eq_true, eq_self, decide_true, decide_false, vb_lss, vb_leq, vb_gtr, vb_geq, vb_eql, vb_neq, vb_seql, vb_sneq, vb_beql, vb_bneq, vun_not, vlen_str, vlen_sl, vlen_nil, vext_tup, HX.ev, List.length_cons, List.length_nil, List.append_nil, List.nil_append, List.cons_append, List.set_cons_succ, List.set_cons_zero, List.getElem?_cons_succ, List.getElem?_cons_zero, Option.getD_some, Option.map_some, Option.map_none, List.map_cons, List.map_nil, if_true, Bool.not_true, Bool.not_false, Bool.false_eq_true, if_false, hnp]
  refine HW.loopS (σ := Nat × NM × HS) mixed (fun s => (v :: .undef :: .bool false :: .ptr hB 0 :: .int .i64 (sum s.2.1 : Nat) :: .int .i64 (s.1 : Nat) :: .undef :: .undef :: .undef :: .undef :: .undef :: .undef :: .undef :: .undef :: .undef :: .undef :: .undef :: .undef :: .undef :: .undef :: .undef :: .undef :: .undef :: .undef :: .undef :: .undef :: .undef :: .undef :: .undef :: .undef :: .undef :: .undef :: .undef :: .undef :: .undef :: .undef :: .undef :: .undef :: .undef :: .undef :: .undef :: .undef :: .undef :: .undef :: .undef :: .undef :: .undef :: .undef :: .undef :: .undef :: .undef :: .undef :: .undef :: .undef :: .undef :: .undef :: .undef :: .undef :: .undef :: .undef :: .undef :: .undef :: .undef :: .undef :: .undef :: .undef :: .undef :: .undef :: .undef :: .undef :: .undef :: .undef :: .undef :: .undef :: .undef :: .undef :: .undef :: .undef :: .undef :: .undef :: .undef :: .undef :: .undef :: .undef :: .undef :: .undef :: .undef :: .undef :: .undef :: .undef :: .undef :: .undef :: .undef :: .undef :: .undef :: .undef :: .undef :: .undef :: .undef :: .undef :: .undef :: .undef :: .undef :: .undef :: .undef :: .undef :: .undef :: .undef :: .undef :: .undef :: .undef :: .undef :: .undef :: .undef :: .undef :: .undef :: .undef :: .undef :: .undef :: .undef :: .undef :: .undef :: .undef :: .undef :: .undef :: .undef :: .undef :: .undef :: .undef :: .undef :: .undef :: .undef :: .undef :: .undef :: .undef :: .undef :: .undef :: .undef :: .undef :: .undef :: .undef :: .undef :: .undef :: .undef :: .undef :: .undef :: .undef :: .undef :: .undef :: .undef :: .undef :: .undef :: .undef :: .undef :: [])) (fun s => s.2.2) (fun s => ops.length - s.1)
    (fun s => s.1 ≤ ops.length ∧ BookIs hs.length s.2.2 hB s.2.1 ∧ Keeps hs.length hs s.2.2 ∧ Good s.2.1 ∧ sum s.2.1 ≤ s.1)
    (0, [], g0) ⟨by simp, B0, k0, fun p hp => by simp at hp, by simp [sum]⟩ rfl (by (repeat first | exact Less.nil | refine Less.undef _ ?_ | refine Less.keep _ ?_)) ?_
  rintro ⟨i, m, g⟩ ⟨hi, Bm, hk, hG, hs5⟩
  simp only at hi Bm hk hG hs5 ⊢
  have hOg := hO.keep (Nat.le_refl _) hk
  have hlg := hOg.len
  by_cases h : i < ops.length
  · have hx : ops[i]? = some ops[i] := List.getElem?_eq_getElem h
    obtain ⟨o, ho⟩ : ∃ o, o = ops[i] := ⟨_, rfl⟩
    rw [← ho] at hx
    have hlt : decide ((i : Int) < (ops.length : Nat)) = true := by simp; omega
    obtain ⟨p, hp1, hp2, hp3⟩ := hOg.idx hx
    have hbx : hbox g (.agg [.bool false, .int .i64 0, .str [], .int .i64 0]) = some (.ptr g.length 0, g ++ [some (.cells 1 [.bool false, .int .i64 0, .str [], .int .i64 0] false false [])]) := rfl
    have hst := box_store g o
    obtain ⟨H, hH⟩ : ∃ H, H = g.length := ⟨_, rfl⟩
    have hgk : Keeps g.length g (g ++ [some (.cells 1 o.cells false false [])]) := Keeps.app (Nat.le_refl _)
    have hHb : (g ++ [some (.cells 1 o.cells false false [])])[H]? = some (some (.cells 1 o.cells false false [])) := by rw [hH]; simp
    have B2 := Bm.keep (Nat.le_refl _) hgk
    obtain ⟨g2, hg2⟩ : ∃ g2, g2 = g ++ [some (.cells 1 o.cells false false [])] := ⟨_, rfl⟩
    rw [← hg2] at hst hgk hHb B2
    rw [← hH] at hbx hst
    have n2 : hload none g2 (.ptr H 2) = some (.str o.name) := by simp only [hload, hHb]; rfl
    have n1 : hload none g2 (.ptr H 1) = some (.int .i64 o.kind) := by simp only [hload, hHb]; rfl
    obtain ⟨z, hz⟩ := and_some o.kind 1
    have hcl := cnt_le m o.name
    have hk2 : Keeps hs.length hs g2 := hk.trans (hgk.less hk.1)
    simp -implicitDefEqProofs (disch := first | omega | decide) only [vwp_skip, vwp_ret, vwp_exit, vwp_lab, vwp_seq, vwp_cond, vwp_block, vwp_scope, vwp_region, vwp_draw, vwp_loop, vcnd_tt, vcnd_ff, vthen_normal, vthen_ret, vthen_exit, vblock_normal, vblock_ret, vblock_exit, vreg_nil, vreg_cons, vhl_nil, vhl_op, vhl_guard, vguard_tt, vguard_ff, vguard_tf, vguard_ft, vguard_no, vact_op, vop_some, vput_some, vput_none, vsame_sm, vunit_sm, vget_nil, vget_cons, vget_some,
    vo_mv, vo_bin, vo_un, vo_ext, vo_len, vo_idxS, vo_idxStr, vo_load, vo_pick, vo_append, vo_bslice, evp, vo_nilc, vo_faddr, vo_store, vo_sliceSl, vo_sliceStr, vo_cInt, vo_copy, vo_mkSlice, vo_box, vo_build, vo_b2s, vb2s_sl, vb2s_nil, vcInt, vnil_ptr, vo_mkMap, vo_lookup, vo_mapUpd, vo_del, vdel_some, vo_rangeMap, vo_entry, vfaddr_ptr, beq_self_eq_true, eq_self, decide_true, decide_false, vb_lss, vb_leq, vb_gtr, vb_geq, vb_eql, vb_neq, vb_seql, vb_sneq, vb_beql, vb_bneq, vun_not, vlen_str, vlen_sl, vlen_nil, vext_tup, HX.ev, List.length_cons, List.length_nil, List.append_nil, List.nil_append, List.cons_append, List.set_cons_succ, List.set_cons_zero, List.getElem?_cons_succ, List.getElem?_cons_zero, Option.getD_some, Option.map_some, Option.map_none, List.map_cons, List.map_nil, if_true, Bool.not_true, Bool.not_false, Bool.false_eq_true, if_false, hlt, hlg, hp1, hp2, hp3, hbx, hst, n2]
    refine vcall_of ok12 rfl (count12 B2 o.name) ?_
    rintro _ g2 ⟨rfl, rfl⟩
    obtain ⟨bz, hbz⟩ := exB (decide (z = 0))
    cases bz
    · -- drop
      simp -implicitDefEqProofs (disch := first | omega | decide) only [vwp_skip, vwp_ret, vwp_exit, vwp_lab, vwp_seq, vwp_cond, vwp_block, vwp_scope, vwp_region, vwp_draw, vwp_loop, vcnd_tt, vcnd_ff, vthen_normal, vthen_ret, vthen_exit, vblock_normal, vblock_ret, vblock_exit, vreg_nil, vreg_cons, vhl_nil, vhl_op, vhl_guard, vguard_tt, vguard_ff, vguard_tf, vguard_ft, vguard_no, vact_op, vop_some, vput_some, vput_none, vsame_sm, vunit_sm, vget_nil, vget_cons, vget_some,
    vo_mv, vo_bin, vo_un, vo_ext, vo_len, vo_idxS, vo_idxStr, vo_load, vo_pick, vo_append, vo_bslice, evp, vo_nilc, vo_faddr, vo_store, vo_sliceSl, vo_sliceStr, vo_cInt, vo_copy, vo_mkSlice, vo_box, vo_build, vo_b2s, vb2s_sl, vb2s_nil, vcInt, vnil_ptr, vo_mkMap, vo_lookup, vo_mapUpd, vo_del, vdel_some, vo_rangeMap, vo_entry, vfaddr_ptr, beq_self_eq_true, eq_self, decide_true, decide_false, vb_lss, vb_leq, vb_gtr, vb_geq, vb_eql, vb_neq, vb_seql, vb_sneq, vb_beql, vb_bneq, vun_not, vlen_str, vlen_sl, vlen_nil, vext_tup, HX.ev, List.length_cons, List.length_nil, List.append_nil, List.nil_append, List.cons_append, List.set_cons_succ, List.set_cons_zero, List.getElem?_cons_succ, List.getElem?_cons_zero, Option.getD_some, Option.map_some, Option.map_none, List.map_cons, List.map_nil, if_true, Bool.not_true, Bool.not_false, Bool.false_eq_true, if_false, n1, n2, hz, hbz]
      refine vcall_of ok14 rfl (drop14 B2 hk2.1 o.name (by omega)) ?_
      rintro _ g3 ⟨rfl, B3, hk3, hl3, hc3⟩
      by_cases c0 : cnt m o.name = 0
      · have d1 : decide (cnt m o.name ≠ 0) = false := by simp [c0]
        have d2 : decide ((0 : Int) < (cnt m o.name : Nat)) = false := by simp [c0]
        have d3 : decide (((cnt m o.name - 1 : Nat) : Int) = 0) = true := by simp [c0]
        rw [if_pos c0] at B3
        rw [d1]
        simp -implicitDefEqProofs (disch := first | omega | decide) only [vwp_skip, vwp_ret, vwp_exit, vwp_lab, vwp_seq, vwp_cond, vwp_block, vwp_scope, vwp_region, vwp_draw, vwp_loop, vcnd_tt, vcnd_ff, vthen_normal, vthen_ret, vthen_exit, vblock_normal, vblock_ret, vblock_exit, vreg_nil, vreg_cons, vhl_nil, vhl_op, vhl_guard, vguard_tt, vguard_ff, vguard_tf, vguard_ft, vguard_no, vact_op, vop_some, vput_some, vput_none, vsame_sm, vunit_sm, vget_nil, vget_cons, vget_some,
    vo_mv, vo_bin, vo_un, vo_ext, vo_len, vo_idxS, vo_idxStr, vo_load, vo_pick, vo_append, vo_bslice, evp, vo_nilc, vo_faddr, vo_store, vo_sliceSl, vo_sliceStr, vo_cInt, vo_copy, vo_mkSlice, vo_box, vo_build, vo_b2s, vb2s_sl, vb2s_nil, vcInt, vnil_ptr, vo_mkMap, vo_lookup, vo_mapUpd, vo_del, vdel_some, vo_rangeMap, vo_entry, vfaddr_ptr, beq_self_eq_true, eq_self, decide_true, decide_false, vb_lss, vb_leq, vb_gtr, vb_geq, vb_eql, vb_neq, vb_seql, vb_sneq, vb_beql, vb_bneq, vun_not, vlen_str, vlen_sl, vlen_nil, vext_tup, HX.ev, List.length_cons, List.length_nil, List.append_nil, List.nil_append, List.cons_append, List.set_cons_succ, List.set_cons_zero, List.getElem?_cons_succ, List.getElem?_cons_zero, Option.getD_some, Option.map_some, Option.map_none, List.map_cons, List.map_nil, if_true, Bool.not_true, Bool.not_false, Bool.false_eq_true, if_false, d2, d3, vadd1]
        exact ⟨(i + 1, m, g3), by simp only; omega, ⟨by simp only; omega, B3, hk2.trans hk3, hG, by simp only; omega⟩, rfl, by (repeat first | exact Less.nil | refine Less.undef _ ?_ | refine Less.keep _ ?_)⟩
      · have d1 : decide (cnt m o.name ≠ 0) = true := by simp [c0]
        have d2 : decide ((0 : Int) < (cnt m o.name : Nat)) = true := by simp; omega
        rw [if_neg c0] at B3
        rw [d1]
        simp -implicitDefEqProofs (disch := first | omega | decide) only [vwp_skip, vwp_ret, vwp_exit, vwp_lab, vwp_seq, vwp_cond, vwp_block, vwp_scope, vwp_region, vwp_draw, vwp_loop, vcnd_tt, vcnd_ff, vthen_normal, vthen_ret, vthen_exit, vblock_normal, vblock_ret, vblock_exit, vreg_nil, vreg_cons, vhl_nil, vhl_op, vhl_guard, vguard_tt, vguard_ff, vguard_tf, vguard_ft, vguard_no, vact_op, vop_some, vput_some, vput_none, vsame_sm, vunit_sm, vget_nil, vget_cons, vget_some,
    vo_mv, vo_bin, vo_un, vo_ext, vo_len, vo_idxS, vo_idxStr, vo_load, vo_pick, vo_append, vo_bslice, evp, vo_nilc, vo_faddr, vo_store, vo_sliceSl, vo_sliceStr, vo_cInt, vo_copy, vo_mkSlice, vo_box, vo_build, vo_b2s, vb2s_sl, vb2s_nil, vcInt, vnil_ptr, vo_mkMap, vo_lookup, vo_mapUpd, vo_del, vdel_some, vo_rangeMap, vo_entry, vfaddr_ptr, beq_self_eq_true, eq_self, decide_true, decide_false, vb_lss, vb_leq, vb_gtr, vb_geq, vb_eql, vb_neq, vb_seql, vb_sneq, vb_beql, vb_bneq, vun_not, vlen_str, vlen_sl, vlen_nil, vext_tup, HX.ev, List.length_cons, List.length_nil, List.append_nil, List.nil_append, List.cons_append, List.set_cons_succ, List.set_cons_zero, List.getElem?_cons_succ, List.getElem?_cons_zero, Option.getD_some, Option.map_some, Option.map_none, List.map_cons, List.map_nil, if_true, Bool.not_true, Bool.not_false, Bool.false_eq_true, if_false, d2, vsub1, vadd1]
        have hsum : sum (if cnt m o.name = 1 then cutN m o.name else putN m o.name (cnt m o.name - 1)) = sum m - 1 := by
          split
          · have := sum_cut m o.name; omega
          · have := sum_put m o.name (cnt m o.name - 1); omega
        refine ⟨(i + 1, (if cnt m o.name = 1 then cutN m o.name else putN m o.name (cnt m o.name - 1)), g3), by simp only; omega, ⟨by simp only; omega, B3, hk2.trans hk3, ?_, by simp only [hsum]; omega⟩, rfl, ?_⟩
        · simp only
          split
          · exact hG.cut _
          · exact hG.put (by omega) (hG.valid c0)
        · simp only [hsum]
          (repeat first | exact Less.nil | refine Less.undef _ ?_ | refine Less.keep _ ?_)
    · -- hold
      simp -implicitDefEqProofs (disch := first | omega | decide) only [vwp_skip, vwp_ret, vwp_exit, vwp_lab, vwp_seq, vwp_cond, vwp_block, vwp_scope, vwp_region, vwp_draw, vwp_loop, vcnd_tt, vcnd_ff, vthen_normal, vthen_ret, vthen_exit, vblock_normal, vblock_ret, vblock_exit, vreg_nil, vreg_cons, vhl_nil, vhl_op, vhl_guard, vguard_tt, vguard_ff, vguard_tf, vguard_ft, vguard_no, vact_op, vop_some, vput_some, vput_none, vsame_sm, vunit_sm, vget_nil, vget_cons, vget_some,
    vo_mv, vo_bin, vo_un, vo_ext, vo_len, vo_idxS, vo_idxStr, vo_load, vo_pick, vo_append, vo_bslice, evp, vo_nilc, vo_faddr, vo_store, vo_sliceSl, vo_sliceStr, vo_cInt, vo_copy, vo_mkSlice, vo_box, vo_build, vo_b2s, vb2s_sl, vb2s_nil, vcInt, vnil_ptr, vo_mkMap, vo_lookup, vo_mapUpd, vo_del, vdel_some, vo_rangeMap, vo_entry, vfaddr_ptr, beq_self_eq_true, eq_self, decide_true, decide_false, vb_lss, vb_leq, vb_gtr, vb_geq, vb_eql, vb_neq, vb_seql, vb_sneq, vb_beql, vb_bneq, vun_not, vlen_str, vlen_sl, vlen_nil, vext_tup, HX.ev, List.length_cons, List.length_nil, List.append_nil, List.nil_append, List.cons_append, List.set_cons_succ, List.set_cons_zero, List.getElem?_cons_succ, List.getElem?_cons_zero, Option.getD_some, Option.map_some, Option.map_none, List.map_cons, List.map_nil, if_true, Bool.not_true, Bool.not_false, Bool.false_eq_true, if_false, n1, n2, hz, hbz]
      refine vcall_of ok13 rfl (hold13 B2 hk2.1 o.name (by omega)) ?_
      rintro _ g3 ⟨rfl, B3, hk3, hl3, hc3⟩
      have n3 : hload none g3 (.ptr H 2) = some (.str o.name) := by
        simp only [hload, hc3 _ _ _ _ _ _ hHb]; rfl
      simp -implicitDefEqProofs (disch := first | omega | decide) only [vwp_skip, vwp_ret, vwp_exit, vwp_lab, vwp_seq, vwp_cond, vwp_block, vwp_scope, vwp_region, vwp_draw, vwp_loop, vcnd_tt, vcnd_ff, vthen_normal, vthen_ret, vthen_exit, vblock_normal, vblock_ret, vblock_exit, vreg_nil, vreg_cons, vhl_nil, vhl_op, vhl_guard, vguard_tt, vguard_ff, vguard_tf, vguard_ft, vguard_no, vact_op, vop_some, vput_some, vput_none, vsame_sm, vunit_sm, vget_nil, vget_cons, vget_some,
    vo_mv, vo_bin, vo_un, vo_ext, vo_len, vo_idxS, vo_idxStr, vo_load, vo_pick, vo_append, vo_bslice, evp, vo_nilc, vo_faddr, vo_store, vo_sliceSl, vo_sliceStr, vo_cInt, vo_copy, vo_mkSlice, vo_box, vo_build, vo_b2s, vb2s_sl, vb2s_nil, vcInt, vnil_ptr, vo_mkMap, vo_lookup, vo_mapUpd, vo_del, vdel_some, vo_rangeMap, vo_entry, vfaddr_ptr, beq_self_eq_true, eq_self, decide_true, decide_false, vb_lss, vb_leq, vb_gtr, vb_geq, vb_eql, vb_neq, vb_seql, vb_sneq, vb_beql, vb_bneq, vun_not, vlen_str, vlen_sl, vlen_nil, vext_tup, HX.ev, List.length_cons, List.length_nil, List.append_nil, List.nil_append, List.cons_append, List.set_cons_succ, List.set_cons_zero, List.getElem?_cons_succ, List.getElem?_cons_zero, Option.getD_some, Option.map_some, Option.map_none, List.map_cons, List.map_nil, if_true, Bool.not_true, Bool.not_false, Bool.false_eq_true, if_false, n3]
      refine vcall_of ok9 rfl (valid o.name g3) ?_
      rintro _ g3 ⟨rfl, rfl⟩
      cases hv : validL o.name
      · have c0 : cnt m o.name = 0 := by
          cases hc : cnt m o.name with
          | zero => rfl
          | succ => exact absurd (hG.valid (by rw [hc]; omega)) (by rw [hv]; simp)
        rw [hv] at B3
        have d0 : decide (((cnt m o.name : Nat) : Int) = 0) = true := by simp [c0]
        simp only [Bool.false_eq_true, if_false] at B3 ⊢
        have dz : decide (((0 : Nat) : Int) = 0) = true := rfl
        have d50 : decide ((50 : Int) = 0) = false := rfl
        simp -implicitDefEqProofs (disch := first | omega | decide) only [vwp_skip, vwp_ret, vwp_exit, vwp_lab, vwp_seq, vwp_cond, vwp_block, vwp_scope, vwp_region, vwp_draw, vwp_loop, vcnd_tt, vcnd_ff, vthen_normal, vthen_ret, vthen_exit, vblock_normal, vblock_ret, vblock_exit, vreg_nil, vreg_cons, vhl_nil, vhl_op, vhl_guard, vguard_tt, vguard_ff, vguard_tf, vguard_ft, vguard_no, vact_op, vop_some, vput_some, vput_none, vsame_sm, vunit_sm, vget_nil, vget_cons, vget_some,
    vo_mv, vo_bin, vo_un, vo_ext, vo_len, vo_idxS, vo_idxStr, vo_load, vo_pick, vo_append, vo_bslice, evp, vo_nilc, vo_faddr, vo_store, vo_sliceSl, vo_sliceStr, vo_cInt, vo_copy, vo_mkSlice, vo_box, vo_build, vo_b2s, vb2s_sl, vb2s_nil, vcInt, vnil_ptr, vo_mkMap, vo_lookup, vo_mapUpd, vo_del, vdel_some, vo_rangeMap, vo_entry, vfaddr_ptr, beq_self_eq_true, eq_self, decide_true, decide_false, vb_lss, vb_leq, vb_gtr, vb_geq, vb_eql, vb_neq, vb_seql, vb_sneq, vb_beql, vb_bneq, vun_not, vlen_str, vlen_sl, vlen_nil, vext_tup, HX.ev, List.length_cons, List.length_nil, List.append_nil, List.nil_append, List.cons_append, List.set_cons_succ, List.set_cons_zero, List.getElem?_cons_succ, List.getElem?_cons_zero, Option.getD_some, Option.map_some, Option.map_none, List.map_cons, List.map_nil, if_true, Bool.not_true, Bool.not_false, Bool.false_eq_true, if_false, d0, dz, d50, vadd1]
        exact ⟨(i + 1, m, g3), by simp only; omega, ⟨by simp only; omega, B3, hk2.trans hk3, hG, by simp only; omega⟩, rfl, by (repeat first | exact Less.nil | refine Less.undef _ ?_ | refine Less.keep _ ?_)⟩
      · rw [hv] at B3
        simp only [if_true] at B3 ⊢
        simp -implicitDefEqProofs (disch := first | omega | decide) only [vwp_skip, vwp_ret, vwp_exit, vwp_lab, vwp_seq, vwp_cond, vwp_block, vwp_scope, vwp_region, vwp_draw, vwp_loop, vcnd_tt, vcnd_ff, vthen_normal, vthen_ret, vthen_exit, vblock_normal, vblock_ret, vblock_exit, vreg_nil, vreg_cons, vhl_nil, vhl_op, vhl_guard, vguard_tt, vguard_ff, vguard_tf, vguard_ft, vguard_no, vact_op, vop_some, vput_some, vput_none, vsame_sm, vunit_sm, vget_nil, vget_cons, vget_some,
    vo_mv, vo_bin, vo_un, vo_ext, vo_len, vo_idxS, vo_idxStr, vo_load, vo_pick, vo_append, vo_bslice, evp, vo_nilc, vo_faddr, vo_store, vo_sliceSl, vo_sliceStr, vo_cInt, vo_copy, vo_mkSlice, vo_box, vo_build, vo_b2s, vb2s_sl, vb2s_nil, vcInt, vnil_ptr, vo_mkMap, vo_lookup, vo_mapUpd, vo_del, vdel_some, vo_rangeMap, vo_entry, vfaddr_ptr, beq_self_eq_true, eq_self, decide_true, decide_false, vb_lss, vb_leq, vb_gtr, vb_geq, vb_eql, vb_neq, vb_seql, vb_sneq, vb_beql, vb_bneq, vun_not, vlen_str, vlen_sl, vlen_nil, vext_tup, HX.ev, List.length_cons, List.length_nil, List.append_nil, List.nil_append, List.cons_append, List.set_cons_succ, List.set_cons_zero, List.getElem?_cons_succ, List.getElem?_cons_zero, Option.getD_some, Option.map_some, Option.map_none, List.map_cons, List.map_nil, if_true, Bool.not_true, Bool.not_false, Bool.false_eq_true, if_false, vadd1]
        have hsum : sum (putN m o.name (cnt m o.name + 1)) = sum m + 1 := by have := sum_put m o.name (cnt m o.name + 1); omega
        refine ⟨(i + 1, putN m o.name (cnt m o.name + 1), g3), by simp only; omega, ⟨by simp only; omega, B3, hk2.trans hk3, hG.put (by omega) hv, by simp only; omega⟩, rfl, ?_⟩
        simp only [hsum]
        (repeat first | exact Less.nil | refine Less.undef _ ?_ | refine Less.keep _ ?_)
  · obtain rfl : i = ops.length := by omega
    have hlt : decide (((ops.length : Nat) : Int) < (ops.length : Nat)) = false := by simp
    have hms := len_le_sum hG
    have hnd := keys_nodup Bm
    simp -implicitDefEqProofs (disch := first | omega | decide) only [vwp_skip, vwp_ret, vwp_exit, vwp_lab, vwp_seq, vwp_cond, vwp_block, vwp_scope, vwp_region, vwp_draw, vwp_loop, vcnd_tt, vcnd_ff, vthen_normal, vthen_ret, vthen_exit, vblock_normal, vblock_ret, vblock_exit, vreg_nil, vreg_cons, vhl_nil, vhl_op, vhl_guard, vguard_tt, vguard_ff, vguard_tf, vguard_ft, vguard_no, vact_op, vop_some, vput_some, vput_none, vsame_sm, vunit_sm, vget_nil, vget_cons, vget_some,
    vo_mv, vo_bin, vo_un, vo_ext, vo_len, vo_idxS, vo_idxStr, vo_load, vo_pick, vo_append, vo_bslice, evp, vo_nilc, vo_faddr, vo_store, vo_sliceSl, vo_sliceStr, vo_cInt, vo_copy, vo_mkSlice, vo_box, vo_build, vo_b2s, vb2s_sl, vb2s_nil, vcInt, vnil_ptr, vo_mkMap, vo_lookup, vo_mapUpd, vo_del, vdel_some, vo_rangeMap, vo_entry, vfaddr_ptr, beq_self_eq_true, eq_self, decide_true, decide_false, vb_lss, vb_leq, vb_gtr, vb_geq, vb_eql, vb_neq, vb_seql, vb_sneq, vb_beql, vb_bneq, vun_not, vlen_str, vlen_sl, vlen_nil, vext_tup, HX.ev, List.length_cons, List.length_nil, List.append_nil, List.nil_append, List.cons_append, List.set_cons_succ, List.set_cons_zero, List.getElem?_cons_succ, List.getElem?_cons_zero, Option.getD_some, Option.map_some, Option.map_none, List.map_cons, List.map_nil, if_true, Bool.not_true, Bool.not_false, Bool.false_eq_true, if_false, hlt, hlg]
    refine vcall_of ok15 rfl (names15 Bm hk.1 (by omega)) ?_
    rintro l g2 ⟨⟨ks, hperm, hS⟩, B2, hk2⟩
    simp -implicitDefEqProofs (disch := first | omega | decide) only [vwp_skip, vwp_ret, vwp_exit, vwp_lab, vwp_seq, vwp_cond, vwp_block, vwp_scope, vwp_region, vwp_draw, vwp_loop, vcnd_tt, vcnd_ff, vthen_normal, vthen_ret, vthen_exit, vblock_normal, vblock_ret, vblock_exit, vreg_nil, vreg_cons, vhl_nil, vhl_op, vhl_guard, vguard_tt, vguard_ff, vguard_tf, vguard_ft, vguard_no, vact_op, vop_some, vput_some, vput_none, vsame_sm, vunit_sm, vget_nil, vget_cons, vget_some,
    vo_mv, vo_bin, vo_un, vo_ext, vo_len, vo_idxS, vo_idxStr, vo_load, vo_pick, vo_append, vo_bslice, evp, vo_nilc, vo_faddr, vo_store, vo_sliceSl, vo_sliceStr, vo_cInt, vo_copy, vo_mkSlice, vo_box, vo_build, vo_b2s, vb2s_sl, vb2s_nil, vcInt, vnil_ptr, vo_mkMap, vo_lookup, vo_mapUpd, vo_del, vdel_some, vo_rangeMap, vo_entry, vfaddr_ptr, beq_self_eq_true, eq_self, decide_true, decide_false, vb_lss, vb_leq, vb_gtr, vb_geq, vb_eql, vb_neq, vb_seql, vb_sneq, vb_beql, vb_bneq, vun_not, vlen_str, vlen_sl, vlen_nil, vext_tup, HX.ev, List.length_cons, List.length_nil, List.append_nil, List.nil_append, List.cons_append, List.set_cons_succ, List.set_cons_zero, List.getElem?_cons_succ, List.getElem?_cons_zero, Option.getD_some, Option.map_some, Option.map_none, List.map_cons, List.map_nil, if_true, Bool.not_true, Bool.not_false, Bool.false_eq_true, if_false]
    have hkn : ks.Nodup := hperm.nodup_iff.2 hnd
    have hsp : (sorted ks).Perm (keys m) := (sorted_perm ks).trans hperm
    have hlen : (sorted ks).length = m.length := by rw [hsp.length_eq]; simp [keys]
    have hSl := hS.len
    rw [List.length_map] at hSl
    have htot : part m (sorted ks) (sorted ks).length = sum m := by
      unfold part
      rw [List.take_length, ← sum_keys m hnd]
      exact (hsp.map (cnt m)).sum_nat
    have hle : ∀ i, part m (sorted ks) i ≤ sum m := by
      intro i
      rw [← htot]
      unfold part
      rw [List.take_length]
      have : ((sorted ks).map (cnt m)).sum = (((sorted ks).take i).map (cnt m)).sum + (((sorted ks).drop i).map (cnt m)).sum := by
        rw [← List.sum_append, ← List.map_append, List.take_append_drop]
      omega
    refine HW.loopS mixed (fun i : Nat => (v :: .undef :: .bool false :: .ptr hB 0 :: .int .i64 (sum m : Nat) :: .undef :: .undef :: .undef :: .undef :: .undef :: .undef :: .undef :: .undef :: l :: .int .i64 (part m (sorted ks) i : Nat) :: .int .i64 (i : Nat) :: .undef :: .undef :: .undef :: .undef :: .undef :: .undef :: .undef :: .undef :: .undef :: .undef :: .undef :: .undef :: .undef :: .undef :: .undef :: .undef :: .undef :: .undef :: .undef :: .undef :: .undef :: .undef :: .undef :: .undef :: .undef :: .undef :: .undef :: .undef :: .undef :: .undef :: .undef :: .undef :: .undef :: .undef :: .undef :: .undef :: .undef :: .undef :: .undef :: .undef :: .undef :: .undef :: .undef :: .undef :: .undef :: .undef :: .undef :: .undef :: .undef :: .undef :: .undef :: .undef :: .undef :: .undef :: .undef :: .undef :: .undef :: .undef :: .undef :: .undef :: .undef :: .undef :: .undef :: .undef :: .undef :: .undef :: .undef :: .undef :: .undef :: .undef :: .undef :: .undef :: .undef :: .undef :: .undef :: .undef :: .undef :: .undef :: .undef :: .undef :: .undef :: .undef :: .undef :: .undef :: .undef :: .undef :: .undef :: .undef :: .undef :: .undef :: .undef :: .undef :: .undef :: .undef :: .undef :: .undef :: .undef :: .undef :: .undef :: .undef :: .undef :: .undef :: .undef :: .undef :: .undef :: .undef :: .undef :: .undef :: .undef :: .undef :: .undef :: .undef :: .undef :: .undef :: .undef :: .undef :: .undef :: .undef :: .undef :: .undef :: .undef :: .undef :: .undef :: .undef :: .undef :: .undef :: .undef :: .undef :: .undef :: .undef :: .undef :: .undef :: .undef :: .undef :: .undef :: .undef :: .undef :: .undef :: [])) (fun _ => g2) (fun i => (sorted ks).length - i) (fun i => i ≤ (sorted ks).length) 0 (by omega) rfl (by (repeat first | exact Less.nil | refine Less.undef _ ?_ | refine Less.keep _ ?_)) ?_
    rintro i hi
    by_cases h2 : i < (sorted ks).length
    · have hx : (sorted ks)[i]? = some (sorted ks)[i] := List.getElem?_eq_getElem h2
      obtain ⟨x, hx0⟩ : ∃ x, x = (sorted ks)[i] := ⟨_, rfl⟩
      rw [← hx0] at hx
      have hlt2 : decide ((i : Int) < ((sorted ks).length : Nat)) = true := by simp; omega
      obtain ⟨p, hp1, hp2⟩ := hS.idx (show ((sorted ks).map HV.str)[i]? = some (.str x) by rw [List.getElem?_map, hx]; rfl) .i64
      have hpos := cnt_pos hG (hsp.mem_iff.1 (List.mem_of_getElem? hx))
      have d1 : decide (((cnt m x : Nat) : Int) < 1) = false := by simp; omega
      have hn := part_next (m := m) hx
      have hlp := hle (i + 1)
      simp -implicitDefEqProofs (disch := first | omega | decide) only [vwp_skip, vwp_ret, vwp_exit, vwp_lab, vwp_seq, vwp_cond, vwp_block, vwp_scope, vwp_region, vwp_draw, vwp_loop, vcnd_tt, vcnd_ff, vthen_normal, vthen_ret, vthen_exit, vblock_normal, vblock_ret, vblock_exit, vreg_nil, vreg_cons, vhl_nil, vhl_op, vhl_guard, vguard_tt, vguard_ff, vguard_tf, vguard_ft, vguard_no, vact_op, vop_some, vput_some, vput_none, vsame_sm, vunit_sm, vget_nil, vget_cons, vget_some,
    vo_mv, vo_bin, vo_un, vo_ext, vo_len, vo_idxS, vo_idxStr, vo_load, vo_pick, vo_append, vo_bslice, evp, vo_nilc, vo_faddr, vo_store, vo_sliceSl, vo_sliceStr, vo_cInt, vo_copy, vo_mkSlice, vo_box, vo_build, vo_b2s, vb2s_sl, vb2s_nil, vcInt, vnil_ptr, vo_mkMap, vo_lookup, vo_mapUpd, vo_del, vdel_some, vo_rangeMap, vo_entry, vfaddr_ptr, beq_self_eq_true, eq_self, decide_true, decide_false, vb_lss, vb_leq, vb_gtr, vb_geq, vb_eql, vb_neq, vb_seql, vb_sneq, vb_beql, vb_bneq, vun_not, vlen_str, vlen_sl, vlen_nil, vext_tup, HX.ev, List.length_cons, List.length_nil, List.append_nil, List.nil_append, List.cons_append, List.set_cons_succ, List.set_cons_zero, List.getElem?_cons_succ, List.getElem?_cons_zero, Option.getD_some, Option.map_some, Option.map_none, List.map_cons, List.map_nil, if_true, Bool.not_true, Bool.not_false, Bool.false_eq_true, if_false, hlt2, hSl, hS.sOk, hp1, hp2]
      refine vcall_of ok12 rfl (count12 B2 x) ?_
      rintro _ g2 ⟨rfl, rfl⟩
      by_cases hi0 : i = 0
      · subst hi0
        have d2 : decide ((0 : Int) < ((0 : Nat) : Int)) = false := by simp
        simp -implicitDefEqProofs (disch := first | omega | decide) only [vwp_skip, vwp_ret, vwp_exit, vwp_lab, vwp_seq, vwp_cond, vwp_block, vwp_scope, vwp_region, vwp_draw, vwp_loop, vcnd_tt, vcnd_ff, vthen_normal, vthen_ret, vthen_exit, vblock_normal, vblock_ret, vblock_exit, vreg_nil, vreg_cons, vhl_nil, vhl_op, vhl_guard, vguard_tt, vguard_ff, vguard_tf, vguard_ft, vguard_no, vact_op, vop_some, vput_some, vput_none, vsame_sm, vunit_sm, vget_nil, vget_cons, vget_some,
    vo_mv, vo_bin, vo_un, vo_ext, vo_len, vo_idxS, vo_idxStr, vo_load, vo_pick, vo_append, vo_bslice, evp, vo_nilc, vo_faddr, vo_store, vo_sliceSl, vo_sliceStr, vo_cInt, vo_copy, vo_mkSlice, vo_box, vo_build, vo_b2s, vb2s_sl, vb2s_nil, vcInt, vnil_ptr, vo_mkMap, vo_lookup, vo_mapUpd, vo_del, vdel_some, vo_rangeMap, vo_entry, vfaddr_ptr, beq_self_eq_true, eq_self, decide_true, decide_false, vb_lss, vb_leq, vb_gtr, vb_geq, vb_eql, vb_neq, vb_seql, vb_sneq, vb_beql, vb_bneq, vun_not, vlen_str, vlen_sl, vlen_nil, vext_tup, HX.ev, List.length_cons, List.length_nil, List.append_nil, List.nil_append, List.cons_append, List.set_cons_succ, List.set_cons_zero, List.getElem?_cons_succ, List.getElem?_cons_zero, Option.getD_some, Option.map_some, Option.map_none, List.map_cons, List.map_nil, if_true, Bool.not_true, Bool.not_false, Bool.false_eq_true, if_false, d1, d2, vaddn, vadd1]
        refine ⟨0 + 1, by omega, by omega, trivial, ?_⟩
        rw [hn]
        (repeat first | exact Less.nil | refine Less.undef _ ?_ | refine Less.keep _ ?_)
      · have d2 : decide ((0 : Int) < (i : Nat)) = true := by simp; omega
        have hy : (sorted ks)[i - 1]? = some (sorted ks)[i - 1] := List.getElem?_eq_getElem (by omega)
        obtain ⟨q, hq1, hq2⟩ := hS.idx (show ((sorted ks).map HV.str)[i - 1]? = some (.str (sorted ks)[i - 1]) by rw [List.getElem?_map, hy]; rfl) .i64
        have hb := sorted_lt hkn hy (show (sorted ks)[i - 1 + 1]? = some x by rw [show i - 1 + 1 = i by omega]; exact hx)
        have hgeq : hbin .geq none (.str (sorted ks)[i - 1]) (.str x) = some (.bool false) := by
          have : hbin .geq none (.str (sorted ks)[i - 1]) (.str x) = some (.bool !(bless (sorted ks)[i - 1] x)) := rfl
          rw [this, hb]; rfl
        simp -implicitDefEqProofs (disch := first | omega | decide) only [vwp_skip, vwp_ret, vwp_exit, vwp_lab, vwp_seq, vwp_cond, vwp_block, vwp_scope, vwp_region, vwp_draw, vwp_loop, vcnd_tt, vcnd_ff, vthen_normal, vthen_ret, vthen_exit, vblock_normal, vblock_ret, vblock_exit, vreg_nil, vreg_cons, vhl_nil, vhl_op, vhl_guard, vguard_tt, vguard_ff, vguard_tf, vguard_ft, vguard_no, vact_op, vop_some, vput_some, vput_none, vsame_sm, vunit_sm, vget_nil, vget_cons, vget_some,
    vo_mv, vo_bin, vo_un, vo_ext, vo_len, vo_idxS, vo_idxStr, vo_load, vo_pick, vo_append, vo_bslice, evp, vo_nilc, vo_faddr, vo_store, vo_sliceSl, vo_sliceStr, vo_cInt, vo_copy, vo_mkSlice, vo_box, vo_build, vo_b2s, vb2s_sl, vb2s_nil, vcInt, vnil_ptr, vo_mkMap, vo_lookup, vo_mapUpd, vo_del, vdel_some, vo_rangeMap, vo_entry, vfaddr_ptr, beq_self_eq_true, eq_self, decide_true, decide_false, vb_lss, vb_leq, vb_gtr, vb_geq, vb_eql, vb_neq, vb_seql, vb_sneq, vb_beql, vb_bneq, vun_not, vlen_str, vlen_sl, vlen_nil, vext_tup, HX.ev, List.length_cons, List.length_nil, List.append_nil, List.nil_append, List.cons_append, List.set_cons_succ, List.set_cons_zero, List.getElem?_cons_succ, List.getElem?_cons_zero, Option.getD_some, Option.map_some, Option.map_none, List.map_cons, List.map_nil, if_true, Bool.not_true, Bool.not_false, Bool.false_eq_true, if_false, d1, d2, vsub1, hS.sOk, hp1, hp2, hq1, hq2, hgeq, vaddn, vadd1]
        refine ⟨i + 1, by omega, by omega, trivial, ?_⟩
        rw [hn]
        (repeat first | exact Less.nil | refine Less.undef _ ?_ | refine Less.keep _ ?_)
    · obtain rfl : i = (sorted ks).length := by omega
      have hlt2 : decide ((((sorted ks).length : Nat) : Int) < ((sorted ks).length : Nat)) = false := by simp
      simp -implicitDefEqProofs (disch := first | omega | decide) only [vwp_skip, vwp_ret, vwp_exit, vwp_lab, vwp_seq, vwp_cond, vwp_block, vwp_scope, vwp_region, vwp_draw, vwp_loop, vcnd_tt, vcnd_ff, vthen_normal, vthen_ret, vthen_exit, vblock_normal, vblock_ret, vblock_exit, vreg_nil, vreg_cons, vhl_nil, vhl_op, vhl_guard, vguard_tt, vguard_ff, vguard_tf, vguard_ft, vguard_no, vact_op, vop_some, vput_some, vput_none, vsame_sm, vunit_sm, vget_nil, vget_cons, vget_some,
    vo_mv, vo_bin, vo_un, vo_ext, vo_len, vo_idxS, vo_idxStr, vo_load, vo_pick, vo_append, vo_bslice, evp, vo_nilc, vo_faddr, vo_store, vo_sliceSl, vo_sliceStr, vo_cInt, vo_copy, vo_mkSlice, vo_box, vo_build, vo_b2s, vb2s_sl, vb2s_nil, vcInt, vnil_ptr, vo_mkMap, vo_lookup, vo_mapUpd, vo_del, vdel_some, vo_rangeMap, vo_entry, vfaddr_ptr, beq_self_eq_true, eq_self, decide_true, decide_false, vb_lss, vb_leq, vb_gtr, vb_geq, vb_eql, vb_neq, vb_seql, vb_sneq, vb_beql, vb_bneq, vun_not, vlen_str, vlen_sl, vlen_nil, vext_tup, HX.ev, List.length_cons, List.length_nil, List.append_nil, List.nil_append, List.cons_append, List.set_cons_succ, List.set_cons_zero, List.getElem?_cons_succ, List.getElem?_cons_zero, Option.getD_some, Option.map_some, Option.map_none, List.map_cons, List.map_nil, if_true, Bool.not_true, Bool.not_false, Bool.false_eq_true, if_false, hlt2, hSl, htot]
      refine vcall_of ok16 rfl (len16 B2) ?_
      rintro _ g2 ⟨rfl, rfl⟩
      have d9 : decide ((((sorted ks).length : Nat) : Int) = (m.length : Nat)) = true := by simp; omega
      simp -implicitDefEqProofs (disch := first | omega | decide) only [vwp_skip, vwp_ret, vwp_exit, vwp_lab, vwp_seq, vwp_cond, vwp_block, vwp_scope, vwp_region, vwp_draw, vwp_loop, vcnd_tt, vcnd_ff, vthen_normal, vthen_ret, vthen_exit, vblock_normal, vblock_ret, vblock_exit, vreg_nil, vreg_cons, vhl_nil, vhl_op, vhl_guard, vguard_tt, vguard_ff, vguard_tf, vguard_ft, vguard_no, vact_op, vop_some, vput_some, vput_none, vsame_sm, vunit_sm, vget_nil, vget_cons, vget_some,
    vo_mv, vo_bin, vo_un, vo_ext, vo_len, vo_idxS, vo_idxStr, vo_load, vo_pick, vo_append, vo_bslice, evp, vo_nilc, vo_faddr, vo_store, vo_sliceSl, vo_sliceStr, vo_cInt, vo_copy, vo_mkSlice, vo_box, vo_build, vo_b2s, vb2s_sl, vb2s_nil, vcInt, vnil_ptr, vo_mkMap, vo_lookup, vo_mapUpd, vo_del, vdel_some, vo_rangeMap, vo_entry, vfaddr_ptr, beq_self_eq_true, eq_self, decide_true, decide_false, vb_lss, vb_leq, vb_gtr, vb_geq, vb_eql, vb_neq, vb_seql, vb_sneq, vb_beql, vb_bneq, vun_not, vlen_str, vlen_sl, vlen_nil, vext_tup, HX.ev, List.length_cons, List.length_nil, List.append_nil, List.nil_append, List.cons_append, List.set_cons_succ, List.set_cons_zero, List.getElem?_cons_succ, List.getElem?_cons_zero, Option.getD_some, Option.map_some, Option.map_none, List.map_cons, List.map_nil, if_true, Bool.not_true, Bool.not_false, Bool.false_eq_true, if_false, hSl, d9]
      exact ⟨rfl, _, rfl, rfl⟩
end B
end Go.Proofs.Ytalcaflkfpiehaa
