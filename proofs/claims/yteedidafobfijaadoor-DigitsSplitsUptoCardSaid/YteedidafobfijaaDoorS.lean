/-
  digits' law DigitsSplits: the reference's Split, marks, the book of lists.
-/
import Derived.Test.YteedidafobfijaaDoorJ
import Derived.Test.YteedidafobfijaaDoorHLBook
namespace Go.Proofs.YteedidafobfijaaDoor
open Go Go.HL P5
namespace B
set_option maxRecDepth 100000
set_option maxHeartbeats 4000000
set_option linter.unusedSimpArgs false
theorem ok25 : okF Tryd.prog 25 := ⟨_, Tryd.func25, by kernel_rfl, by kernel_rfl⟩
theorem ok26 : okF Tryd.prog 26 := ⟨_, Tryd.func26, by kernel_rfl, by kernel_rfl⟩
theorem ok27 : okF Tryd.prog 27 := ⟨_, Tryd.func27, by kernel_rfl, by kernel_rfl⟩
theorem ok28 : okF Tryd.prog 28 := ⟨_, Tryd.func28, by kernel_rfl, by kernel_rfl⟩
theorem ok17 : okF Tryd.prog 17 := ⟨_, Tryd.func17, by kernel_rfl, by kernel_rfl⟩
theorem ok18 : okF Tryd.prog 18 := ⟨_, Tryd.func18, by kernel_rfl, by kernel_rfl⟩

/-- mark. -/
def markGo (i : Nat) (s : List UInt8) : List UInt8 := if h : i = 0 then s else markGo (i / 26) (s ++ [UInt8.ofNat (97 + i % 26)])
  termination_by i
  decreasing_by exact Nat.div_lt_self (by omega) (by omega)
def markL (n : Nat) : List UInt8 := markGo (n + 1) [109, 97, 114, 107, 32]

theorem mark (hs : HS) (n : Nat) (hn : n < 4611686018427387904) : HC Tryd.prog 28 [.int .i64 (n : Nat)] hs fun v hs' => v = .str (markL n) ∧ Keeps hs.length hs hs' := by
  refine HC.wp mixed Tryd.func28 c28 ?_
  simp -implicitDefEqProofs (disch := first | omega | decide) only [vwp_skip, vwp_ret, vwp_exit, vwp_lab, vwp_seq, vwp_cond, vwp_block, vwp_scope, vwp_region, vwp_draw, vwp_loop, vcnd_tt, vcnd_ff, vthen_normal, vthen_ret, vthen_exit, vblock_normal, vblock_ret, vblock_exit, vreg_nil, vreg_cons, vhl_nil, vhl_op, vhl_guard, vguard_tt, vguard_ff, vguard_tf, vguard_ft, vguard_no, vact_op, vop_some, vput_some, vput_none, vsame_sm, vunit_sm, vget_nil, vget_cons, vget_some,
    vo_mv, vo_bin, vo_un, vo_ext, vo_len, vo_idxS, vo_idxStr, vo_load, vo_pick, vo_append, vo_bslice, evp, vo_nilc, vo_faddr, vo_store, vo_sliceSl, vo_sliceStr, vo_cInt, vo_copy, vo_mkSlice, vo_box, vo_build, vo_b2s, vb2s_sl, vb2s_nil, vcInt, vnil_ptr, vfaddr_ptr, beq_self_eq_true, eq_self, decide_true, decide_false, vb_lss, vb_leq, vb_gtr, vb_geq, vb_eql, vb_neq, vb_seql, vb_sneq, vb_beql, vb_bneq, vun_not, vlen_str, vlen_sl, vlen_nil, vext_tup, HX.ev, List.length_cons, List.length_nil, List.append_nil, List.nil_append, List.cons_append, List.set_cons_succ, List.set_cons_zero, List.getElem?_cons_succ, List.getElem?_cons_zero, Option.getD_some, Option.map_some, Option.map_none, List.map_cons, List.map_nil, if_true, Bool.not_true, Bool.not_false, Bool.false_eq_true, if_false, h28, vadd1, frame0, List.replicate, Nat.sub]
  refine HW.loopS (σ := Nat × List UInt8 × HS) mixed (fun s => (.int .i64 (n : Nat) :: .undef :: .str [] :: .str s.2.1 :: .int .i64 (s.1 : Nat) :: .undef :: .undef :: .undef :: .undef :: .undef :: .undef :: .undef :: .undef :: .undef :: .undef :: .undef :: .undef :: .undef :: .undef :: .undef :: [])) (fun s => s.2.2) (fun s => s.1)
    (fun s => Keeps hs.length hs s.2.2 ∧ markGo s.1 s.2.1 = markL n ∧ s.2.1.length + s.1 ≤ n + 6) (n + 1, [109, 97, 114, 107, 32], hs) ⟨Keeps.refl (Nat.le_refl _), rfl, by simp; omega⟩ rfl (by (repeat first | exact Less.nil | refine Less.undef _ ?_ | refine Less.keep _ ?_)) ?_
  rintro ⟨i, s, g⟩ ⟨hk, hm, hl⟩
  simp only at hk hm hl ⊢
  by_cases h0 : i = 0
  · subst h0
    have hlt : decide ((0 : Int) < ((0 : Nat) : Int)) = false := by simp
    simp -implicitDefEqProofs (disch := first | omega | decide) only [vwp_skip, vwp_ret, vwp_exit, vwp_lab, vwp_seq, vwp_cond, vwp_block, vwp_scope, vwp_region, vwp_draw, vwp_loop, vcnd_tt, vcnd_ff, vthen_normal, vthen_ret, vthen_exit, vblock_normal, vblock_ret, vblock_exit, vreg_nil, vreg_cons, vhl_nil, vhl_op, vhl_guard, vguard_tt, vguard_ff, vguard_tf, vguard_ft, vguard_no, vact_op, vop_some, vput_some, vput_none, vsame_sm, vunit_sm, vget_nil, vget_cons, vget_some,
    vo_mv, vo_bin, vo_un, vo_ext, vo_len, vo_idxS, vo_idxStr, vo_load, vo_pick, vo_append, vo_bslice, evp, vo_nilc, vo_faddr, vo_store, vo_sliceSl, vo_sliceStr, vo_cInt, vo_copy, vo_mkSlice, vo_box, vo_build, vo_b2s, vb2s_sl, vb2s_nil, vcInt, vnil_ptr, vfaddr_ptr, beq_self_eq_true, eq_self, decide_true, decide_false, vb_lss, vb_leq, vb_gtr, vb_geq, vb_eql, vb_neq, vb_seql, vb_sneq, vb_beql, vb_bneq, vun_not, vlen_str, vlen_sl, vlen_nil, vext_tup, HX.ev, List.length_cons, List.length_nil, List.append_nil, List.nil_append, List.cons_append, List.set_cons_succ, List.set_cons_zero, List.getElem?_cons_succ, List.getElem?_cons_zero, Option.getD_some, Option.map_some, Option.map_none, List.map_cons, List.map_nil, if_true, Bool.not_true, Bool.not_false, Bool.false_eq_true, if_false, hlt]
    rw [markGo] at hm
    simp only [dif_pos] at hm
    exact ⟨rfl, _, rfl, by rw [← hm]; rfl, hk⟩
  · have hlt : decide ((0 : Int) < (i : Nat)) = true := by simp; omega
    have hrem := vrem (i := i) (j := 26) (J := 26) rfl (by omega)
    have hquo := vquo (i := i) (j := 26) (J := 26) rfl (by omega) (by omega)
    have hr26 : i % 26 < 26 := Nat.mod_lt _ (by omega)
    have hdl : i / 26 < i := Nat.div_lt_self (by omega) (by omega)
    obtain ⟨r, hr⟩ : ∃ r, r = i % 26 := ⟨_, rfl⟩
    obtain ⟨q, hq⟩ : ∃ q, q = i / 26 := ⟨_, rfl⟩
    rw [← hr] at hrem hr26
    rw [← hq] at hquo hdl
    have hadd : hbin .add none (.int .i64 97) (.int .i64 (r : Nat)) = some (.int .i64 ((97 + r : Nat) : Int)) := by rw [vaddI (by omega)]; simp
    have hwr : wr .u8 ((97 + r : Nat) : Int) = ((97 + r : Nat) : Int) := vwr_u8 (by omega)
    have hbs : hbuildSlice g 1 1 [.int .u8 0] [(0, 1, .int .u8 ((97 + r : Nat) : Int))] = some (.slice g.length 0 1 (some 1), g ++ [some (.cells 1 [.int .u8 ((97 + r : Nat) : Int)] false false [])]) := by
      simp [hbuildSlice, hfill, HV.cells, HV.one, overw]
    have hb2 : hb2s (g ++ [some (.cells 1 [.int .u8 ((97 + r : Nat) : Int)] false false [])]) (.slice g.length 0 1 (some 1)) = some (.str [UInt8.ofNat (97 + r)]) := by
      unfold hb2s
      rw [take_one]
      rfl
    have hsa := vsadd (a := s) (b := [UInt8.ofNat (97 + r)]) (by simp; omega)
    simp -implicitDefEqProofs (disch := first | omega | decide) only [vwp_skip, vwp_ret, vwp_exit, vwp_lab, vwp_seq, vwp_cond, vwp_block, vwp_scope, vwp_region, vwp_draw, vwp_loop, vcnd_tt, vcnd_ff, vthen_normal, vthen_ret, vthen_exit, vblock_normal, vblock_ret, vblock_exit, vreg_nil, vreg_cons, vhl_nil, vhl_op, vhl_guard, vguard_tt, vguard_ff, vguard_tf, vguard_ft, vguard_no, vact_op, vop_some, vput_some, vput_none, vsame_sm, vunit_sm, vget_nil, vget_cons, vget_some,
    vo_mv, vo_bin, vo_un, vo_ext, vo_len, vo_idxS, vo_idxStr, vo_load, vo_pick, vo_append, vo_bslice, evp, vo_nilc, vo_faddr, vo_store, vo_sliceSl, vo_sliceStr, vo_cInt, vo_copy, vo_mkSlice, vo_box, vo_build, vo_b2s, vb2s_sl, vb2s_nil, vcInt, vnil_ptr, vfaddr_ptr, beq_self_eq_true, eq_self, decide_true, decide_false, vb_lss, vb_leq, vb_gtr, vb_geq, vb_eql, vb_neq, vb_seql, vb_sneq, vb_beql, vb_bneq, vun_not, vlen_str, vlen_sl, vlen_nil, vext_tup, HX.ev, List.length_cons, List.length_nil, List.append_nil, List.nil_append, List.cons_append, List.set_cons_succ, List.set_cons_zero, List.getElem?_cons_succ, List.getElem?_cons_zero, Option.getD_some, Option.map_some, Option.map_none, List.map_cons, List.map_nil, if_true, Bool.not_true, Bool.not_false, Bool.false_eq_true, if_false, hlt, hrem, hadd, hwr, hbs, hb2, hsa, hquo]
    refine ⟨(q, s ++ [UInt8.ofNat (97 + r)], g ++ [some (.cells 1 [.int .u8 ((97 + r : Nat) : Int)] false false [])]), by simp only; omega, ⟨hk.trans (Keeps.app hk.1), ?_, ?_⟩, rfl, by (repeat first | exact Less.nil | refine Less.undef _ ?_ | refine Less.keep _ ?_)⟩
    · rw [markGo, dif_neg h0, ← hr, ← hq] at hm
      exact hm
    · simp only [List.length_append, List.length_cons, List.length_nil]; omega
theorem piece_last {line : List UInt8} {f : Nat} (h : ∀ c ∈ (line.take line.length).drop f, c ≠ 32) : pcs (line.drop f) = [(line.take line.length).drop f] := by
  rw [List.take_length] at h ⊢
  exact pcs_one h
theorem piece_mid {line : List UInt8} {f i : Nat} (hf : f ≤ i) (hi : line[i]? = some 32) (h : ∀ c ∈ (line.take i).drop f, c ≠ 32) : pcs (line.drop f) = (line.take i).drop f :: pcs (line.drop (i + 1)) := by
  rw [← pcs_app h]
  congr 1
  have hl := lt_of_get hi
  have h1 : line.drop i = 32 :: line.drop (i + 1) := by
    rw [List.drop_eq_getElem_cons hl]
    rw [List.getElem?_eq_getElem hl] at hi
    simp at hi
    rw [hi]
  rw [← h1]
  have h2 : line.drop f = (line.drop f).take (i - f) ++ (line.drop f).drop (i - f) := (List.take_append_drop _ _).symm
  rw [h2, List.drop_drop, List.drop_take]
  congr 2
  omega
theorem no_more {line : List UInt8} {f i : Nat} (hf : f ≤ i) {c : UInt8} (hi : line[i]? = some c) (hc : c ≠ 32) (h : ∀ c ∈ (line.take i).drop f, c ≠ 32) : ∀ c ∈ (line.take (i + 1)).drop f, c ≠ 32 := by
  intro d hd
  have hl := lt_of_get hi
  rw [List.take_add_one, hi, Option.toList_some, List.drop_append_of_le_length (by rw [List.length_take]; omega)] at hd
  rcases List.mem_append.1 hd with h1 | h1
  · exact h d h1
  · simp at h1; subst h1; exact hc

theorem refSplit (hs : HS) (line : List UInt8) (hb : line.length < 4294967281) :
    HC Tryd.prog 25 [.str line] hs fun r hs' => ∃ v, r = .tup [v, .bool (wordsL (pcs line))] ∧ SlAt hs' v (if wordsL (pcs line) = true then (pcs line).map HV.str else []) ∧ Keeps hs.length hs hs' := by
  refine HC.wp mixed Tryd.func25 c25 ?_
  have hbs : hbuildSlice hs 1 0 [] [] = some (.slice hs.length 0 0 (some 0), hs ++ [some (.cells 1 [] false false [])]) := rfl
  simp -implicitDefEqProofs (disch := first | omega | decide) only [vwp_skip, vwp_ret, vwp_exit, vwp_lab, vwp_seq, vwp_cond, vwp_block, vwp_scope, vwp_region, vwp_draw, vwp_loop, vcnd_tt, vcnd_ff, vthen_normal, vthen_ret, vthen_exit, vblock_normal, vblock_ret, vblock_exit, vreg_nil, vreg_cons, vhl_nil, vhl_op, vhl_guard, vguard_tt, vguard_ff, vguard_tf, vguard_ft, vguard_no, vact_op, vop_some, vput_some, vput_none, vsame_sm, vunit_sm, vget_nil, vget_cons, vget_some,
    vo_mv, vo_bin, vo_un, vo_ext, vo_len, vo_idxS, vo_idxStr, vo_load, vo_pick, vo_append, vo_bslice, evp, vo_nilc, vo_faddr, vo_store, vo_sliceSl, vo_sliceStr, vo_cInt, vo_copy, vo_mkSlice, vo_box, vo_build, vo_b2s, vb2s_sl, vb2s_nil, vcInt, vnil_ptr, vfaddr_ptr, beq_self_eq_true, eq_self, decide_true, decide_false, vb_lss, vb_leq, vb_gtr, vb_geq, vb_eql, vb_neq, vb_seql, vb_sneq, vb_beql, vb_bneq, vun_not, vlen_str, vlen_sl, vlen_nil, vext_tup, HX.ev, List.length_cons, List.length_nil, List.append_nil, List.nil_append, List.cons_append, List.set_cons_succ, List.set_cons_zero, List.getElem?_cons_succ, List.getElem?_cons_zero, Option.getD_some, Option.map_some, Option.map_none, List.map_cons, List.map_nil, if_true, Bool.not_true, Bool.not_false, Bool.false_eq_true, if_false, h25, hbs, frame0, List.replicate, Nat.sub]
  refine HW.loopS (σ := Nat × Nat × HV × List (List UInt8) × HS) mixed (fun s => (.str line :: .undef :: .nilSlice :: .bool false :: s.2.2.1 :: .int .i64 (s.2.1 : Nat) :: .int .i64 (s.1 : Nat) :: .undef :: .undef :: .undef :: .undef :: .undef :: .undef :: .undef :: .undef :: .undef :: .undef :: .undef :: .undef :: .undef :: .undef :: .undef :: .undef :: .undef :: .undef :: .undef :: .undef :: .undef :: .undef :: .undef :: .undef :: .undef :: .undef :: .undef :: .undef :: .undef :: .undef :: .undef :: .undef :: .undef :: [])) (fun s => s.2.2.2.2) (fun s => line.length + 1 - s.1)
    (fun s => ((s.1 ≤ line.length ∧ s.2.1 ≤ s.1 ∧ pcs line = s.2.2.2.1 ++ pcs (line.drop s.2.1) ∧ ∀ c ∈ (line.take s.1).drop s.2.1, c ≠ 32) ∨ (s.1 = line.length + 1 ∧ pcs line = s.2.2.2.1)) ∧
      (∀ w ∈ s.2.2.2.1, W.wordL w = true) ∧ s.2.2.2.1.length ≤ s.1 ∧ Keeps hs.length hs s.2.2.2.2 ∧ OwnSl hs.length s.2.2.2.2 1 s.2.2.1 s.2.2.2.1.length (s.2.2.2.1.map HV.str))
    (0, 0, .slice hs.length 0 0 (some 0), [], hs ++ [some (.cells 1 [] false false [])])
    ⟨.inl ⟨by simp, by simp, by simp, by simp⟩, by simp, by simp, Keeps.app (Nat.le_refl _), OwnSl.empty (ro := false) (opn := false) (olds := []) (by simp)⟩ rfl (by (repeat first | exact Less.nil | refine Less.undef _ ?_ | refine Less.keep _ ?_)) ?_
  rintro ⟨i, f, u, out, g⟩ ⟨hJ, hw, hol, hk, ho⟩
  simp only at hJ hw hol hk ho ⊢
  rcases hJ with ⟨hi, hf, hp, hno⟩ | ⟨hi, hp⟩
  · have hle : decide ((i : Int) ≤ (line.length : Nat)) = true := by simp; omega
    -- the piece's end
    have fin : ∀ (rest : List (List UInt8)), pcs (line.drop f) = (line.take i).drop f :: rest → (i < line.length → rest = pcs (line.drop (i + 1)) ∧ True) → (i = line.length → rest = []) →
        ∀ w, w = (line.take i).drop f → w.length < 9223372036854775808 ∧ (W.wordL w = false → wordsL (pcs line) = false) := by
      intro rest h1 _ _ w hw'
      refine ⟨by rw [hw']; simp only [List.length_drop, List.length_take]; omega, fun hb' => ?_⟩
      rw [hp, h1, ← hw']
      exact wordsL_bad (i := out.length) (w := w) (by simp) hb'
    obtain ⟨w, hwv⟩ : ∃ w, w = (line.take i).drop f := ⟨_, rfl⟩
    have hsl : hsliceStr (.str line) (some (.int .i64 (f : Nat))) (some (.int .i64 (i : Nat))) = some (.str w) := by rw [hwv]; exact vsliceStr ⟨hf, hi⟩
    have hmax : maxLen = 9223372036854775807 := rfl
    by_cases hlt : i < line.length
    · have hc : line[i]? = some line[i] := List.getElem?_eq_getElem hlt
      have hltd : decide ((i : Int) < (line.length : Nat)) = true := by simp; omega
      have hix := vidxStr_some (k := .i64) hc
      by_cases h32 : line[i] = 32
      · have hne : decide (((line[i].toNat : Nat) : Int) = 32) = true := by rw [h32]; rfl
        rw [h32] at hc
        have hpm := piece_mid hf hc hno
        obtain ⟨hwl, hwb⟩ := fin _ hpm (fun _ => ⟨rfl, trivial⟩) (fun e => by omega) w hwv
        simp -implicitDefEqProofs (disch := first | omega | decide) only [vwp_skip, vwp_ret, vwp_exit, vwp_lab, vwp_seq, vwp_cond, vwp_block, vwp_scope, vwp_region, vwp_draw, vwp_loop, vcnd_tt, vcnd_ff, vthen_normal, vthen_ret, vthen_exit, vblock_normal, vblock_ret, vblock_exit, vreg_nil, vreg_cons, vhl_nil, vhl_op, vhl_guard, vguard_tt, vguard_ff, vguard_tf, vguard_ft, vguard_no, vact_op, vop_some, vput_some, vput_none, vsame_sm, vunit_sm, vget_nil, vget_cons, vget_some,
    vo_mv, vo_bin, vo_un, vo_ext, vo_len, vo_idxS, vo_idxStr, vo_load, vo_pick, vo_append, vo_bslice, evp, vo_nilc, vo_faddr, vo_store, vo_sliceSl, vo_sliceStr, vo_cInt, vo_copy, vo_mkSlice, vo_box, vo_build, vo_b2s, vb2s_sl, vb2s_nil, vcInt, vnil_ptr, vfaddr_ptr, beq_self_eq_true, eq_self, decide_true, decide_false, vb_lss, vb_leq, vb_gtr, vb_geq, vb_eql, vb_neq, vb_seql, vb_sneq, vb_beql, vb_bneq, vun_not, vlen_str, vlen_sl, vlen_nil, vext_tup, HX.ev, List.length_cons, List.length_nil, List.append_nil, List.nil_append, List.cons_append, List.set_cons_succ, List.set_cons_zero, List.getElem?_cons_succ, List.getElem?_cons_zero, Option.getD_some, Option.map_some, Option.map_none, List.map_cons, List.map_nil, if_true, Bool.not_true, Bool.not_false, Bool.false_eq_true, if_false, hle, hltd, hix, hne, hsl]
        refine vcall_of ok16 rfl (ref16 w hwl g) ?_
        rintro _ g ⟨rfl, rfl⟩
        cases hwd : W.wordL w
        · simp -implicitDefEqProofs (disch := first | omega | decide) only [vwp_skip, vwp_ret, vwp_exit, vwp_lab, vwp_seq, vwp_cond, vwp_block, vwp_scope, vwp_region, vwp_draw, vwp_loop, vcnd_tt, vcnd_ff, vthen_normal, vthen_ret, vthen_exit, vblock_normal, vblock_ret, vblock_exit, vreg_nil, vreg_cons, vhl_nil, vhl_op, vhl_guard, vguard_tt, vguard_ff, vguard_tf, vguard_ft, vguard_no, vact_op, vop_some, vput_some, vput_none, vsame_sm, vunit_sm, vget_nil, vget_cons, vget_some,
    vo_mv, vo_bin, vo_un, vo_ext, vo_len, vo_idxS, vo_idxStr, vo_load, vo_pick, vo_append, vo_bslice, evp, vo_nilc, vo_faddr, vo_store, vo_sliceSl, vo_sliceStr, vo_cInt, vo_copy, vo_mkSlice, vo_box, vo_build, vo_b2s, vb2s_sl, vb2s_nil, vcInt, vnil_ptr, vfaddr_ptr, beq_self_eq_true, eq_self, decide_true, decide_false, vb_lss, vb_leq, vb_gtr, vb_geq, vb_eql, vb_neq, vb_seql, vb_sneq, vb_beql, vb_bneq, vun_not, vlen_str, vlen_sl, vlen_nil, vext_tup, HX.ev, List.length_cons, List.length_nil, List.append_nil, List.nil_append, List.cons_append, List.set_cons_succ, List.set_cons_zero, List.getElem?_cons_succ, List.getElem?_cons_zero, Option.getD_some, Option.map_some, Option.map_none, List.map_cons, List.map_nil, if_true, Bool.not_true, Bool.not_false, Bool.false_eq_true, if_false]
          exact ⟨rfl, _, rfl, .nilSlice, by rw [hwb hwd]; rfl, by rw [hwb hwd]; exact .inl ⟨rfl, rfl⟩, hk⟩
        · have hbs1 : hbuildSlice g 1 1 [.str []] [(0, 1, .str w)] = some (.slice g.length 0 1 (some 1), g ++ [some (.cells 1 [.str w] false false [])]) := rfl
          have hk1 : Keeps g.length g (g ++ [some (.cells 1 [.str w] false false [])]) := Keeps.app (Nat.le_refl _)
          obtain ⟨u2, g2, ha, ho2, hk2⟩ := OwnSl.app (bytes := 16) (ho.keep (Nat.le_refl _) hk1) (by simp; have := hk.1; omega) (take_one g (.str w)) rfl (by omega) (by omega)
          simp -implicitDefEqProofs (disch := first | omega | decide) only [vwp_skip, vwp_ret, vwp_exit, vwp_lab, vwp_seq, vwp_cond, vwp_block, vwp_scope, vwp_region, vwp_draw, vwp_loop, vcnd_tt, vcnd_ff, vthen_normal, vthen_ret, vthen_exit, vblock_normal, vblock_ret, vblock_exit, vreg_nil, vreg_cons, vhl_nil, vhl_op, vhl_guard, vguard_tt, vguard_ff, vguard_tf, vguard_ft, vguard_no, vact_op, vop_some, vput_some, vput_none, vsame_sm, vunit_sm, vget_nil, vget_cons, vget_some,
    vo_mv, vo_bin, vo_un, vo_ext, vo_len, vo_idxS, vo_idxStr, vo_load, vo_pick, vo_append, vo_bslice, evp, vo_nilc, vo_faddr, vo_store, vo_sliceSl, vo_sliceStr, vo_cInt, vo_copy, vo_mkSlice, vo_box, vo_build, vo_b2s, vb2s_sl, vb2s_nil, vcInt, vnil_ptr, vfaddr_ptr, beq_self_eq_true, eq_self, decide_true, decide_false, vb_lss, vb_leq, vb_gtr, vb_geq, vb_eql, vb_neq, vb_seql, vb_sneq, vb_beql, vb_bneq, vun_not, vlen_str, vlen_sl, vlen_nil, vext_tup, HX.ev, List.length_cons, List.length_nil, List.append_nil, List.nil_append, List.cons_append, List.set_cons_succ, List.set_cons_zero, List.getElem?_cons_succ, List.getElem?_cons_zero, Option.getD_some, Option.map_some, Option.map_none, List.map_cons, List.map_nil, if_true, Bool.not_true, Bool.not_false, Bool.false_eq_true, if_false, hsl, hbs1, ha, vadd1]
          refine ⟨(i + 1, i + 1, u2, out ++ [w], g2), by simp only; omega, ⟨.inl ⟨by simp only; omega, by simp, ?_, ?_⟩, ?_, by simp; omega, (hk.trans (hk1.less hk.1)).trans hk2, ?_⟩, rfl, by (repeat first | exact Less.nil | refine Less.undef _ ?_ | refine Less.keep _ ?_)⟩
          · simp only
            rw [hp, hpm, ← hwv]; simp
          · simp only
            rw [List.drop_of_length_le (by simp; omega)]
            simp
          · intro x hx
            rcases List.mem_append.1 hx with h | h
            · exact hw x h
            · simp at h; subst h; exact hwd
          · simpa using ho2
      · have hne : decide (((line[i].toNat : Nat) : Int) = 32) = false := by
          simp
          intro h
          apply h32
          apply UInt8.toNat_inj.1
          have : line[i].toNat = 32 := by exact_mod_cast h
          rw [this]; rfl
        simp -implicitDefEqProofs (disch := first | omega | decide) only [vwp_skip, vwp_ret, vwp_exit, vwp_lab, vwp_seq, vwp_cond, vwp_block, vwp_scope, vwp_region, vwp_draw, vwp_loop, vcnd_tt, vcnd_ff, vthen_normal, vthen_ret, vthen_exit, vblock_normal, vblock_ret, vblock_exit, vreg_nil, vreg_cons, vhl_nil, vhl_op, vhl_guard, vguard_tt, vguard_ff, vguard_tf, vguard_ft, vguard_no, vact_op, vop_some, vput_some, vput_none, vsame_sm, vunit_sm, vget_nil, vget_cons, vget_some,
    vo_mv, vo_bin, vo_un, vo_ext, vo_len, vo_idxS, vo_idxStr, vo_load, vo_pick, vo_append, vo_bslice, evp, vo_nilc, vo_faddr, vo_store, vo_sliceSl, vo_sliceStr, vo_cInt, vo_copy, vo_mkSlice, vo_box, vo_build, vo_b2s, vb2s_sl, vb2s_nil, vcInt, vnil_ptr, vfaddr_ptr, beq_self_eq_true, eq_self, decide_true, decide_false, vb_lss, vb_leq, vb_gtr, vb_geq, vb_eql, vb_neq, vb_seql, vb_sneq, vb_beql, vb_bneq, vun_not, vlen_str, vlen_sl, vlen_nil, vext_tup, HX.ev, List.length_cons, List.length_nil, List.append_nil, List.nil_append, List.cons_append, List.set_cons_succ, List.set_cons_zero, List.getElem?_cons_succ, List.getElem?_cons_zero, Option.getD_some, Option.map_some, Option.map_none, List.map_cons, List.map_nil, if_true, Bool.not_true, Bool.not_false, Bool.false_eq_true, if_false, hle, hltd, hix, hne, vadd1]
        refine ⟨(i + 1, f, u, out, g), by simp only; omega, ⟨.inl ⟨by simp only; omega, by simp only; omega, hp, no_more hf hc h32 hno⟩, hw, by simp only; omega, hk, ho⟩, rfl, by (repeat first | exact Less.nil | refine Less.undef _ ?_ | refine Less.keep _ ?_)⟩
    · obtain rfl : i = line.length := by omega
      have hltd : decide (((line.length : Nat) : Int) < (line.length : Nat)) = false := by simp
      have hpl := piece_last hno
      obtain ⟨hwl, hwb⟩ := fin _ hpl (fun e => by omega) (fun _ => rfl) w hwv
      simp -implicitDefEqProofs (disch := first | omega | decide) only [vwp_skip, vwp_ret, vwp_exit, vwp_lab, vwp_seq, vwp_cond, vwp_block, vwp_scope, vwp_region, vwp_draw, vwp_loop, vcnd_tt, vcnd_ff, vthen_normal, vthen_ret, vthen_exit, vblock_normal, vblock_ret, vblock_exit, vreg_nil, vreg_cons, vhl_nil, vhl_op, vhl_guard, vguard_tt, vguard_ff, vguard_tf, vguard_ft, vguard_no, vact_op, vop_some, vput_some, vput_none, vsame_sm, vunit_sm, vget_nil, vget_cons, vget_some,
    vo_mv, vo_bin, vo_un, vo_ext, vo_len, vo_idxS, vo_idxStr, vo_load, vo_pick, vo_append, vo_bslice, evp, vo_nilc, vo_faddr, vo_store, vo_sliceSl, vo_sliceStr, vo_cInt, vo_copy, vo_mkSlice, vo_box, vo_build, vo_b2s, vb2s_sl, vb2s_nil, vcInt, vnil_ptr, vfaddr_ptr, beq_self_eq_true, eq_self, decide_true, decide_false, vb_lss, vb_leq, vb_gtr, vb_geq, vb_eql, vb_neq, vb_seql, vb_sneq, vb_beql, vb_bneq, vun_not, vlen_str, vlen_sl, vlen_nil, vext_tup, HX.ev, List.length_cons, List.length_nil, List.append_nil, List.nil_append, List.cons_append, List.set_cons_succ, List.set_cons_zero, List.getElem?_cons_succ, List.getElem?_cons_zero, Option.getD_some, Option.map_some, Option.map_none, List.map_cons, List.map_nil, if_true, Bool.not_true, Bool.not_false, Bool.false_eq_true, if_false, hle, hltd, hsl]
      refine vcall_of ok16 rfl (ref16 w hwl g) ?_
      rintro _ g ⟨rfl, rfl⟩
      cases hwd : W.wordL w
      · simp -implicitDefEqProofs (disch := first | omega | decide) only [vwp_skip, vwp_ret, vwp_exit, vwp_lab, vwp_seq, vwp_cond, vwp_block, vwp_scope, vwp_region, vwp_draw, vwp_loop, vcnd_tt, vcnd_ff, vthen_normal, vthen_ret, vthen_exit, vblock_normal, vblock_ret, vblock_exit, vreg_nil, vreg_cons, vhl_nil, vhl_op, vhl_guard, vguard_tt, vguard_ff, vguard_tf, vguard_ft, vguard_no, vact_op, vop_some, vput_some, vput_none, vsame_sm, vunit_sm, vget_nil, vget_cons, vget_some,
    vo_mv, vo_bin, vo_un, vo_ext, vo_len, vo_idxS, vo_idxStr, vo_load, vo_pick, vo_append, vo_bslice, evp, vo_nilc, vo_faddr, vo_store, vo_sliceSl, vo_sliceStr, vo_cInt, vo_copy, vo_mkSlice, vo_box, vo_build, vo_b2s, vb2s_sl, vb2s_nil, vcInt, vnil_ptr, vfaddr_ptr, beq_self_eq_true, eq_self, decide_true, decide_false, vb_lss, vb_leq, vb_gtr, vb_geq, vb_eql, vb_neq, vb_seql, vb_sneq, vb_beql, vb_bneq, vun_not, vlen_str, vlen_sl, vlen_nil, vext_tup, HX.ev, List.length_cons, List.length_nil, List.append_nil, List.nil_append, List.cons_append, List.set_cons_succ, List.set_cons_zero, List.getElem?_cons_succ, List.getElem?_cons_zero, Option.getD_some, Option.map_some, Option.map_none, List.map_cons, List.map_nil, if_true, Bool.not_true, Bool.not_false, Bool.false_eq_true, if_false]
        exact ⟨rfl, _, rfl, .nilSlice, by rw [hwb hwd]; rfl, by rw [hwb hwd]; exact .inl ⟨rfl, rfl⟩, hk⟩
      · have hbs1 : hbuildSlice g 1 1 [.str []] [(0, 1, .str w)] = some (.slice g.length 0 1 (some 1), g ++ [some (.cells 1 [.str w] false false [])]) := rfl
        have hk1 : Keeps g.length g (g ++ [some (.cells 1 [.str w] false false [])]) := Keeps.app (Nat.le_refl _)
        obtain ⟨u2, g2, ha, ho2, hk2⟩ := OwnSl.app (bytes := 16) (ho.keep (Nat.le_refl _) hk1) (by simp; have := hk.1; omega) (take_one g (.str w)) rfl (by omega) (by omega)
        simp -implicitDefEqProofs (disch := first | omega | decide) only [vwp_skip, vwp_ret, vwp_exit, vwp_lab, vwp_seq, vwp_cond, vwp_block, vwp_scope, vwp_region, vwp_draw, vwp_loop, vcnd_tt, vcnd_ff, vthen_normal, vthen_ret, vthen_exit, vblock_normal, vblock_ret, vblock_exit, vreg_nil, vreg_cons, vhl_nil, vhl_op, vhl_guard, vguard_tt, vguard_ff, vguard_tf, vguard_ft, vguard_no, vact_op, vop_some, vput_some, vput_none, vsame_sm, vunit_sm, vget_nil, vget_cons, vget_some,
    vo_mv, vo_bin, vo_un, vo_ext, vo_len, vo_idxS, vo_idxStr, vo_load, vo_pick, vo_append, vo_bslice, evp, vo_nilc, vo_faddr, vo_store, vo_sliceSl, vo_sliceStr, vo_cInt, vo_copy, vo_mkSlice, vo_box, vo_build, vo_b2s, vb2s_sl, vb2s_nil, vcInt, vnil_ptr, vfaddr_ptr, beq_self_eq_true, eq_self, decide_true, decide_false, vb_lss, vb_leq, vb_gtr, vb_geq, vb_eql, vb_neq, vb_seql, vb_sneq, vb_beql, vb_bneq, vun_not, vlen_str, vlen_sl, vlen_nil, vext_tup, HX.ev, List.length_cons, List.length_nil, List.append_nil, List.nil_append, List.cons_append, List.set_cons_succ, List.set_cons_zero, List.getElem?_cons_succ, List.getElem?_cons_zero, Option.getD_some, Option.map_some, Option.map_none, List.map_cons, List.map_nil, if_true, Bool.not_true, Bool.not_false, Bool.false_eq_true, if_false, hsl, hbs1, ha, vadd1]
        refine ⟨(line.length + 1, line.length + 1, u2, out ++ [w], g2), by simp only; omega, ⟨.inr ⟨rfl, ?_⟩, ?_, by simp; omega, (hk.trans (hk1.less hk.1)).trans hk2, ?_⟩, rfl, by (repeat first | exact Less.nil | refine Less.undef _ ?_ | refine Less.keep _ ?_)⟩
        · simp only
          rw [hp, hpl, ← hwv]
        · intro x hx
          rcases List.mem_append.1 hx with h | h
          · exact hw x h
          · simp at h; subst h; exact hwd
        · simpa using ho2
  · subst hi
    have hle : decide (((line.length + 1 : Nat) : Int) ≤ (line.length : Nat)) = false := by simp; omega
    have hall : wordsL (pcs line) = true := by
      rw [wordsL_end fun k w hk => hw w (by rw [← hp]; exact List.mem_of_getElem? hk)]
      have := pcs_ne line
      cases h : pcs line with
      | nil => exact absurd h this
      | cons a b => rfl
    simp -implicitDefEqProofs (disch := first | omega | decide) only [vwp_skip, vwp_ret, vwp_exit, vwp_lab, vwp_seq, vwp_cond, vwp_block, vwp_scope, vwp_region, vwp_draw, vwp_loop, vcnd_tt, vcnd_ff, vthen_normal, vthen_ret, vthen_exit, vblock_normal, vblock_ret, vblock_exit, vreg_nil, vreg_cons, vhl_nil, vhl_op, vhl_guard, vguard_tt, vguard_ff, vguard_tf, vguard_ft, vguard_no, vact_op, vop_some, vput_some, vput_none, vsame_sm, vunit_sm, vget_nil, vget_cons, vget_some,
    vo_mv, vo_bin, vo_un, vo_ext, vo_len, vo_idxS, vo_idxStr, vo_load, vo_pick, vo_append, vo_bslice, evp, vo_nilc, vo_faddr, vo_store, vo_sliceSl, vo_sliceStr, vo_cInt, vo_copy, vo_mkSlice, vo_box, vo_build, vo_b2s, vb2s_sl, vb2s_nil, vcInt, vnil_ptr, vfaddr_ptr, beq_self_eq_true, eq_self, decide_true, decide_false, vb_lss, vb_leq, vb_gtr, vb_geq, vb_eql, vb_neq, vb_seql, vb_sneq, vb_beql, vb_bneq, vun_not, vlen_str, vlen_sl, vlen_nil, vext_tup, HX.ev, List.length_cons, List.length_nil, List.append_nil, List.nil_append, List.cons_append, List.set_cons_succ, List.set_cons_zero, List.getElem?_cons_succ, List.getElem?_cons_zero, Option.getD_some, Option.map_some, Option.map_none, List.map_cons, List.map_nil, if_true, Bool.not_true, Bool.not_false, Bool.false_eq_true, if_false, hle]
    refine ⟨rfl, _, rfl, u, by rw [hall]; rfl, ?_, hk⟩
    rw [if_pos hall, hp]
    exact ho.sl
end B
end Go.Proofs.YteedidafobfijaaDoor
