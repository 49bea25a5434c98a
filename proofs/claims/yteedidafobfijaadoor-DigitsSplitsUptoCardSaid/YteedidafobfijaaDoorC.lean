/-
  digits.Join, digits.Split and what they call of the library: what they answer.
-/
import Derived.Test.YteedidafobfijaaDoorB
import Derived.Test.YteedidafobfijaaDoorL
import Derived.Test.YteedidafobfijaaDoorC0
import Derived.Shelf.Strings.Split
namespace Go.Proofs
open Go.Shelf
def Tryd.lays146_ren : Go.Shelf.Ren := ⟨fun | 146 => 31 | 221 => 36 | 268 => 40 | 138 => 41 | 143 => 42 | 195 => 49 | 197 => 50 | 218 => 51 | 219 => 52 | 260 => 58 | 217 => 59 | 225 => 60 | 224 => 61 | 267 => 62 | 266 => 65 | 314 => 66 | n => n, fun | 9 => 9 | 31 => 34 | 3 => 3 | 4 => 4 | 0 => 0 | 105 => 71 | 21 => 21 | 5 => 5 | 46 => 79 | 119 => 82 | 139 => 85 | 138 => 84 | 146 => 86 | 51 => 77 | n => n, fun | 1 => 1 | 3 => 2 | 4 => 3 | n => n⟩
theorem Tryd.lays146 : Go.Proofs.Lays.n146 Tryd.prog Tryd.lays146_ren :=
  { mixed := by kernel_rfl
    f138 := Tryd.func41.trans (congrArg some (by kernel_rfl))
    f143 := Tryd.func42.trans (congrArg some (by kernel_rfl))
    f146 := Tryd.func31.trans (congrArg some (by kernel_rfl))
    f195 := Tryd.func49.trans (congrArg some (by kernel_rfl))
    f197 := Tryd.func50.trans (congrArg some (by kernel_rfl))
    f217 := Tryd.func59.trans (congrArg some (by kernel_rfl))
    f218 := Tryd.func51.trans (congrArg some (by kernel_rfl))
    f219 := Tryd.func52.trans (congrArg some (by kernel_rfl))
    f221 := Tryd.func36.trans (congrArg some (by kernel_rfl))
    f224 := Tryd.func61.trans (congrArg some (by kernel_rfl))
    f225 := Tryd.func60.trans (congrArg some (by kernel_rfl))
    f260 := Tryd.func58.trans (congrArg some (by kernel_rfl))
    f266 := Tryd.func65.trans (congrArg some (by kernel_rfl))
    f267 := Tryd.func62.trans (congrArg some (by kernel_rfl))
    f268 := Tryd.func40.trans (congrArg some (by kernel_rfl))
    f314 := Tryd.func66.trans (congrArg some (by kernel_rfl))
    t0 := Tryd.underlying0
    a0 := Tryd.isAgg0
    z0 := Tryd.sizeOf0
    v0 := Tryd.zeroValue0
    t3 := Tryd.underlying3
    a3 := Tryd.isAgg3
    z3 := Tryd.sizeOf3
    v3 := Tryd.zeroValue3
    t4 := Tryd.underlying4
    a4 := Tryd.isAgg4
    z4 := Tryd.sizeOf4
    v4 := Tryd.zeroValue4
    t5 := Tryd.underlying5
    a5 := Tryd.isAgg5
    z5 := Tryd.sizeOf5
    v5 := Tryd.zeroValue5
    t9 := Tryd.underlying9
    a9 := Tryd.isAgg9
    z9 := Tryd.sizeOf9
    v9 := Tryd.zeroValue9
    t21 := Tryd.underlying21
    a21 := Tryd.isAgg21
    z21 := Tryd.sizeOf21
    v21 := Tryd.zeroValue21
    t31 := Tryd.underlying34
    a31 := Tryd.isAgg34
    z31 := Tryd.sizeOf34
    v31 := Tryd.zeroValue34
    t46 := Tryd.underlying79
    a46 := Tryd.isAgg79
    z46 := Tryd.sizeOf79
    v46 := Tryd.zeroValue79
    t51 := Tryd.underlying77
    a51 := Tryd.isAgg77
    z51 := Tryd.sizeOf77
    v51 := Tryd.zeroValue77
    t105 := Tryd.underlying71
    a105 := Tryd.isAgg71
    z105 := Tryd.sizeOf71
    v105 := Tryd.zeroValue71
    t119 := Tryd.underlying82
    a119 := Tryd.isAgg82
    z119 := Tryd.sizeOf82
    t138 := Tryd.underlying84
    a138 := Tryd.isAgg84
    z138 := Tryd.sizeOf84
    v138 := Tryd.zeroValue84
    t139 := Tryd.underlying85
    a139 := Tryd.isAgg85
    z139 := Tryd.sizeOf85
    v139 := Tryd.zeroValue85
    t146 := Tryd.underlying86
    a146 := Tryd.isAgg86
    z146 := Tryd.sizeOf86
    v146 := Tryd.zeroValue86
    g1 := by kernel_rfl
    g3 := by kernel_rfl
    g4 := by kernel_rfl }
end Go.Proofs
namespace Go.Proofs.YteedidafobfijaaDoor
open Go Go.HL P5
namespace B
set_option maxRecDepth 100000
set_option maxHeartbeats 4000000
set_option linter.unusedSimpArgs false
theorem ok31 : okF Tryd.prog 31 := ⟨_, Tryd.func31, by kernel_rfl, by kernel_rfl⟩
theorem ok30 : okF Tryd.prog 30 := ⟨_, Tryd.func30, by kernel_rfl, by kernel_rfl⟩
theorem ok29 : okF Tryd.prog 29 := ⟨_, Tryd.func29, by kernel_rfl, by kernel_rfl⟩
theorem hi146 : (Tryd.prog.info? (Tryd.lays146_ren.t 9)).map (fun i => (i.zero, i.size, i.bytes)) = some (some (.string ByteArray.empty), 1, 16) := by kernel_rfl
#print axioms hi146

theorem split31 (hs : HS) (s : List UInt8) (hg : hs[2]? = some (some (.gint 1))) (hb : s.length < 4294967281) :
    HC Tryd.prog 31 [.str s, .str [32]] hs fun v hs' => v = .slice hs.length 0 (pcs s).length (some (pcs s).length) ∧ hs' = hs ++ [some (.cells 1 ((pcs s).map HV.str) false false [])] := by
  intro β w us E R
  simp only [RelL, Rel] at R
  obtain ⟨_, _, rfl, rfl, _, _, rfl, rfl, rfl⟩ := R
  have he : ∃ e, β[2]? = some e := by
    have : 2 < β.length := by rw [E.len]; exact lt_of_get hg
    exact ⟨_, List.getElem?_eq_getElem this⟩
  obtain ⟨e, he⟩ := he
  obtain ⟨hg1, _, cur, t, fz, m, hgr, hc0⟩ := E.blk 2 e _ he hg
  have hm : w.cell? ⟨Tryd.lays146_ren.g 1, 0, none⟩ = some (.int .i64 m) := by
    have : Tryd.lays146_ren.g 1 = 1 := by kernel_rfl
    rw [this, ← hg1]
    simp [World.cell?, hgr, hc0]
  have key := Any.strings_Split Tryd.lays146 hi146 ⟨s.toArray⟩ ⟨#[32]⟩ m w (by simpa [ByteArray.size] using hb) hm (by decide)
  have hf : Tryd.lays146_ren.f 146 = 31 := by kernel_rfl
  rw [hf] at key
  have hd := Lib.splitB_data ⟨#[32]⟩ 0 (Lib.countB ⟨s.toArray⟩ ⟨#[32]⟩) ⟨s.toArray⟩
  have hcb : Lib.countB ⟨s.toArray⟩ ⟨#[32]⟩ = Lib.count s [32] := rfl
  rw [hcb] at hd
  have hp : Lib.splitK [32] 0 (Lib.count s [32]) s = pcs s := split_pcs s
  have hd' : (Lib.splitB ⟨#[32]⟩ 0 (Lib.count s [32]) ⟨s.toArray⟩).map (fun b => b.data.toList) = pcs s := by
    rw [← hp]; exact hd
  have hn : Lib.count s [32] + 1 = (pcs s).length := by
    have h1 := Lib.splitB_all ⟨#[32]⟩ (by decide) 0 (Lib.count s [32]) ⟨s.toArray⟩ rfl
    rw [← hd', List.length_map, h1]
  rw [hcb, hn] at key
  refine key.mono ?_
  rintro e' w' ⟨rfl, rfl⟩
  have hcells : RelL (β ++ [⟨w.heap.size, 0, (pcs s).length, 1⟩]) ((pcs s).map HV.str) ((Lib.splitB ⟨#[32]⟩ 0 (Lib.count s [32]) ⟨s.toArray⟩).map Value.string) := by
    rw [← hd', List.map_map]
    refine RelL.of_get (by simp) fun i x hx => ?_
    rw [List.getElem?_map, Option.map_eq_some_iff] at hx
    obtain ⟨b, hb1, rfl⟩ := hx
    exact ⟨.string b, by rw [List.getElem?_map, hb1]; rfl, by simp [Rel]⟩
  refine ⟨β ++ [⟨w.heap.size, 0, (pcs s).length, 1⟩], _, _, _, rfl, ⟨rfl, rfl⟩, ?_, Step.new E _ ⟨w.heap.size, 0, (pcs s).length, 1⟩ _ rfl ?_⟩
  · simp only [Rel]
    refine ⟨⟨w.heap.size, 0, (pcs s).length, 1⟩, ⟨w.heap.size, 0, none⟩, (pcs s).length, ?_, rfl, Nat.le_refl _, rfl, fun _ => rfl⟩
    rw [← E.len]; simp
  · have hl := hcells.length
    rw [List.length_map] at hl
    refine ⟨rfl, ((Lib.splitB ⟨#[32]⟩ 0 (Lib.count s [32]) ⟨s.toArray⟩).map Value.string).toArray, Tryd.lays146_ren.t 9, (0, 0), by show (w.heap.push _)[w.heap.size]? = _; simp, fun _ => .inl rfl, by simp at hl ⊢; omega, by simp, fun i x hx => ?_⟩
    obtain ⟨u, h1, h2⟩ := hcells.get hx
    refine ⟨u, by simpa using h1, h2, ?_⟩
    rw [List.getElem?_map, Option.map_eq_some_iff] at hx
    obtain ⟨b, _, rfl⟩ := hx
    rfl

theorem join_len (ws : List (List UInt8)) : (Lib.join ws [32]).length ≤ sumL ws := by
  cases ws with
  | nil => simp [Lib.join_nil]
  | cons w r =>
    rw [Lib.join_length]
    have : Lib.lens (w :: r) + (r.length + 1) = sumL (w :: r) := by
      unfold Lib.lens sumL
      rw [show r.length + 1 = (w :: r).length from rfl]
      generalize w :: r = l
      induction l with
      | nil => rfl
      | cons x l ih => simp only [List.map_cons, List.sum_cons, List.length_cons] at *; omega
    simp only [List.length_cons, List.length_nil]
    omega

theorem join30 (hs : HS) (h o : Nat) (cap : Option Nat) (ws : List (List UInt8)) (hS : SlAt hs (.slice h o ws.length cap) (ws.map HV.str)) (h0 : 0 < ws.length) (hb : sumL ws < 2147483648) :
    HCall Tryd.prog 30 [.slice h o ws.length cap, .str [32]] hs fun v hs' => v = .str (Lib.join ws [32]) ∧ hs' = hs := by
  refine xJoin_sound ok30 (fun bk o c xs sep w h1 h2 h3 h4 h5 => Any.strings_Join Tryd.lays156 Tryd.Builder_Extra_156 bk o c xs sep w h1 h2 h3 h4 h5) ?_
  have ht := hS.take
  have hst : strs (ws.map HV.str) = some ws := by
    clear hS h0 hb ht
    induction ws with
    | nil => rfl
    | cons w ws ih => simp [strs, ih]
  simp only [xJoin, ht, hst]
  have h1 := join_len ws
  have h2 := sumL_len ws
  rw [if_pos ⟨h0, by omega, by omega⟩]

/-- digits.Join. -/
def joinL (ws : List (List UInt8)) : List UInt8 := if wordsL ws = true then Lib.join ws [32] else []
theorem join20 (hs : HS) (v : HV) (ws : List (List UInt8)) (hS : SlAt hs v (ws.map HV.str)) (hb : sumL ws < 2147483648) :
    HC Tryd.prog 20 [v] hs fun r hs' => r = .tup [.str (joinL ws), .bool (wordsL ws)] ∧ hs' = hs := by
  have hwl := sumL_len ws
  refine HC.wp mixed Tryd.func20 c20 ?_
  simp (disch := first | omega | decide) only [vwp_skip, vwp_ret, vwp_exit, vwp_lab, vwp_seq, vwp_cond, vwp_block, vwp_scope, vwp_region, vwp_draw, vwp_loop, vcnd_tt, vcnd_ff, vthen_normal, vthen_ret, vthen_exit, vblock_normal, vblock_ret, vblock_exit, vreg_nil, vreg_cons, vhl_nil, vhl_op, vhl_guard, vguard_tt, vguard_ff, vguard_tf, vguard_ft, vguard_no, vact_op, vop_some, vput_some, vput_none, vsame_sm, vunit_sm, vget_nil, vget_cons, vget_some,
    vo_mv, vo_bin, vo_un, vo_ext, vo_len, vo_idxS, vo_idxStr, vo_load, vo_pick, vb_lss, vb_leq, vb_gtr, vb_geq, vb_eql, vb_neq, vb_seql, vb_sneq, vb_beql, vb_bneq, vun_not, vlen_str, vlen_sl, vlen_nil, vext_tup, frame0, HX.ev, List.length_cons, List.length_nil, List.replicate, Nat.sub, List.append_nil, List.nil_append, List.cons_append, List.set_cons_succ, List.set_cons_zero, List.getElem?_cons_succ, List.getElem?_cons_zero, Option.getD_some, Option.map_some, Option.map_none, List.map_cons, List.map_nil, if_true, Bool.not_true, Bool.not_false, Bool.false_eq_true, if_false, h20]
  refine vcall_of ok29 rfl (words hs v ws hS (by omega)) ?_
  rintro _ _ ⟨rfl, rfl⟩
  cases hwd : wordsL ws
  · simp (disch := first | omega | decide) only [vwp_skip, vwp_ret, vwp_exit, vwp_lab, vwp_seq, vwp_cond, vwp_block, vwp_scope, vwp_region, vwp_draw, vwp_loop, vcnd_tt, vcnd_ff, vthen_normal, vthen_ret, vthen_exit, vblock_normal, vblock_ret, vblock_exit, vreg_nil, vreg_cons, vhl_nil, vhl_op, vhl_guard, vguard_tt, vguard_ff, vguard_tf, vguard_ft, vguard_no, vact_op, vop_some, vput_some, vput_none, vsame_sm, vunit_sm, vget_nil, vget_cons, vget_some,
    vo_mv, vo_bin, vo_un, vo_ext, vo_len, vo_idxS, vo_idxStr, vo_load, vo_pick, vb_lss, vb_leq, vb_gtr, vb_geq, vb_eql, vb_neq, vb_seql, vb_sneq, vb_beql, vb_bneq, vun_not, vlen_str, vlen_sl, vlen_nil, vext_tup, frame0, HX.ev, List.length_cons, List.length_nil, List.replicate, Nat.sub, List.append_nil, List.nil_append, List.cons_append, List.set_cons_succ, List.set_cons_zero, List.getElem?_cons_succ, List.getElem?_cons_zero, Option.getD_some, Option.map_some, Option.map_none, List.map_cons, List.map_nil, if_true, Bool.not_true, Bool.not_false, Bool.false_eq_true, if_false]
    exact ⟨rfl, _, rfl, by simp [joinL, hwd], trivial⟩
  · simp (disch := first | omega | decide) only [vwp_skip, vwp_ret, vwp_exit, vwp_lab, vwp_seq, vwp_cond, vwp_block, vwp_scope, vwp_region, vwp_draw, vwp_loop, vcnd_tt, vcnd_ff, vthen_normal, vthen_ret, vthen_exit, vblock_normal, vblock_ret, vblock_exit, vreg_nil, vreg_cons, vhl_nil, vhl_op, vhl_guard, vguard_tt, vguard_ff, vguard_tf, vguard_ft, vguard_no, vact_op, vop_some, vput_some, vput_none, vsame_sm, vunit_sm, vget_nil, vget_cons, vget_some,
    vo_mv, vo_bin, vo_un, vo_ext, vo_len, vo_idxS, vo_idxStr, vo_load, vo_pick, vb_lss, vb_leq, vb_gtr, vb_geq, vb_eql, vb_neq, vb_seql, vb_sneq, vb_beql, vb_bneq, vun_not, vlen_str, vlen_sl, vlen_nil, vext_tup, frame0, HX.ev, List.length_cons, List.length_nil, List.replicate, Nat.sub, List.append_nil, List.nil_append, List.cons_append, List.set_cons_succ, List.set_cons_zero, List.getElem?_cons_succ, List.getElem?_cons_zero, Option.getD_some, Option.map_some, Option.map_none, List.map_cons, List.map_nil, if_true, Bool.not_true, Bool.not_false, Bool.false_eq_true, if_false]
    have h0 : 0 < ws.length := by
      cases ws with
      | nil => simp [wordsL] at hwd
      | cons => simp
    rcases id hS with ⟨rfl, h⟩ | ⟨h, o, cap, cs, ro, opn, olds, rfl, hk, hc⟩
    · simp at h; subst h; simp at h0
    · rw [List.length_map] at hS ⊢
      refine vcall_ofC rfl (join30 _ h o cap ws hS h0 hb) ?_
      rintro _ _ ⟨rfl, rfl⟩
      simp (disch := first | omega | decide) only [vwp_skip, vwp_ret, vwp_exit, vwp_lab, vwp_seq, vwp_cond, vwp_block, vwp_scope, vwp_region, vwp_draw, vwp_loop, vcnd_tt, vcnd_ff, vthen_normal, vthen_ret, vthen_exit, vblock_normal, vblock_ret, vblock_exit, vreg_nil, vreg_cons, vhl_nil, vhl_op, vhl_guard, vguard_tt, vguard_ff, vguard_tf, vguard_ft, vguard_no, vact_op, vop_some, vput_some, vput_none, vsame_sm, vunit_sm, vget_nil, vget_cons, vget_some,
    vo_mv, vo_bin, vo_un, vo_ext, vo_len, vo_idxS, vo_idxStr, vo_load, vo_pick, vb_lss, vb_leq, vb_gtr, vb_geq, vb_eql, vb_neq, vb_seql, vb_sneq, vb_beql, vb_bneq, vun_not, vlen_str, vlen_sl, vlen_nil, vext_tup, frame0, HX.ev, List.length_cons, List.length_nil, List.replicate, Nat.sub, List.append_nil, List.nil_append, List.cons_append, List.set_cons_succ, List.set_cons_zero, List.getElem?_cons_succ, List.getElem?_cons_zero, Option.getD_some, Option.map_some, Option.map_none, List.map_cons, List.map_nil, if_true, Bool.not_true, Bool.not_false, Bool.false_eq_true, if_false]
      exact ⟨rfl, _, rfl, by simp [joinL, hwd], trivial⟩

theorem SlAt_new (hs : HS) (xs : List HV) (ro : Bool) : SlAt (hs ++ [some (.cells 1 xs ro false [])]) (.slice hs.length 0 xs.length (some xs.length)) xs :=
  .inr ⟨hs.length, 0, some xs.length, xs, ro, false, [], rfl, by simp, fun i x h => by simpa using h⟩

theorem pcs_bound : ∀ s : List UInt8, (pcs s).length ≤ s.length + 1
  | [] => by simp [pcs]
  | c :: s => by
    have ih := pcs_bound s
    unfold pcs
    split
    · simp; omega
    · split
      · simp
      · rename_i p r h
        rw [h] at ih
        simp at ih ⊢; omega

theorem sumL_pcs : ∀ s : List UInt8, sumL (pcs s) = s.length + 1
  | [] => by simp [pcs, sumL]
  | c :: s => by
    have ih := sumL_pcs s
    unfold pcs
    split
    · simp only [sumL, List.map_cons, List.sum_cons, List.length_cons, List.length_nil] at *; omega
    · split
      · rename_i h; exact absurd h (pcs_ne s)
      · rename_i p r h
        rw [h] at ih
        simp only [sumL, List.map_cons, List.sum_cons, List.length_cons, List.length_nil] at *; omega

/-- digits.Split. -/
theorem split23 (hs : HS) (s : List UInt8) (hg : hs[2]? = some (some (.gint 1))) (hb : s.length < 4294967281) :
    HC Tryd.prog 23 [.str s] hs fun r hs' => r = .tup [if wordsL (pcs s) = true then .slice hs.length 0 (pcs s).length (some (pcs s).length) else .nilSlice, .bool (wordsL (pcs s))] ∧ hs' = hs ++ [some (.cells 1 ((pcs s).map HV.str) false false [])] := by
  have hpb := pcs_bound s
  refine HC.wp mixed Tryd.func23 c23 ?_
  simp (disch := first | omega | decide) only [vwp_skip, vwp_ret, vwp_exit, vwp_lab, vwp_seq, vwp_cond, vwp_block, vwp_scope, vwp_region, vwp_draw, vwp_loop, vcnd_tt, vcnd_ff, vthen_normal, vthen_ret, vthen_exit, vblock_normal, vblock_ret, vblock_exit, vreg_nil, vreg_cons, vhl_nil, vhl_op, vhl_guard, vguard_tt, vguard_ff, vguard_tf, vguard_ft, vguard_no, vact_op, vop_some, vput_some, vput_none, vsame_sm, vunit_sm, vget_nil, vget_cons, vget_some,
    vo_mv, vo_bin, vo_un, vo_ext, vo_len, vo_idxS, vo_idxStr, vo_load, vo_pick, vb_lss, vb_leq, vb_gtr, vb_geq, vb_eql, vb_neq, vb_seql, vb_sneq, vb_beql, vb_bneq, vun_not, vlen_str, vlen_sl, vlen_nil, vext_tup, frame0, HX.ev, List.length_cons, List.length_nil, List.replicate, Nat.sub, List.append_nil, List.nil_append, List.cons_append, List.set_cons_succ, List.set_cons_zero, List.getElem?_cons_succ, List.getElem?_cons_zero, Option.getD_some, Option.map_some, Option.map_none, List.map_cons, List.map_nil, if_true, Bool.not_true, Bool.not_false, Bool.false_eq_true, if_false, h23]
  refine vcall_of ok31 rfl (split31 hs s hg hb) ?_
  rintro _ _ ⟨rfl, rfl⟩
  simp (disch := first | omega | decide) only [vwp_skip, vwp_ret, vwp_exit, vwp_lab, vwp_seq, vwp_cond, vwp_block, vwp_scope, vwp_region, vwp_draw, vwp_loop, vcnd_tt, vcnd_ff, vthen_normal, vthen_ret, vthen_exit, vblock_normal, vblock_ret, vblock_exit, vreg_nil, vreg_cons, vhl_nil, vhl_op, vhl_guard, vguard_tt, vguard_ff, vguard_tf, vguard_ft, vguard_no, vact_op, vop_some, vput_some, vput_none, vsame_sm, vunit_sm, vget_nil, vget_cons, vget_some,
    vo_mv, vo_bin, vo_un, vo_ext, vo_len, vo_idxS, vo_idxStr, vo_load, vo_pick, vb_lss, vb_leq, vb_gtr, vb_geq, vb_eql, vb_neq, vb_seql, vb_sneq, vb_beql, vb_bneq, vun_not, vlen_str, vlen_sl, vlen_nil, vext_tup, frame0, HX.ev, List.length_cons, List.length_nil, List.replicate, Nat.sub, List.append_nil, List.nil_append, List.cons_append, List.set_cons_succ, List.set_cons_zero, List.getElem?_cons_succ, List.getElem?_cons_zero, Option.getD_some, Option.map_some, Option.map_none, List.map_cons, List.map_nil, if_true, Bool.not_true, Bool.not_false, Bool.false_eq_true, if_false]
  have hS := SlAt_new hs ((pcs s).map HV.str) false
  rw [List.length_map] at hS
  refine vcall_of ok29 rfl (words _ _ (pcs s) hS (by omega)) ?_
  rintro _ _ ⟨rfl, rfl⟩
  cases hwd : wordsL (pcs s)
  · simp (disch := first | omega | decide) only [vwp_skip, vwp_ret, vwp_exit, vwp_lab, vwp_seq, vwp_cond, vwp_block, vwp_scope, vwp_region, vwp_draw, vwp_loop, vcnd_tt, vcnd_ff, vthen_normal, vthen_ret, vthen_exit, vblock_normal, vblock_ret, vblock_exit, vreg_nil, vreg_cons, vhl_nil, vhl_op, vhl_guard, vguard_tt, vguard_ff, vguard_tf, vguard_ft, vguard_no, vact_op, vop_some, vput_some, vput_none, vsame_sm, vunit_sm, vget_nil, vget_cons, vget_some,
    vo_mv, vo_bin, vo_un, vo_ext, vo_len, vo_idxS, vo_idxStr, vo_load, vo_pick, vb_lss, vb_leq, vb_gtr, vb_geq, vb_eql, vb_neq, vb_seql, vb_sneq, vb_beql, vb_bneq, vun_not, vlen_str, vlen_sl, vlen_nil, vext_tup, frame0, HX.ev, List.length_cons, List.length_nil, List.replicate, Nat.sub, List.append_nil, List.nil_append, List.cons_append, List.set_cons_succ, List.set_cons_zero, List.getElem?_cons_succ, List.getElem?_cons_zero, Option.getD_some, Option.map_some, Option.map_none, List.map_cons, List.map_nil, if_true, Bool.not_true, Bool.not_false, Bool.false_eq_true, if_false]
    exact ⟨rfl, _, rfl, by simp, trivial⟩
  · simp (disch := first | omega | decide) only [vwp_skip, vwp_ret, vwp_exit, vwp_lab, vwp_seq, vwp_cond, vwp_block, vwp_scope, vwp_region, vwp_draw, vwp_loop, vcnd_tt, vcnd_ff, vthen_normal, vthen_ret, vthen_exit, vblock_normal, vblock_ret, vblock_exit, vreg_nil, vreg_cons, vhl_nil, vhl_op, vhl_guard, vguard_tt, vguard_ff, vguard_tf, vguard_ft, vguard_no, vact_op, vop_some, vput_some, vput_none, vsame_sm, vunit_sm, vget_nil, vget_cons, vget_some,
    vo_mv, vo_bin, vo_un, vo_ext, vo_len, vo_idxS, vo_idxStr, vo_load, vo_pick, vb_lss, vb_leq, vb_gtr, vb_geq, vb_eql, vb_neq, vb_seql, vb_sneq, vb_beql, vb_bneq, vun_not, vlen_str, vlen_sl, vlen_nil, vext_tup, frame0, HX.ev, List.length_cons, List.length_nil, List.replicate, Nat.sub, List.append_nil, List.nil_append, List.cons_append, List.set_cons_succ, List.set_cons_zero, List.getElem?_cons_succ, List.getElem?_cons_zero, Option.getD_some, Option.map_some, Option.map_none, List.map_cons, List.map_nil, if_true, Bool.not_true, Bool.not_false, Bool.false_eq_true, if_false]
    exact ⟨rfl, _, rfl, by simp, trivial⟩

theorem wordsL_back {ws : List (List UInt8)} (h : wordsL ws = true) : pcs (Lib.join ws [32]) = ws := by
  unfold wordsL at h
  simp only [Bool.and_eq_true, List.all_eq_true] at h
  refine pcs_join ws (fun h0 => by subst h0; simp at h) fun w hw c hc h32 => ?_
  have := h.1 w hw
  unfold W.wordL at this
  simp only [Bool.and_eq_true, List.all_eq_true] at this
  have := this.1 c hc
  subst h32
  simp [W.okB] at this
end B
end Go.Proofs.YteedidafobfijaaDoor
