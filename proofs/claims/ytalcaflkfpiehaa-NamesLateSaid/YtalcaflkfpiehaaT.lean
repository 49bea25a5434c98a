/-
  One thing, done to both books.
-/
import Derived.Test.YtalcaflkfpiehaaQ
import Derived.Test.YtalcaflkfpiehaaD
namespace Go.Proofs.Ytalcaflkfpiehaa
open Go Go.HL V P2
namespace R
open B (NM cnt putN cutN keys sum sum_put sum_cut cnt_le hold13 drop14 BookIs ok13 ok14)
set_option maxRecDepth 100000
set_option maxHeartbeats 4000000
set_option linter.unusedSimpArgs false
theorem ok24 : okF Try.prog 24 := ⟨_, Try.func24, by kernel_rfl, by kernel_rfl⟩

/-- what a book is like behind a turn. -/
def turned (m : NM) (k : List UInt8) (second : Bool) : NM :=
  if second = true then (if cnt m k = 0 then m else if cnt m k = 1 then cutN m k else putN m k (cnt m k - 1)) else (if validL k = true then putN m k (cnt m k + 1) else m)
def turnedR (m : NM) (k : List UInt8) (second : Bool) : NM := if second = true then dropR m k else (if validL k = true then insR m k else m)

theorem alike_turn {m1 m2 : NM} (h : Alike m1 m2) (hg : B.Good m1) (k : List UInt8) (b : Bool) : Alike (turned m1 k b) (turnedR m2 k b) ∧ B.Good (turned m1 k b) ∧ sum (turned m1 k b) ≤ sum m1 + 1 := by
  have hpos : ∀ p ∈ m1, 0 < p.2 := fun p hp => (hg p hp).1
  have hth := h.there hpos k
  have hh := h.held k
  have hz : cnt m1 k = 0 ↔ k ∉ keys m1 := by
    constructor
    · intro h0 hk
      obtain ⟨⟨k', n⟩, hp, rfl⟩ := List.mem_map.1 hk
      have := hpos _ hp
      rw [cnt_mem h.nodup hp] at h0
      simp only at this
      omega
    · exact cnt_not
  unfold turned turnedR
  cases b
  · simp only [Bool.false_eq_true, if_false]
    cases hv : validL k
    · simp only [Bool.false_eq_true, if_false]
      exact ⟨h, hg, by omega⟩
    · simp only [if_true]
      refine ⟨?_, hg.put (by omega) hv, by have := sum_put m1 k (cnt m1 k + 1); omega⟩
      unfold insR
      rw [hth, hh]
      by_cases h0 : cnt m1 k = 0
      · simp only [h0, ne_eq, not_true_eq_false, decide_false, Bool.false_eq_true, if_false]
        exact h.insert (hz.1 h0)
      · simp only [h0, ne_eq, not_false_eq_true, decide_true, if_true]
        exact h.set (by
          rcases Classical.em (k ∈ keys m1) with hk | hk
          · exact hk
          · exact absurd (hz.2 hk) h0) _
  · simp only [if_true]
    unfold dropR
    rw [hth, hh]
    by_cases h0 : cnt m1 k = 0
    · simp only [h0, ne_eq, not_true_eq_false, decide_false, Bool.false_eq_true, if_false, if_true]
      exact ⟨h, hg, by omega⟩
    · have hk : k ∈ keys m1 := by
        rcases Classical.em (k ∈ keys m1) with hk | hk
        · exact hk
        · exact absurd (hz.2 hk) h0
      simp only [h0, ne_eq, not_false_eq_true, decide_true, if_true, if_false]
      by_cases h1 : cnt m1 k = 1
      · simp only [h1, if_true]
        exact ⟨h.erase hk, hg.cut k, by have := sum_cut m1 k; omega⟩
      · simp only [h1, if_false]
        exact ⟨h.set hk _, hg.put (by omega) (hg.valid h0), by have := sum_put m1 k (cnt m1 k - 1); omega⟩

/-- both books in memory: the program's, whose blocks the reference does not write. -/
def Both (own : Nat → Prop) (hs : HS) (hB hm hD : Nat) (m1 m2 : NM) : Prop :=
  hs[hB]? = some (some (.cells 1 [.map hm] false false [])) ∧ MapIs HV.str hs hm (B.vals m1) ∧ hm ≠ hB ∧ ¬ own hB ∧ ¬ own hm ∧ (∀ i, hs.length ≤ i → own i) ∧ RefIs own hs hD m2

variable {own : Nat → Prop} {hs : HS} {hB hm hD : Nat} {m1 m2 : NM}

theorem Both.book (H : Both own hs hB hm hD m1 m2) : BookIs 0 hs hB m1 := ⟨hm, H.1, H.2.1, Nat.zero_le _, Nat.zero_le _, H.2.2.1⟩
theorem RefIs.cells {hs' : HS} (R : RefIs own hs hD m2) (h : B.CellsKept hs hs') : RefIs own hs' hD m2 := by
  obtain ⟨o1, vL, b, r⟩ := R
  refine ⟨o1, vL, h _ _ _ _ _ _ b, ?_⟩
  rcases r with ⟨h1, h2 | ⟨h', ro, opn, olds, h2, h3⟩⟩ | ⟨h1, h', olds, h2, h3, h4, h5, h6⟩
  · exact .inl ⟨h1, .inl h2⟩
  · exact .inl ⟨h1, .inr ⟨h', ro, opn, olds, h2, h _ _ _ _ _ _ h3⟩⟩
  · exact .inr ⟨h1, h', olds, h2, h3, h4, h _ _ _ _ _ _ h5, h6⟩
/-- the program's book has turned. -/
theorem Both.one (H : Both own hs hB hm hD m1 m2) {hs' : HS} {m' : NM} (b : BookIs 0 hs' hB m') (hl : hs'.length = hs.length) (hc : B.CellsKept hs hs') : Both own hs' hB hm hD m' m2 := by
  obtain ⟨h1, h2, h3, h4, h5, h6, h7⟩ := H
  obtain ⟨hm', b1, b2, _, _, b3⟩ := b
  have := hc _ _ _ _ _ _ h1
  rw [this] at b1
  simp at b1; subst b1
  exact ⟨this, b2, b3, h4, h5, fun i hi => h6 i (by omega), h7.cells hc⟩
/-- the reference's has. -/
theorem Both.two (H : Both own hs hB hm hD m1 m2) {hs' : HS} {m' : NM} (r : RefIs own hs' hD m') (hl : hs.length ≤ hs'.length) (hj : ∀ j, ¬ own j → hs'[j]? = hs[j]?) : Both own hs' hB hm hD m1 m' := by
  obtain ⟨h1, h2, h3, h4, h5, h6, h7⟩ := H
  exact ⟨by rw [hj hB h4]; exact h1, h2.same (hj hm h5), h3, h4, h5, fun i hi => h6 i (by omega), r⟩
theorem Both.keep (H : Both own hs hB hm hD m1 m2) {hs' : HS} {n : Nat} (hn : hs.length ≤ n) (hk : Keeps n hs hs') : Both own hs' hB hm hD m1 m2 := by
  obtain ⟨h1, h2, h3, h4, h5, h6, h7⟩ := H
  exact ⟨hk.get (by have := lt_of_get h1; omega) h1, h2.same (hk.2 hm (by have := h2.lt; omega)), h3, h4, h5, fun i hi => h6 i (by have := hk.1; omega), h7.keep hn hk⟩

/-- cells that are nobody's stay. -/
def Stay (own : Nat → Prop) (hs hs' : HS) : Prop := hs.length ≤ hs'.length ∧ ∀ (j s : Nat) (cs : List HV) (ro opn : Bool) (olds : List Nat), ¬ own j → hs[j]? = some (some (.cells s cs ro opn olds)) → hs'[j]? = some (some (.cells s cs ro opn olds))

def turnC (c : Int) (m : NM) (k : List UInt8) : NM := if c = 1 then turned m k false else if c = 2 then turned m k true else m
def turnD (c : Int) (m : NM) (k : List UInt8) : NM := if c = 1 then turnedR m k false else if c = 2 then turnedR m k true else m

theorem turn24 (H : Both own hs hB hm hD m1 m2) (A : Alike m1 m2) (G : B.Good m1) (k : List UInt8) (c : Int) (hs1 : sum m1 < 8796093022208) :
    HC Try.prog 24 [.agg [.ptr hB 0, .ptr hD 0], .str k, .int .i64 c] hs fun r hs' => r = .bool true ∧ Both own hs' hB hm hD (turnC c m1 k) (turnD c m2 k) ∧ Stay own hs hs' := by
  have hbo : hbox hs (.agg [.ptr hB 0, .ptr hD 0]) = some (.ptr hs.length 0, hs ++ [some (.cells 1 [.ptr hB 0, .ptr hD 0] false false [])]) := rfl
  obtain ⟨g, hg⟩ : ∃ g, g = hs ++ [some (HB.cells 1 [.ptr hB 0, .ptr hD 0] false false [])] := ⟨_, rfl⟩
  have kg : Keeps hs.length hs g := by rw [hg]; exact Keeps.app (Nat.le_refl _)
  have gP : g[hs.length]? = some (some (.cells 1 [.ptr hB 0, .ptr hD 0] false false [])) := by rw [hg]; simp
  rw [← hg] at hbo
  have Hg := H.keep (Nat.le_refl _) kg
  have hcl := cnt_le m1 k
  have hpos : ∀ p ∈ m1, 0 < p.2 := fun p hp => (G p hp).1
  have hml : m2.length < 8796093022208 := by
    have h1 := B.len_le_sum G
    have h2 := A.1.length_eq
    omega
  have hh := A.held k
  have hth := A.there hpos k
  have hP0 : ∀ g' : HS, g'[hs.length]? = some (some (.cells 1 [.ptr hB 0, .ptr hD 0] false false [])) → hload none g' (.ptr hs.length 0) = some (.ptr hB 0) ∧ hload none g' (.ptr hs.length 1) = some (.ptr hD 0) := fun g' h => by
    simp only [hload, h]; exact ⟨rfl, rfl⟩
  have p0 := (hP0 g gP).1
  have stay0 : Stay own hs g := ⟨kg.1, fun j s cs ro opn olds _ hj => kg.get (lt_of_get hj) hj⟩
  refine HC.wp mixed Try.func24 c24 ?_
  by_cases c1 : c = 1
  · have d1 : decide (c = 1) = true := by simp [c1]
    simp -implicitDefEqProofs (disch := first | omega | decide) only [vwp_skip, vwp_ret, vwp_exit, vwp_lab, vwp_seq, vwp_cond, vwp_block, vwp_scope, vwp_region, vwp_draw, vwp_loop, vcnd_tt, vcnd_ff, vthen_normal, vthen_ret, vthen_exit, vblock_normal, vblock_ret, vblock_exit, vreg_nil, vreg_cons, vhl_nil, vhl_op, vhl_guard, vguard_tt, vguard_ff, vguard_tf, vguard_ft, vguard_no, vact_op, vop_some, vput_some, vput_none, vsame_sm, vunit_sm, vget_nil, vget_cons, vget_some,
    vo_mv, vo_bin, vo_un, vo_ext, vo_len, vo_idxS, vo_idxStr, vo_load, vo_pick, vo_append, vo_bslice, evp, vo_nilc, vo_faddr, vo_store, vo_sliceSl, vo_sliceStr, vo_cInt, vo_copy, vo_mkSlice, vo_box, vo_build, vo_b2s, vb2s_sl, vb2s_nil, vcInt, vnil_ptr, vo_mkMap, vo_lookup, vo_mapUpd, vo_del, vdel_some, vo_rangeMap, vo_entry, vfaddr_ptr, beq_self_eq_true, eq_self, decide_true, decide_false, vb_lss, vb_leq, vb_gtr, vb_geq, vb_eql, vb_neq, vb_seql, vb_sneq, vb_beql, vb_bneq, vun_not, vlen_str, vlen_sl, vlen_nil, vext_tup, HX.ev, List.length_cons, List.length_nil, List.append_nil, List.nil_append, List.cons_append, List.set_cons_succ, List.set_cons_zero, List.getElem?_cons_succ, List.getElem?_cons_zero, Option.getD_some, Option.map_some, Option.map_none, List.map_cons, List.map_nil, if_true, Bool.not_true, Bool.not_false, Bool.false_eq_true, if_false, h24, hbo, d1, p0, frame0, List.replicate, Nat.sub]
    refine vcall_of ok13 rfl (hold13 Hg.book (Nat.zero_le _) k (by omega)) ?_
    rintro _ g1 ⟨rfl, B1, _, hl1, hc1⟩
    have H1 := Hg.one B1 hl1 hc1
    have p1 := (hP0 g1 (hc1 _ _ _ _ _ _ gP)).2
    simp -implicitDefEqProofs (disch := first | omega | decide) only [vwp_skip, vwp_ret, vwp_exit, vwp_lab, vwp_seq, vwp_cond, vwp_block, vwp_scope, vwp_region, vwp_draw, vwp_loop, vcnd_tt, vcnd_ff, vthen_normal, vthen_ret, vthen_exit, vblock_normal, vblock_ret, vblock_exit, vreg_nil, vreg_cons, vhl_nil, vhl_op, vhl_guard, vguard_tt, vguard_ff, vguard_tf, vguard_ft, vguard_no, vact_op, vop_some, vput_some, vput_none, vsame_sm, vunit_sm, vget_nil, vget_cons, vget_some,
    vo_mv, vo_bin, vo_un, vo_ext, vo_len, vo_idxS, vo_idxStr, vo_load, vo_pick, vo_append, vo_bslice, evp, vo_nilc, vo_faddr, vo_store, vo_sliceSl, vo_sliceStr, vo_cInt, vo_copy, vo_mkSlice, vo_box, vo_build, vo_b2s, vb2s_sl, vb2s_nil, vcInt, vnil_ptr, vo_mkMap, vo_lookup, vo_mapUpd, vo_del, vdel_some, vo_rangeMap, vo_entry, vfaddr_ptr, beq_self_eq_true, eq_self, decide_true, decide_false, vb_lss, vb_leq, vb_gtr, vb_geq, vb_eql, vb_neq, vb_seql, vb_sneq, vb_beql, vb_bneq, vun_not, vlen_str, vlen_sl, vlen_nil, vext_tup, HX.ev, List.length_cons, List.length_nil, List.append_nil, List.nil_append, List.cons_append, List.set_cons_succ, List.set_cons_zero, List.getElem?_cons_succ, List.getElem?_cons_zero, Option.getD_some, Option.map_some, Option.map_none, List.map_cons, List.map_nil, if_true, Bool.not_true, Bool.not_false, Bool.false_eq_true, if_false, p1]
    refine vcall_of ok37 rfl (hold37 H1.2.2.2.2.2.2 H1.2.2.2.2.2.1 k (by omega) (by rw [hh]; omega)) ?_
    rintro _ g2 ⟨rfl, B2, hl2, hj2⟩
    have H2 := H1.two B2 hl2 hj2
    rw [hh]
    simp -implicitDefEqProofs (disch := first | omega | decide) only [vwp_skip, vwp_ret, vwp_exit, vwp_lab, vwp_seq, vwp_cond, vwp_block, vwp_scope, vwp_region, vwp_draw, vwp_loop, vcnd_tt, vcnd_ff, vthen_normal, vthen_ret, vthen_exit, vblock_normal, vblock_ret, vblock_exit, vreg_nil, vreg_cons, vhl_nil, vhl_op, vhl_guard, vguard_tt, vguard_ff, vguard_tf, vguard_ft, vguard_no, vact_op, vop_some, vput_some, vput_none, vsame_sm, vunit_sm, vget_nil, vget_cons, vget_some,
    vo_mv, vo_bin, vo_un, vo_ext, vo_len, vo_idxS, vo_idxStr, vo_load, vo_pick, vo_append, vo_bslice, evp, vo_nilc, vo_faddr, vo_store, vo_sliceSl, vo_sliceStr, vo_cInt, vo_copy, vo_mkSlice, vo_box, vo_build, vo_b2s, vb2s_sl, vb2s_nil, vcInt, vnil_ptr, vo_mkMap, vo_lookup, vo_mapUpd, vo_del, vdel_some, vo_rangeMap, vo_entry, vfaddr_ptr, beq_self_eq_true, eq_self, decide_true, decide_false, vb_lss, vb_leq, vb_gtr, vb_geq, vb_eql, vb_neq, vb_seql, vb_sneq, vb_beql, vb_bneq, vun_not, vlen_str, vlen_sl, vlen_nil, vext_tup, HX.ev, List.length_cons, List.length_nil, List.append_nil, List.nil_append, List.cons_append, List.set_cons_succ, List.set_cons_zero, List.getElem?_cons_succ, List.getElem?_cons_zero, Option.getD_some, Option.map_some, Option.map_none, List.map_cons, List.map_nil, if_true, Bool.not_true, Bool.not_false, Bool.false_eq_true, if_false, beq_self_eq_true]
    refine ⟨rfl, _, rfl, rfl, ?_, by have := kg.1; omega, fun j s cs ro opn olds ho hj => ?_⟩
    · simpa [turnC, turnD, turned, turnedR, c1] using H2
    · rw [hj2 j ho]; exact hc1 _ _ _ _ _ _ (stay0.2 j s cs ro opn olds ho hj)
  · have d1 : decide (c = 1) = false := by simp [c1]
    by_cases c2 : c = 2
    · have d2 : decide (c = 2) = true := by simp [c2]
      simp -implicitDefEqProofs (disch := first | omega | decide) only [vwp_skip, vwp_ret, vwp_exit, vwp_lab, vwp_seq, vwp_cond, vwp_block, vwp_scope, vwp_region, vwp_draw, vwp_loop, vcnd_tt, vcnd_ff, vthen_normal, vthen_ret, vthen_exit, vblock_normal, vblock_ret, vblock_exit, vreg_nil, vreg_cons, vhl_nil, vhl_op, vhl_guard, vguard_tt, vguard_ff, vguard_tf, vguard_ft, vguard_no, vact_op, vop_some, vput_some, vput_none, vsame_sm, vunit_sm, vget_nil, vget_cons, vget_some,
    vo_mv, vo_bin, vo_un, vo_ext, vo_len, vo_idxS, vo_idxStr, vo_load, vo_pick, vo_append, vo_bslice, evp, vo_nilc, vo_faddr, vo_store, vo_sliceSl, vo_sliceStr, vo_cInt, vo_copy, vo_mkSlice, vo_box, vo_build, vo_b2s, vb2s_sl, vb2s_nil, vcInt, vnil_ptr, vo_mkMap, vo_lookup, vo_mapUpd, vo_del, vdel_some, vo_rangeMap, vo_entry, vfaddr_ptr, beq_self_eq_true, eq_self, decide_true, decide_false, vb_lss, vb_leq, vb_gtr, vb_geq, vb_eql, vb_neq, vb_seql, vb_sneq, vb_beql, vb_bneq, vun_not, vlen_str, vlen_sl, vlen_nil, vext_tup, HX.ev, List.length_cons, List.length_nil, List.append_nil, List.nil_append, List.cons_append, List.set_cons_succ, List.set_cons_zero, List.getElem?_cons_succ, List.getElem?_cons_zero, Option.getD_some, Option.map_some, Option.map_none, List.map_cons, List.map_nil, if_true, Bool.not_true, Bool.not_false, Bool.false_eq_true, if_false, h24, hbo, d1, d2, p0, frame0, List.replicate, Nat.sub]
      refine vcall_of ok14 rfl (drop14 Hg.book (Nat.zero_le _) k (by omega)) ?_
      rintro _ g1 ⟨rfl, B1, _, hl1, hc1⟩
      have H1 := Hg.one B1 hl1 hc1
      have p1 := (hP0 g1 (hc1 _ _ _ _ _ _ gP)).2
      simp -implicitDefEqProofs (disch := first | omega | decide) only [vwp_skip, vwp_ret, vwp_exit, vwp_lab, vwp_seq, vwp_cond, vwp_block, vwp_scope, vwp_region, vwp_draw, vwp_loop, vcnd_tt, vcnd_ff, vthen_normal, vthen_ret, vthen_exit, vblock_normal, vblock_ret, vblock_exit, vreg_nil, vreg_cons, vhl_nil, vhl_op, vhl_guard, vguard_tt, vguard_ff, vguard_tf, vguard_ft, vguard_no, vact_op, vop_some, vput_some, vput_none, vsame_sm, vunit_sm, vget_nil, vget_cons, vget_some,
    vo_mv, vo_bin, vo_un, vo_ext, vo_len, vo_idxS, vo_idxStr, vo_load, vo_pick, vo_append, vo_bslice, evp, vo_nilc, vo_faddr, vo_store, vo_sliceSl, vo_sliceStr, vo_cInt, vo_copy, vo_mkSlice, vo_box, vo_build, vo_b2s, vb2s_sl, vb2s_nil, vcInt, vnil_ptr, vo_mkMap, vo_lookup, vo_mapUpd, vo_del, vdel_some, vo_rangeMap, vo_entry, vfaddr_ptr, beq_self_eq_true, eq_self, decide_true, decide_false, vb_lss, vb_leq, vb_gtr, vb_geq, vb_eql, vb_neq, vb_seql, vb_sneq, vb_beql, vb_bneq, vun_not, vlen_str, vlen_sl, vlen_nil, vext_tup, HX.ev, List.length_cons, List.length_nil, List.append_nil, List.nil_append, List.cons_append, List.set_cons_succ, List.set_cons_zero, List.getElem?_cons_succ, List.getElem?_cons_zero, Option.getD_some, Option.map_some, Option.map_none, List.map_cons, List.map_nil, if_true, Bool.not_true, Bool.not_false, Bool.false_eq_true, if_false, p1]
      refine vcall_of ok38 rfl (drop38 H1.2.2.2.2.2.2 H1.2.2.2.2.2.1 k (by omega) (fun p hp => hpos p (A.1.mem_iff.2 hp)) (by rw [hh]; omega)) ?_
      rintro _ g2 ⟨rfl, B2, hl2, hj2⟩
      have H2 := H1.two B2 hl2 hj2
      rw [hh, hth]
      simp -implicitDefEqProofs (disch := first | omega | decide) only [vwp_skip, vwp_ret, vwp_exit, vwp_lab, vwp_seq, vwp_cond, vwp_block, vwp_scope, vwp_region, vwp_draw, vwp_loop, vcnd_tt, vcnd_ff, vthen_normal, vthen_ret, vthen_exit, vblock_normal, vblock_ret, vblock_exit, vreg_nil, vreg_cons, vhl_nil, vhl_op, vhl_guard, vguard_tt, vguard_ff, vguard_tf, vguard_ft, vguard_no, vact_op, vop_some, vput_some, vput_none, vsame_sm, vunit_sm, vget_nil, vget_cons, vget_some,
    vo_mv, vo_bin, vo_un, vo_ext, vo_len, vo_idxS, vo_idxStr, vo_load, vo_pick, vo_append, vo_bslice, evp, vo_nilc, vo_faddr, vo_store, vo_sliceSl, vo_sliceStr, vo_cInt, vo_copy, vo_mkSlice, vo_box, vo_build, vo_b2s, vb2s_sl, vb2s_nil, vcInt, vnil_ptr, vo_mkMap, vo_lookup, vo_mapUpd, vo_del, vdel_some, vo_rangeMap, vo_entry, vfaddr_ptr, beq_self_eq_true, eq_self, decide_true, decide_false, vb_lss, vb_leq, vb_gtr, vb_geq, vb_eql, vb_neq, vb_seql, vb_sneq, vb_beql, vb_bneq, vun_not, vlen_str, vlen_sl, vlen_nil, vext_tup, HX.ev, List.length_cons, List.length_nil, List.append_nil, List.nil_append, List.cons_append, List.set_cons_succ, List.set_cons_zero, List.getElem?_cons_succ, List.getElem?_cons_zero, Option.getD_some, Option.map_some, Option.map_none, List.map_cons, List.map_nil, if_true, Bool.not_true, Bool.not_false, Bool.false_eq_true, if_false, beq_self_eq_true]
      refine ⟨rfl, _, rfl, rfl, ?_, by have := kg.1; omega, fun j s cs ro opn olds ho hj => ?_⟩
      · simpa [turnC, turnD, turned, turnedR, c2] using H2
      · rw [hj2 j ho]; exact hc1 _ _ _ _ _ _ (stay0.2 j s cs ro opn olds ho hj)
    · have d2 : decide (c = 2) = false := by simp [c2]
      simp -implicitDefEqProofs (disch := first | omega | decide) only [vwp_skip, vwp_ret, vwp_exit, vwp_lab, vwp_seq, vwp_cond, vwp_block, vwp_scope, vwp_region, vwp_draw, vwp_loop, vcnd_tt, vcnd_ff, vthen_normal, vthen_ret, vthen_exit, vblock_normal, vblock_ret, vblock_exit, vreg_nil, vreg_cons, vhl_nil, vhl_op, vhl_guard, vguard_tt, vguard_ff, vguard_tf, vguard_ft, vguard_no, vact_op, vop_some, vput_some, vput_none, vsame_sm, vunit_sm, vget_nil, vget_cons, vget_some,
    vo_mv, vo_bin, vo_un, vo_ext, vo_len, vo_idxS, vo_idxStr, vo_load, vo_pick, vo_append, vo_bslice, evp, vo_nilc, vo_faddr, vo_store, vo_sliceSl, vo_sliceStr, vo_cInt, vo_copy, vo_mkSlice, vo_box, vo_build, vo_b2s, vb2s_sl, vb2s_nil, vcInt, vnil_ptr, vo_mkMap, vo_lookup, vo_mapUpd, vo_del, vdel_some, vo_rangeMap, vo_entry, vfaddr_ptr, beq_self_eq_true, eq_self, decide_true, decide_false, vb_lss, vb_leq, vb_gtr, vb_geq, vb_eql, vb_neq, vb_seql, vb_sneq, vb_beql, vb_bneq, vun_not, vlen_str, vlen_sl, vlen_nil, vext_tup, HX.ev, List.length_cons, List.length_nil, List.append_nil, List.nil_append, List.cons_append, List.set_cons_succ, List.set_cons_zero, List.getElem?_cons_succ, List.getElem?_cons_zero, Option.getD_some, Option.map_some, Option.map_none, List.map_cons, List.map_nil, if_true, Bool.not_true, Bool.not_false, Bool.false_eq_true, if_false, h24, hbo, d1, d2, frame0, List.replicate, Nat.sub]
      exact ⟨rfl, _, rfl, rfl, by simpa [turnC, turnD, c1, c2] using Hg, stay0⟩
end R
end Go.Proofs.Ytalcaflkfpiehaa
