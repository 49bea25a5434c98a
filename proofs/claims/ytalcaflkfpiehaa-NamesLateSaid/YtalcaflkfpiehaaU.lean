/-
  The reference's book of names: Drop, All, New.
-/
import Derived.Test.YtalcaflkfpiehaaS
namespace Go.Proofs.Ytalcaflkfpiehaa
open Go Go.HL V P2
namespace R
open B (NM sum Good)
set_option maxRecDepth 100000
set_option maxHeartbeats 4000000
set_option linter.unusedSimpArgs false
theorem ok17 : okF Try.prog 17 := ⟨_, Try.func17, by kernel_rfl, by kernel_rfl⟩
variable {own : Nat → Prop} {hs : HS} {hD : Nat} {m : NM}

theorem new17 (hf : ∀ i, hs.length ≤ i → own i) : HC Try.prog 17 [] hs fun v hs' => v = .ptr hs.length 0 ∧ RefIs own hs' hs.length [] ∧ Keeps hs.length hs hs' ∧ hs'.length = hs.length + 1 := by
  have hbu : hbuild [.nilSlice] [] = some (.agg [.nilSlice]) := rfl
  have hbo : hbox hs (.agg [.nilSlice]) = some (.ptr hs.length 0, hs ++ [some (.cells 1 [.nilSlice] false false [])]) := rfl
  refine HC.wp mixed Try.func17 c17 ?_
  simp -implicitDefEqProofs (disch := first | omega | decide) only [vwp_skip, vwp_ret, vwp_exit, vwp_lab, vwp_seq, vwp_cond, vwp_block, vwp_scope, vwp_region, vwp_draw, vwp_loop, vcnd_tt, vcnd_ff, vthen_normal, vthen_ret, vthen_exit, vblock_normal, vblock_ret, vblock_exit, vreg_nil, vreg_cons, vhl_nil, vhl_op, vhl_guard, vguard_tt, vguard_ff, vguard_tf, vguard_ft, vguard_no, vact_op, vop_some, vput_some, vput_none, vsame_sm, vunit_sm, vget_nil, vget_cons, vget_some,
    vo_mv, vo_bin, vo_un, vo_ext, vo_len, vo_idxS, vo_idxStr, vo_load, vo_pick, vo_append, vo_bslice, evp, vo_nilc, vo_faddr, vo_store, vo_sliceSl, vo_sliceStr, vo_cInt, vo_copy, vo_mkSlice, vo_box, vo_build, vo_b2s, vb2s_sl, vb2s_nil, vcInt, vnil_ptr, vo_mkMap, vo_lookup, vo_mapUpd, vo_del, vdel_some, vo_rangeMap, vo_entry, vfaddr_ptr, beq_self_eq_true, eq_self, decide_true, decide_false, vb_lss, vb_leq, vb_gtr, vb_geq, vb_eql, vb_neq, vb_seql, vb_sneq, vb_beql, vb_bneq, vun_not, vlen_str, vlen_sl, vlen_nil, vext_tup, HX.ev, List.length_cons, List.length_nil, List.append_nil, List.nil_append, List.cons_append, List.set_cons_succ, List.set_cons_zero, List.getElem?_cons_succ, List.getElem?_cons_zero, Option.getD_some, Option.map_some, Option.map_none, List.map_cons, List.map_nil, if_true, Bool.not_true, Bool.not_false, Bool.false_eq_true, if_false, h17, hbu, hbo, frame0, List.replicate, Nat.sub]
  exact ⟨rfl, _, rfl, rfl, ⟨hf _ (Nat.le_refl _), .nilSlice, by simp, .inl ⟨rfl, .inl rfl⟩⟩, Keeps.app (Nat.le_refl _), by simp⟩

/-- a list of names and counts, at whatever place. -/
def RowsAt (hs : HS) (v : HV) (m : NM) : Prop := (m = [] ∧ (v = .nilSlice ∨ ∃ h o c, v = .slice h o 0 c)) ∨ ∃ h cap ro opn olds, v = .slice h 0 m.length cap ∧ hs[h]? = some (some (.cells 2 (flat m) ro opn olds))
theorem RowsAt.len {hs : HS} {v : HV} {m : NM} (h : RowsAt hs v m) : hlenK hs .slice v = some (.int .i64 (m.length : Nat)) := by
  rcases h with ⟨rfl, rfl | ⟨h, o, c, rfl⟩⟩ | ⟨h, cap, ro, opn, olds, rfl, hb⟩ <;> rfl
theorem RowsAt.keep {hs hs' : HS} {v : HV} {m : NM} (h : RowsAt hs v m) {n : Nat} (hn : hs.length ≤ n) (hk : Keeps n hs hs') : RowsAt hs' v m := by
  rcases h with h | ⟨h, cap, ro, opn, olds, rfl, hb⟩
  · exact .inl h
  · exact .inr ⟨h, cap, ro, opn, olds, rfl, hk.get (by have := lt_of_get hb; omega) hb⟩
theorem RowsAt.idx {hs : HS} {v : HV} {m : NM} (h : RowsAt hs v m) {i : Nat} {p : List UInt8 × Nat} (hp : m[i]? = some p) :
    ∃ b, hindexAddr 2 v (.int .i64 (i : Nat)) = some (.ptr b (i * 2)) ∧ sOk hs 2 v = true ∧ hload none hs (.ptr b (i * 2)) = some (.str p.1) ∧ hload none hs (.ptr b (i * 2 + 1)) = some (.int .i64 (p.2 : Nat)) := by
  rcases h with ⟨rfl, _⟩ | ⟨h, cap, ro, opn, olds, rfl, hb⟩
  · simp at hp
  · obtain ⟨f1, f2⟩ := flat_get hp
    exact ⟨h, by rw [vidx_some (lt_of_get hp)]; simp, by simp [sOk, hb], by simp only [hload, hb]; exact f1, by simp only [hload, hb]; exact f2⟩

theorem all26 (B : RefIs own hs hD m) (hm : m.length < 8796093022208) : HC Try.prog 26 [.ptr hD 0] hs fun v hs' => RowsAt hs' v m ∧ Keeps hs.length hs hs' := by
  have hmx : maxLen = 9223372036854775807 := rfl
  have hDl : hD < hs.length := by obtain ⟨_, vL', b, _⟩ := B; exact lt_of_get b
  have hbs : hbuildSlice hs 2 0 [] [] = some (.slice hs.length 0 0 (some 0), hs ++ [some (.cells 2 [] false false [])]) := rfl
  have k1 : Keeps hs.length hs (hs ++ [some (.cells 2 [] false false [])]) := Keeps.app (Nat.le_refl _)
  obtain ⟨vL, l0, _, _, _, _, ht⟩ := (B.keep (Nat.le_refl _) k1).list
  have hfl := flat_length m
  refine HC.wp mixed Try.func26 c26 ?_
  by_cases h0 : m.length = 0
  · obtain rfl := List.eq_nil_of_length_eq_zero h0
    have ha := app_none (s := 2) (bytes := 24) (v := .slice hs.length 0 0 (some 0)) ht (.inr ⟨_, _, _, _, rfl⟩)
    simp -implicitDefEqProofs (disch := first | omega | decide) only [vwp_skip, vwp_ret, vwp_exit, vwp_lab, vwp_seq, vwp_cond, vwp_block, vwp_scope, vwp_region, vwp_draw, vwp_loop, vcnd_tt, vcnd_ff, vthen_normal, vthen_ret, vthen_exit, vblock_normal, vblock_ret, vblock_exit, vreg_nil, vreg_cons, vhl_nil, vhl_op, vhl_guard, vguard_tt, vguard_ff, vguard_tf, vguard_ft, vguard_no, vact_op, vop_some, vput_some, vput_none, vsame_sm, vunit_sm, vget_nil, vget_cons, vget_some,
    vo_mv, vo_bin, vo_un, vo_ext, vo_len, vo_idxS, vo_idxStr, vo_load, vo_pick, vo_append, vo_bslice, evp, vo_nilc, vo_faddr, vo_store, vo_sliceSl, vo_sliceStr, vo_cInt, vo_copy, vo_mkSlice, vo_box, vo_build, vo_b2s, vb2s_sl, vb2s_nil, vcInt, vnil_ptr, vo_mkMap, vo_lookup, vo_mapUpd, vo_del, vdel_some, vo_rangeMap, vo_entry, vfaddr_ptr, beq_self_eq_true, eq_self, decide_true, decide_false, vb_lss, vb_leq, vb_gtr, vb_geq, vb_eql, vb_neq, vb_seql, vb_sneq, vb_beql, vb_bneq, vun_not, vlen_str, vlen_sl, vlen_nil, vext_tup, HX.ev, List.length_cons, List.length_nil, List.append_nil, List.nil_append, List.cons_append, List.set_cons_succ, List.set_cons_zero, List.getElem?_cons_succ, List.getElem?_cons_zero, Option.getD_some, Option.map_some, Option.map_none, List.map_cons, List.map_nil, if_true, Bool.not_true, Bool.not_false, Bool.false_eq_true, if_false, h26, hbs, l0, ha, frame0, List.replicate, Nat.sub]
    exact ⟨rfl, _, rfl, .inl ⟨rfl, .inr ⟨_, _, _, rfl⟩⟩, k1⟩
  · have ha := app_newW (bytes := 24) ht h0 (h := hs.length) (ro := false) (opn := false) (olds := []) (by simp) (roomFor_wide (by omega)) (by omega)
    simp -implicitDefEqProofs (disch := first | omega | decide) only [vwp_skip, vwp_ret, vwp_exit, vwp_lab, vwp_seq, vwp_cond, vwp_block, vwp_scope, vwp_region, vwp_draw, vwp_loop, vcnd_tt, vcnd_ff, vthen_normal, vthen_ret, vthen_exit, vblock_normal, vblock_ret, vblock_exit, vreg_nil, vreg_cons, vhl_nil, vhl_op, vhl_guard, vguard_tt, vguard_ff, vguard_tf, vguard_ft, vguard_no, vact_op, vop_some, vput_some, vput_none, vsame_sm, vunit_sm, vget_nil, vget_cons, vget_some,
    vo_mv, vo_bin, vo_un, vo_ext, vo_len, vo_idxS, vo_idxStr, vo_load, vo_pick, vo_append, vo_bslice, evp, vo_nilc, vo_faddr, vo_store, vo_sliceSl, vo_sliceStr, vo_cInt, vo_copy, vo_mkSlice, vo_box, vo_build, vo_b2s, vb2s_sl, vb2s_nil, vcInt, vnil_ptr, vo_mkMap, vo_lookup, vo_mapUpd, vo_del, vdel_some, vo_rangeMap, vo_entry, vfaddr_ptr, beq_self_eq_true, eq_self, decide_true, decide_false, vb_lss, vb_leq, vb_gtr, vb_geq, vb_eql, vb_neq, vb_seql, vb_sneq, vb_beql, vb_bneq, vun_not, vlen_str, vlen_sl, vlen_nil, vext_tup, HX.ev, List.length_cons, List.length_nil, List.append_nil, List.nil_append, List.cons_append, List.set_cons_succ, List.set_cons_zero, List.getElem?_cons_succ, List.getElem?_cons_zero, Option.getD_some, Option.map_some, Option.map_none, List.map_cons, List.map_nil, if_true, Bool.not_true, Bool.not_false, Bool.false_eq_true, if_false, h26, hbs, l0, ha, frame0, List.replicate, Nat.sub]
    refine ⟨rfl, _, rfl, .inr ⟨_, none, false, true, [], rfl, ?_⟩, k1.trans (Keeps.app (by simp))⟩
    simp

def dropR (m : NM) (k : List UInt8) : NM := if there m k = true then (if held m k = 1 then m.eraseIdx (place m k) else m.set (place m k) (k, held m k - 1)) else m

theorem drop38 (B : RefIs own hs hD m) (hf : ∀ i, hs.length ≤ i → own i) (k : List UInt8) (hm : m.length < 8796093022208) (hG : ∀ p ∈ m, 0 < p.2) (hc : held m k < 4611686018427387904) :
    HC Try.prog 38 [.ptr hD 0, .str k] hs fun r hs' => r = .tup [.int .i64 ((held m k - 1 : Nat) : Int), .bool (there m k)] ∧ RefIs own hs' hD (dropR m k) ∧ hs.length ≤ hs'.length ∧ ∀ j, ¬ own j → hs'[j]? = hs[j]? := by
  have hmx : maxLen = 9223372036854775807 := rfl
  refine HC.wp mixed Try.func38 c38 ?_
  simp -implicitDefEqProofs (disch := first | omega | decide) only [vwp_skip, vwp_ret, vwp_exit, vwp_lab, vwp_seq, vwp_cond, vwp_block, vwp_scope, vwp_region, vwp_draw, vwp_loop, vcnd_tt, vcnd_ff, vthen_normal, vthen_ret, vthen_exit, vblock_normal, vblock_ret, vblock_exit, vreg_nil, vreg_cons, vhl_nil, vhl_op, vhl_guard, vguard_tt, vguard_ff, vguard_tf, vguard_ft, vguard_no, vact_op, vop_some, vput_some, vput_none, vsame_sm, vunit_sm, vget_nil, vget_cons, vget_some,
    vo_mv, vo_bin, vo_un, vo_ext, vo_len, vo_idxS, vo_idxStr, vo_load, vo_pick, vo_append, vo_bslice, evp, vo_nilc, vo_faddr, vo_store, vo_sliceSl, vo_sliceStr, vo_cInt, vo_copy, vo_mkSlice, vo_box, vo_build, vo_b2s, vb2s_sl, vb2s_nil, vcInt, vnil_ptr, vo_mkMap, vo_lookup, vo_mapUpd, vo_del, vdel_some, vo_rangeMap, vo_entry, vfaddr_ptr, beq_self_eq_true, eq_self, decide_true, decide_false, vb_lss, vb_leq, vb_gtr, vb_geq, vb_eql, vb_neq, vb_seql, vb_sneq, vb_beql, vb_bneq, vun_not, vlen_str, vlen_sl, vlen_nil, vext_tup, HX.ev, List.length_cons, List.length_nil, List.append_nil, List.nil_append, List.cons_append, List.set_cons_succ, List.set_cons_zero, List.getElem?_cons_succ, List.getElem?_cons_zero, Option.getD_some, Option.map_some, Option.map_none, List.map_cons, List.map_nil, if_true, Bool.not_true, Bool.not_false, Bool.false_eq_true, if_false, h38, frame0, List.replicate, Nat.sub]
  refine vcall_of ok44 rfl (place44 B k (by omega)) ?_
  rintro _ hs ⟨rfl, rfl⟩
  cases ht : there m k
  · simp -implicitDefEqProofs (disch := first | omega | decide) only [vwp_skip, vwp_ret, vwp_exit, vwp_lab, vwp_seq, vwp_cond, vwp_block, vwp_scope, vwp_region, vwp_draw, vwp_loop, vcnd_tt, vcnd_ff, vthen_normal, vthen_ret, vthen_exit, vblock_normal, vblock_ret, vblock_exit, vreg_nil, vreg_cons, vhl_nil, vhl_op, vhl_guard, vguard_tt, vguard_ff, vguard_tf, vguard_ft, vguard_no, vact_op, vop_some, vput_some, vput_none, vsame_sm, vunit_sm, vget_nil, vget_cons, vget_some,
    vo_mv, vo_bin, vo_un, vo_ext, vo_len, vo_idxS, vo_idxStr, vo_load, vo_pick, vo_append, vo_bslice, evp, vo_nilc, vo_faddr, vo_store, vo_sliceSl, vo_sliceStr, vo_cInt, vo_copy, vo_mkSlice, vo_box, vo_build, vo_b2s, vb2s_sl, vb2s_nil, vcInt, vnil_ptr, vo_mkMap, vo_lookup, vo_mapUpd, vo_del, vdel_some, vo_rangeMap, vo_entry, vfaddr_ptr, beq_self_eq_true, eq_self, decide_true, decide_false, vb_lss, vb_leq, vb_gtr, vb_geq, vb_eql, vb_neq, vb_seql, vb_sneq, vb_beql, vb_bneq, vun_not, vlen_str, vlen_sl, vlen_nil, vext_tup, HX.ev, List.length_cons, List.length_nil, List.append_nil, List.nil_append, List.cons_append, List.set_cons_succ, List.set_cons_zero, List.getElem?_cons_succ, List.getElem?_cons_zero, Option.getD_some, Option.map_some, Option.map_none, List.map_cons, List.map_nil, if_true, Bool.not_true, Bool.not_false, Bool.false_eq_true, if_false]
    exact ⟨rfl, _, rfl, by simp [held_no ht], by simpa [dropR, ht] using B, Nat.le_refl _, fun _ _ => trivial⟩
  · have hat := there_at ht
    have hpos : 0 < held m k := hG _ (List.mem_of_getElem? hat)
    have hpl := lt_of_get hat
    have hz1 : roomFor (m.length - (place m k + 1)) 24 = true := roomFor_wide (by omega)
    have hz2 : m.length - (place m k + 1) ≤ maxLen := by omega
    have hz3 : roomFor (place m k + (m.length - (place m k + 1))) 24 = true := roomFor_wide (by omega)
    have hz4 : place m k + (m.length - (place m k + 1)) ≤ maxLen := by omega
    have hz5 : place m k + (m.length - (place m k + 1)) = m.length - 1 := by omega
    obtain ⟨vL, h, hs', e1, e2, e3, e4, e5, B', e6, e7, e8, e9, e10⟩ := B.write hat (held m k - 1)
    simp only at e4
    by_cases h1 : held m k = 1
    · have hgt : decide ((0 : Int) < ((held m k - 1 : Nat) : Int)) = false := by simp [h1]
      obtain ⟨vL', l0, hlen, _, hcl, hcr, _⟩ := B.list
      obtain rfl : vL = vL' := by rw [e1] at l0; exact Option.some.inj l0
      obtain ⟨va, ea, sk, ta⟩ := hcl (place m k) (by omega)
      obtain ⟨vb, eb, tb⟩ := hcr (place m k + 1) (by omega)
      have hDl : hD < hs.length := by obtain ⟨_, vL', b, _⟩ := B; exact lt_of_get b
      have hbs : hbuildSlice hs 2 0 [] [] = some (.slice hs.length 0 0 (some 0), hs ++ [some (.cells 2 [] false false [])]) := rfl
      have k1 : Keeps hs.length hs (hs ++ [some (.cells 2 [] false false [])]) := Keeps.app (Nat.le_refl _)
      have ld : ∀ g : HS, Keeps hs.length hs g → hload none g (.ptr hD 0) = some vL := fun g hk => by
        simp only [hload] at e1 ⊢
        rw [hk.2 hD hDl]; exact e1
      obtain ⟨t1, s1⟩ := ta _ k1
      have hfl1 : (flat (m.take (place m k))).length = place m k * 2 := by rw [flat_length, List.length_take]; congr 1; omega
      have hfl2 : (flat (m.drop (place m k + 1))).length = (m.length - (place m k + 1)) * 2 := by rw [flat_length, List.length_drop]
      have her : dropR m k = m.take (place m k) ++ m.drop (place m k + 1) := by
        unfold dropR
        rw [ht, if_pos rfl, if_pos h1, List.eraseIdx_eq_take_drop_succ]
      have hel : (dropR m k).length = m.length - 1 := by rw [her]; simp; omega
      obtain ⟨oD, vL', bD, _⟩ := B
      -- what the new list is
      have fin : ∀ (l3 : HV) (a5 : HS), Keeps hs.length hs a5 → ((dropR m k = [] ∧ (l3 = .nilSlice ∨ ∃ h ro opn olds, l3 = .slice h 0 0 (some 0) ∧ hs.length ≤ h ∧ a5[h]? = some (some (.cells 2 [] ro opn olds)))) ∨ (dropR m k ≠ [] ∧ OwnO hs.length a5 2 l3 (m.length - 1) (flat (dropR m k)))) →
          RefIs own (a5.set hD (some (.cells 1 [l3] false false []))) hD (dropR m k) ∧ hs.length ≤ (a5.set hD (some (.cells 1 [l3] false false []))).length ∧ ∀ j, ¬ own j → (a5.set hD (some (.cells 1 [l3] false false [])))[j]? = hs[j]? := by
        intro l3 a5 hk h
        have b5 := hk.get hDl bD
        refine ⟨⟨oD, l3, by rw [List.getElem?_set]; simp [lt_of_get b5], ?_⟩, by rw [List.length_set]; exact hk.1, fun j hj => ?_⟩
        · rcases h with ⟨h1, h2 | ⟨h, ro, opn, olds, h2, h3, h4⟩⟩ | ⟨h1, _, h, olds, h2, h3, h4, h5⟩
          · exact .inl ⟨h1, .inl h2⟩
          · exact .inl ⟨h1, .inr ⟨h, ro, opn, olds, h2, by rw [List.getElem?_set, if_neg (by omega)]; exact h4⟩⟩
          · exact .inr ⟨h1, h, olds, by rw [h2, hel], hf h h3, by omega, by rw [List.getElem?_set, if_neg (by omega)]; exact h4, fun o ho => ⟨hf o (h5 o ho).1, by have := (h5 o ho).1; omega, (h5 o ho).2⟩⟩
        · have hjl : j < hs.length := by
            rcases Nat.lt_or_ge j hs.length with h | h
            · exact h
            · exact absurd (hf j h) hj
          rw [List.getElem?_set, if_neg (fun e : hD = j => hj (e ▸ oD))]
          exact hk.2 j hjl
      -- the first append
      have one : ∃ l1 a2, happend (hs ++ [some (.cells 2 [] false false [])]) 2 24 (.slice hs.length 0 0 (some 0)) va = some (l1, a2) ∧ Keeps hs.length hs a2 ∧ ((place m k = 0 ∧ l1 = .slice hs.length 0 0 (some 0) ∧ a2 = hs ++ [some (.cells 2 [] false false [])]) ∨ (place m k ≠ 0 ∧ OwnO hs.length a2 2 l1 (place m k) (flat (m.take (place m k))))) := by
        by_cases p0 : place m k = 0
        · rw [p0] at t1
          refine ⟨_, _, app_none t1 (.inr ⟨_, _, _, _, rfl⟩), k1, .inl ⟨p0, rfl, rfl⟩⟩
        · have ha := app_newW (bytes := 24) t1 p0 (h := hs.length) (ro := false) (opn := false) (olds := []) (by simp) (roomFor_wide (by omega)) (by omega)
          exact ⟨_, _, ha, k1.trans (Keeps.app (by simp)), .inr ⟨p0, hfl1, _, [], rfl, by simp, by simp, by simp⟩⟩
      obtain ⟨l1, a2, f1, kk2, hl1⟩ := one
      obtain ⟨t5, s5⟩ := tb _ kk2
      have two : ∃ l3 a5, happend a2 2 24 l1 vb = some (l3, a5) ∧ Keeps hs.length hs a5 ∧ ((dropR m k = [] ∧ (l3 = .nilSlice ∨ ∃ h ro opn olds, l3 = .slice h 0 0 (some 0) ∧ hs.length ≤ h ∧ a5[h]? = some (some (.cells 2 [] ro opn olds)))) ∨ (dropR m k ≠ [] ∧ OwnO hs.length a5 2 l3 (m.length - 1) (flat (dropR m k)))) ∧ l3.one = true ∧ l3.cells = [l3] := by
        rcases hl1 with ⟨p0, rfl, rfl⟩ | ⟨p0, ho⟩
        · have hd1 : dropR m k = m.drop (place m k + 1) := by rw [her, p0]; simp
          by_cases r0 : m.length - (place m k + 1) = 0
          · rw [r0] at t5
            have hdn : dropR m k = [] := by rw [hd1]; exact List.eq_nil_of_length_eq_zero (by rw [List.length_drop]; exact r0)
            have hdf : flat (m.drop (place m k + 1)) = [] := by rw [← hd1, hdn]; rfl
            rw [hdf] at t5
            exact ⟨_, _, app_none t5 (.inr ⟨_, _, _, _, rfl⟩), kk2, .inl ⟨hdn, .inr ⟨_, false, false, [], rfl, Nat.le_refl _, by simp⟩⟩, rfl, rfl⟩
          · have ha := app_newW (bytes := 24) t5 r0 (h := hs.length) (ro := false) (opn := false) (olds := []) (by simp) hz1 hz2
            refine ⟨_, _, ha, kk2.trans (Keeps.app (by simp)), .inr ⟨fun e => ?_, ?_⟩, rfl, rfl⟩
            · rw [e] at hel
              have hel' : 0 = m.length - 1 := hel
              exact r0 (by rw [p0]; exact hel'.symm)
            · rw [hd1, show m.length - 1 = m.length - (place m k + 1) by rw [p0]]
              exact ⟨hfl2, _, [], rfl, by simp, by simp, by simp⟩
        · obtain ⟨l3, a5, g1, g2, g3⟩ := ho.app (bytes := 24) kk2.1 t5 hfl2 hz3 hz4
          rw [← flat_app, ← her, hz5] at g2
          refine ⟨l3, a5, g1, kk2.trans g3, ?_, ?_⟩
          · by_cases hn : dropR m k = []
            · exfalso
              rw [hn] at hel
              have hel' : 0 = m.length - 1 := hel
              rw [← hz5] at hel'
              exact p0 (Nat.eq_zero_of_add_eq_zero_right hel'.symm)
            · exact .inr ⟨hn, g2⟩
          · obtain ⟨_, h, olds, rfl, _⟩ := g2; exact ⟨rfl, rfl⟩
      obtain ⟨l3, a5, f2, kk5, hl3, q1, q2⟩ := two
      have st := store_at (k := 0) (x := l3) (kk5.get hDl bD) (by simp) q2 q1
      simp only [List.set_cons_zero] at st
      obtain ⟨r1, r2, r3⟩ := fin l3 a5 kk5 hl3
      simp -implicitDefEqProofs (disch := first | omega | decide) only [vwp_skip, vwp_ret, vwp_exit, vwp_lab, vwp_seq, vwp_cond, vwp_block, vwp_scope, vwp_region, vwp_draw, vwp_loop, vcnd_tt, vcnd_ff, vthen_normal, vthen_ret, vthen_exit, vblock_normal, vblock_ret, vblock_exit, vreg_nil, vreg_cons, vhl_nil, vhl_op, vhl_guard, vguard_tt, vguard_ff, vguard_tf, vguard_ft, vguard_no, vact_op, vop_some, vput_some, vput_none, vsame_sm, vunit_sm, vget_nil, vget_cons, vget_some,
    vo_mv, vo_bin, vo_un, vo_ext, vo_len, vo_idxS, vo_idxStr, vo_load, vo_pick, vo_append, vo_bslice, evp, vo_nilc, vo_faddr, vo_store, vo_sliceSl, vo_sliceStr, vo_cInt, vo_copy, vo_mkSlice, vo_box, vo_build, vo_b2s, vb2s_sl, vb2s_nil, vcInt, vnil_ptr, vo_mkMap, vo_lookup, vo_mapUpd, vo_del, vdel_some, vo_rangeMap, vo_entry, vfaddr_ptr, beq_self_eq_true, eq_self, decide_true, decide_false, vb_lss, vb_leq, vb_gtr, vb_geq, vb_eql, vb_neq, vb_seql, vb_sneq, vb_beql, vb_bneq, vun_not, vlen_str, vlen_sl, vlen_nil, vext_tup, HX.ev, List.length_cons, List.length_nil, List.append_nil, List.nil_append, List.cons_append, List.set_cons_succ, List.set_cons_zero, List.getElem?_cons_succ, List.getElem?_cons_zero, Option.getD_some, Option.map_some, Option.map_none, List.map_cons, List.map_nil, if_true, Bool.not_true, Bool.not_false, Bool.false_eq_true, if_false, e1, e2, e3, e4, vsub1, hgt, hbs, ld _ k1, ea, s1, f1, ld _ kk2, vadd1, eb, s5, f2, st]
      exact ⟨rfl, _, rfl, by simp [h1], r1, r2, r3⟩
    · have hgt : decide ((0 : Int) < ((held m k - 1 : Nat) : Int)) = true := by simp; omega
      simp -implicitDefEqProofs (disch := first | omega | decide) only [vwp_skip, vwp_ret, vwp_exit, vwp_lab, vwp_seq, vwp_cond, vwp_block, vwp_scope, vwp_region, vwp_draw, vwp_loop, vcnd_tt, vcnd_ff, vthen_normal, vthen_ret, vthen_exit, vblock_normal, vblock_ret, vblock_exit, vreg_nil, vreg_cons, vhl_nil, vhl_op, vhl_guard, vguard_tt, vguard_ff, vguard_tf, vguard_ft, vguard_no, vact_op, vop_some, vput_some, vput_none, vsame_sm, vunit_sm, vget_nil, vget_cons, vget_some,
    vo_mv, vo_bin, vo_un, vo_ext, vo_len, vo_idxS, vo_idxStr, vo_load, vo_pick, vo_append, vo_bslice, evp, vo_nilc, vo_faddr, vo_store, vo_sliceSl, vo_sliceStr, vo_cInt, vo_copy, vo_mkSlice, vo_box, vo_build, vo_b2s, vb2s_sl, vb2s_nil, vcInt, vnil_ptr, vo_mkMap, vo_lookup, vo_mapUpd, vo_del, vdel_some, vo_rangeMap, vo_entry, vfaddr_ptr, beq_self_eq_true, eq_self, decide_true, decide_false, vb_lss, vb_leq, vb_gtr, vb_geq, vb_eql, vb_neq, vb_seql, vb_sneq, vb_beql, vb_bneq, vun_not, vlen_str, vlen_sl, vlen_nil, vext_tup, HX.ev, List.length_cons, List.length_nil, List.append_nil, List.nil_append, List.cons_append, List.set_cons_succ, List.set_cons_zero, List.getElem?_cons_succ, List.getElem?_cons_zero, Option.getD_some, Option.map_some, Option.map_none, List.map_cons, List.map_nil, if_true, Bool.not_true, Bool.not_false, Bool.false_eq_true, if_false, e1, e2, e3, e4, vsub1, hgt, e5]
      refine ⟨rfl, _, rfl, by simp, ?_, by omega, e7⟩
      simpa [dropR, ht, h1] using B'
end R
end Go.Proofs.Ytalcaflkfpiehaa
