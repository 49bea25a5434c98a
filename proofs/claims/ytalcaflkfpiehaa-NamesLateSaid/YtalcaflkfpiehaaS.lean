/-
  The reference's book of names: Hold, Drop, All.
-/
import Derived.Test.YtalcaflkfpiehaaR
import Derived.Test.YtalcaflkfpiehaaHLBook
namespace Go.Proofs.Ytalcaflkfpiehaa
open Go Go.HL V P2
namespace R
open B (NM sum Good)
set_option maxRecDepth 100000
set_option maxHeartbeats 4000000
set_option linter.unusedSimpArgs false

/-- one's own list whose room is not known. -/
def OwnO (n : Nat) (hs : HS) (s : Nat) (v : HV) (len : Nat) (xs : List HV) : Prop :=
  xs.length = len * s ∧ ∃ h olds, v = .slice h 0 len none ∧ n ≤ h ∧ hs[h]? = some (some (.cells s xs false true olds)) ∧ ∀ o ∈ olds, n ≤ o ∧ o < h
theorem OwnO.sl {n : Nat} {hs : HS} {s len : Nat} {v : HV} {xs : List HV} (H : OwnO n hs s v len xs) : OwnSl n hs s v len xs := ⟨H.1, .inr (.inr H.2)⟩
theorem OwnO.of {n : Nat} {hs : HS} {s h len : Nat} {xs : List HV} (H : OwnSl n hs s (.slice h 0 len none) len xs) : OwnO n hs s (.slice h 0 len none) len xs := by
  obtain ⟨hl, ⟨h1, _⟩ | ⟨_, _, _, _, h1, _⟩ | h1⟩ := H
  · simp at h1
  · simp at h1
  · exact ⟨hl, h1⟩
theorem OwnO.app {n : Nat} {hs : HS} {s len m bytes : Nat} {v y : HV} {xs news : List HV} (H : OwnO n hs s v len xs) (hn : n ≤ hs.length) (ht : takeCells hs s y = some (m, news)) (hnl : news.length = m * s)
    (hb : roomFor (len + m) bytes = true) (hm : len + m ≤ maxLen) :
    ∃ v' hs', happend hs s bytes v y = some (v', hs') ∧ OwnO n hs' s v' (len + m) (xs ++ news) ∧ Keeps n hs hs' := by
  by_cases h0 : m = 0
  · subst h0
    obtain rfl : news = [] := List.eq_nil_of_length_eq_zero (by simpa using hnl)
    have H0 := H
    obtain ⟨hl, h, olds, rfl, h2⟩ := H
    exact ⟨_, hs, by unfold happend; rw [ht]; rfl, by simpa using H0, Keeps.refl hn⟩
  · obtain ⟨hs', e1, _, e2, e3, _, _⟩ := H.sl.app3W hn ht hnl h0 hb hm
    exact ⟨_, hs', e1, .of e2, e3⟩

theorem store_own {hs : HS} {h s k : Nat} {cs : List HV} {opn : Bool} {olds : List Nat} {x : HV} (hb : hs[h]? = some (some (.cells s cs false opn olds))) (hk : k < cs.length) (hx : x.cells = [x]) (h1 : x.one = true) :
    hstore 1 hs (.ptr h k) x = some ((killAll olds hs).set h (some (.cells s (cs.set k x) false opn []))) := by
  simp only [hstore, hb, hx]
  rw [if_pos ⟨by simp, by simp [h1], by omega⟩, overw_one cs k x hk]
theorem take_row (hs : HS) (x y : HV) : takeCells (hs ++ [some (.cells 2 [x, y] false false [])]) 2 (.slice hs.length 0 1 (some 1)) = some (1, [x, y]) := by
  simp [takeCells]
theorem slice_row (hs : HS) (k : List UInt8) (n : Int) : hbuildSlice hs 2 1 [.str [], .int .i64 0] [(0, 2, .agg [.str k, .int .i64 n])] = some (.slice hs.length 0 1 (some 1), hs ++ [some (.cells 2 [.str k, .int .i64 n] false false [])]) := by
  simp [hbuildSlice, hfill, HV.cells, HV.one, overw]

/-- how often it is held. -/
def held (m : NM) (k : List UInt8) : Nat := match m[place m k]? with
  | some p => if (p.1 == k) = true then p.2 else 0
  | none => 0
def insR (m : NM) (k : List UInt8) : NM := if there m k = true then m.set (place m k) (k, held m k + 1) else m.take (place m k) ++ (k, 1) :: m.drop (place m k)
theorem there_at {m : NM} {k : List UInt8} (h : there m k = true) : m[place m k]? = some (k, held m k) := by
  unfold there at h
  unfold held
  split at h
  · rename_i p hp
    have : p.1 = k := by simpa using h
    rw [hp]
    simp [this]
    rw [← this]
  · simp at h

theorem held_no {m : NM} {k : List UInt8} (h : there m k = false) : held m k = 0 := by
  unfold there at h
  unfold held
  split at h
  · rename_i p hp
    rw [hp]
    simp [h]
  · rename_i hp
    rw [hp]

variable {own : Nat → Prop} {hs : HS} {hD : Nat} {m : NM}

/-- a count is written over. -/
theorem RefIs.write (B : RefIs own hs hD m) {i : Nat} {p : List UInt8 × Nat} (hp : m[i]? = some p) (n : Nat) :
    ∃ vL h hs', hload none hs (.ptr hD 0) = some vL ∧ hindexAddr 2 vL (.int .i64 (i : Nat)) = some (.ptr h (i * 2)) ∧ sOk hs 2 vL = true ∧ hload none hs (.ptr h (i * 2 + 1)) = some (.int .i64 (p.2 : Nat)) ∧
      hstore 1 hs (.ptr h (i * 2 + 1)) (.int .i64 (n : Nat)) = some hs' ∧ RefIs own hs' hD (m.set i (p.1, n)) ∧ hs'.length = hs.length ∧ (∀ j, ¬ own j → hs'[j]? = hs[j]?) ∧
      hload none hs' (.ptr hD 0) = some vL ∧ sOk hs' 2 vL = true ∧ hload none hs' (.ptr h (i * 2 + 1)) = some (.int .i64 (n : Nat)) := by
  have hi := lt_of_get hp
  have hne : m ≠ [] := by intro e; subst e; simp at hi
  obtain ⟨o1, vL, b, hr⟩ := B
  rcases hr with ⟨h1, _⟩ | ⟨h1, h, olds, rfl, h3, h4, h5, h6⟩
  · exact absurd h1 hne
  · obtain ⟨f1, f2⟩ := flat_get hp
    have hl := lt_of_get f2
    have hhl := lt_of_get h5
    have st := store_own (x := .int .i64 ((n : Nat) : Int)) h5 hl rfl rfl
    rw [flat_set n hp] at st
    obtain ⟨g, hg⟩ : ∃ g, g = (killAll olds hs).set h (some (HB.cells 2 (flat (m.set i (p.1, n))) false true [])) := ⟨_, rfl⟩
    rw [← hg] at st
    have gh : g[h]? = some (some (.cells 2 (flat (m.set i (p.1, n))) false true [])) := by rw [hg, List.getElem?_set]; simp [killAll_length, hhl]
    have gD : g[hD]? = some (some (.cells 1 [.slice h 0 m.length none] false false [])) := by
      rw [hg, List.getElem?_set, if_neg h4, killAll_ne (fun hm => (h6 hD hm).2.1 rfl)]; exact b
    have hp' : (m.set i (p.1, n))[i]? = some (p.1, n) := by rw [List.getElem?_set]; simp [hi]
    have hgl : g.length = hs.length := by rw [hg]; simp [killAll_length]
    refine ⟨_, h, g, by simp only [hload, b]; rfl, by rw [vidx_some hi]; simp, by simp [sOk, h5], by simp only [hload, h5]; exact f2, st, ⟨o1, _, gD, .inr ⟨by simpa using hne, h, [], by simp, h3, h4, gh, by simp⟩⟩, hgl, fun j hj => ?_, by simp only [hload, gD]; rfl, by simp [sOk, gh], by simp only [hload, gh]; exact (flat_get hp').2⟩
    rw [hg, List.getElem?_set, if_neg (fun e : h = j => hj (e ▸ h3)), killAll_ne (fun hm => hj (h6 j hm).1)]

theorem hold37 (B : RefIs own hs hD m) (hf : ∀ i, hs.length ≤ i → own i) (k : List UInt8) (hm : m.length < 8796093022208) (hc : held m k < 4611686018427387904) :
    HC Try.prog 37 [.ptr hD 0, .str k] hs fun r hs' => r = .tup [.int .i64 ((if validL k = true then held m k + 1 else 0 : Nat) : Int), .int .i64 (if validL k = true then 0 else 50)] ∧ RefIs own hs' hD (if validL k = true then insR m k else m) ∧ hs.length ≤ hs'.length ∧ ∀ j, ¬ own j → hs'[j]? = hs[j]? := by
  have hmx : maxLen = 9223372036854775807 := rfl
  have hpl := place_le m k
  refine HC.wp mixed Try.func37 c37 ?_
  simp -implicitDefEqProofs (disch := first | omega | decide) only [vwp_skip, vwp_ret, vwp_exit, vwp_lab, vwp_seq, vwp_cond, vwp_block, vwp_scope, vwp_region, vwp_draw, vwp_loop, vcnd_tt, vcnd_ff, vthen_normal, vthen_ret, vthen_exit, vblock_normal, vblock_ret, vblock_exit, vreg_nil, vreg_cons, vhl_nil, vhl_op, vhl_guard, vguard_tt, vguard_ff, vguard_tf, vguard_ft, vguard_no, vact_op, vop_some, vput_some, vput_none, vsame_sm, vunit_sm, vget_nil, vget_cons, vget_some,
    vo_mv, vo_bin, vo_un, vo_ext, vo_len, vo_idxS, vo_idxStr, vo_load, vo_pick, vo_append, vo_bslice, evp, vo_nilc, vo_faddr, vo_store, vo_sliceSl, vo_sliceStr, vo_cInt, vo_copy, vo_mkSlice, vo_box, vo_build, vo_b2s, vb2s_sl, vb2s_nil, vcInt, vnil_ptr, vo_mkMap, vo_lookup, vo_mapUpd, vo_del, vdel_some, vo_rangeMap, vo_entry, vfaddr_ptr, beq_self_eq_true, eq_self, decide_true, decide_false, vb_lss, vb_leq, vb_gtr, vb_geq, vb_eql, vb_neq, vb_seql, vb_sneq, vb_beql, vb_bneq, vun_not, vlen_str, vlen_sl, vlen_nil, vext_tup, HX.ev, List.length_cons, List.length_nil, List.append_nil, List.nil_append, List.cons_append, List.set_cons_succ, List.set_cons_zero, List.getElem?_cons_succ, List.getElem?_cons_zero, Option.getD_some, Option.map_some, Option.map_none, List.map_cons, List.map_nil, if_true, Bool.not_true, Bool.not_false, Bool.false_eq_true, if_false, h37, frame0, List.replicate, Nat.sub]
  refine vcall_of ok10 rfl (valid k hs) ?_
  rintro _ hs ⟨rfl, rfl⟩
  cases hv : validL k
  · simp -implicitDefEqProofs (disch := first | omega | decide) only [vwp_skip, vwp_ret, vwp_exit, vwp_lab, vwp_seq, vwp_cond, vwp_block, vwp_scope, vwp_region, vwp_draw, vwp_loop, vcnd_tt, vcnd_ff, vthen_normal, vthen_ret, vthen_exit, vblock_normal, vblock_ret, vblock_exit, vreg_nil, vreg_cons, vhl_nil, vhl_op, vhl_guard, vguard_tt, vguard_ff, vguard_tf, vguard_ft, vguard_no, vact_op, vop_some, vput_some, vput_none, vsame_sm, vunit_sm, vget_nil, vget_cons, vget_some,
    vo_mv, vo_bin, vo_un, vo_ext, vo_len, vo_idxS, vo_idxStr, vo_load, vo_pick, vo_append, vo_bslice, evp, vo_nilc, vo_faddr, vo_store, vo_sliceSl, vo_sliceStr, vo_cInt, vo_copy, vo_mkSlice, vo_box, vo_build, vo_b2s, vb2s_sl, vb2s_nil, vcInt, vnil_ptr, vo_mkMap, vo_lookup, vo_mapUpd, vo_del, vdel_some, vo_rangeMap, vo_entry, vfaddr_ptr, beq_self_eq_true, eq_self, decide_true, decide_false, vb_lss, vb_leq, vb_gtr, vb_geq, vb_eql, vb_neq, vb_seql, vb_sneq, vb_beql, vb_bneq, vun_not, vlen_str, vlen_sl, vlen_nil, vext_tup, HX.ev, List.length_cons, List.length_nil, List.append_nil, List.nil_append, List.cons_append, List.set_cons_succ, List.set_cons_zero, List.getElem?_cons_succ, List.getElem?_cons_zero, Option.getD_some, Option.map_some, Option.map_none, List.map_cons, List.map_nil, if_true, Bool.not_true, Bool.not_false, Bool.false_eq_true, if_false]
    exact ⟨rfl, _, rfl, by simp, by simpa using B, Nat.le_refl _, fun _ _ => trivial⟩
  · simp -implicitDefEqProofs (disch := first | omega | decide) only [vwp_skip, vwp_ret, vwp_exit, vwp_lab, vwp_seq, vwp_cond, vwp_block, vwp_scope, vwp_region, vwp_draw, vwp_loop, vcnd_tt, vcnd_ff, vthen_normal, vthen_ret, vthen_exit, vblock_normal, vblock_ret, vblock_exit, vreg_nil, vreg_cons, vhl_nil, vhl_op, vhl_guard, vguard_tt, vguard_ff, vguard_tf, vguard_ft, vguard_no, vact_op, vop_some, vput_some, vput_none, vsame_sm, vunit_sm, vget_nil, vget_cons, vget_some,
    vo_mv, vo_bin, vo_un, vo_ext, vo_len, vo_idxS, vo_idxStr, vo_load, vo_pick, vo_append, vo_bslice, evp, vo_nilc, vo_faddr, vo_store, vo_sliceSl, vo_sliceStr, vo_cInt, vo_copy, vo_mkSlice, vo_box, vo_build, vo_b2s, vb2s_sl, vb2s_nil, vcInt, vnil_ptr, vo_mkMap, vo_lookup, vo_mapUpd, vo_del, vdel_some, vo_rangeMap, vo_entry, vfaddr_ptr, beq_self_eq_true, eq_self, decide_true, decide_false, vb_lss, vb_leq, vb_gtr, vb_geq, vb_eql, vb_neq, vb_seql, vb_sneq, vb_beql, vb_bneq, vun_not, vlen_str, vlen_sl, vlen_nil, vext_tup, HX.ev, List.length_cons, List.length_nil, List.append_nil, List.nil_append, List.cons_append, List.set_cons_succ, List.set_cons_zero, List.getElem?_cons_succ, List.getElem?_cons_zero, Option.getD_some, Option.map_some, Option.map_none, List.map_cons, List.map_nil, if_true, Bool.not_true, Bool.not_false, Bool.false_eq_true, if_false]
    refine vcall_of ok44 rfl (place44 B k (by omega)) ?_
    rintro _ hs ⟨rfl, rfl⟩
    cases ht : there m k
    · obtain ⟨vL, l0, hlen, _, hcl, hcr, _⟩ := B.list
      obtain ⟨va, ea, sk, ta⟩ := hcl (place m k) hpl
      obtain ⟨vb, eb, tb⟩ := hcr (place m k) hpl
      have b := B.2
      have hDl : hD < hs.length := by obtain ⟨_, vL', b, _⟩ := B; exact lt_of_get b
      have hbs : hbuildSlice hs 2 0 [] [] = some (.slice hs.length 0 0 (some 0), hs ++ [some (.cells 2 [] false false [])]) := rfl
      have k1 : Keeps hs.length hs (hs ++ [some (.cells 2 [] false false [])]) := Keeps.app (Nat.le_refl _)
      have ld : ∀ g : HS, Keeps hs.length hs g → hload none g (.ptr hD 0) = some vL := fun g hk => by
        simp only [hload] at l0 ⊢
        rw [hk.2 hD hDl]; exact l0
      obtain ⟨t1, s1⟩ := ta _ k1
      have o0 : OwnSl hs.length (hs ++ [some (.cells 2 [] false false [])]) 2 (.slice hs.length 0 0 (some 0)) 0 [] := OwnSl.empty (ro := false) (opn := false) (olds := []) (by simp)
      have hfl1 : (flat (m.take (place m k))).length = place m k * 2 := by rw [flat_length, List.length_take]; congr 1; omega
      obtain ⟨l1, a2, e1, o1, k2⟩ := o0.appW (bytes := 24) k1.1 t1 hfl1 (roomFor_wide (by omega)) (by omega)
      have hbu : hbuild [.str [], .int .i64 0] [(0, 1, .str k), (1, 1, .int .i64 1)] = some (.agg [.str k, .int .i64 1]) := rfl
      have hsr := slice_row a2 k 1
      have k3 : Keeps a2.length a2 (a2 ++ [some (.cells 2 [.str k, .int .i64 1] false false [])]) := Keeps.app (Nat.le_refl _)
      have h2l : hs.length ≤ a2.length := k2.1
      obtain ⟨a4, e4, _, o4, k4, _, _⟩ := (o1.keep (Nat.le_refl _) k3).app3W (bytes := 24) (by simp; omega) (take_row a2 (.str k) (.int .i64 1)) rfl (by omega) (roomFor_wide (by omega)) (by omega)
      have kk4 : Keeps hs.length hs a4 := ((k1.trans k2).trans (k3.less h2l)).trans k4
      obtain ⟨t5, s5⟩ := tb _ kk4
      have hfl2 : (flat (m.drop (place m k))).length = (m.length - place m k) * 2 := by rw [flat_length, List.length_drop]
      obtain ⟨l3, a5, e5, o5, k5⟩ := (OwnO.of o4).app (bytes := 24) k4.1 t5 hfl2 (roomFor_wide (by omega)) (by omega)
      have kk5 := kk4.trans k5
      obtain ⟨hl5, h5, olds5, e6, h6, h7, h8⟩ := o5
      obtain ⟨oD, vL', bD, _⟩ := B
      have b5 := kk5.get hDl bD
      have st := store_at (k := 0) (x := l3) b5 (by simp) (by rw [e6]; rfl) (by rw [e6]; rfl)
      simp only [List.set_cons_zero] at st
      simp -implicitDefEqProofs (disch := first | omega | decide) only [vwp_skip, vwp_ret, vwp_exit, vwp_lab, vwp_seq, vwp_cond, vwp_block, vwp_scope, vwp_region, vwp_draw, vwp_loop, vcnd_tt, vcnd_ff, vthen_normal, vthen_ret, vthen_exit, vblock_normal, vblock_ret, vblock_exit, vreg_nil, vreg_cons, vhl_nil, vhl_op, vhl_guard, vguard_tt, vguard_ff, vguard_tf, vguard_ft, vguard_no, vact_op, vop_some, vput_some, vput_none, vsame_sm, vunit_sm, vget_nil, vget_cons, vget_some,
    vo_mv, vo_bin, vo_un, vo_ext, vo_len, vo_idxS, vo_idxStr, vo_load, vo_pick, vo_append, vo_bslice, evp, vo_nilc, vo_faddr, vo_store, vo_sliceSl, vo_sliceStr, vo_cInt, vo_copy, vo_mkSlice, vo_box, vo_build, vo_b2s, vb2s_sl, vb2s_nil, vcInt, vnil_ptr, vo_mkMap, vo_lookup, vo_mapUpd, vo_del, vdel_some, vo_rangeMap, vo_entry, vfaddr_ptr, beq_self_eq_true, eq_self, decide_true, decide_false, vb_lss, vb_leq, vb_gtr, vb_geq, vb_eql, vb_neq, vb_seql, vb_sneq, vb_beql, vb_bneq, vun_not, vlen_str, vlen_sl, vlen_nil, vext_tup, HX.ev, List.length_cons, List.length_nil, List.append_nil, List.nil_append, List.cons_append, List.set_cons_succ, List.set_cons_zero, List.getElem?_cons_succ, List.getElem?_cons_zero, Option.getD_some, Option.map_some, Option.map_none, List.map_cons, List.map_nil, if_true, Bool.not_true, Bool.not_false, Bool.false_eq_true, if_false, hbs, ld _ k1, ea, s1, e1, hbu, hsr, e4, ld _ kk4, eb, s5, e5, st]
      have hxs : ([] ++ flat (m.take (place m k)) ++ [HV.str k, HV.int .i64 1] ++ flat (m.drop (place m k))) = flat (insR m k) := by
        unfold insR
        rw [ht]
        simp [flat, row]
      have hil : (insR m k).length = 0 + place m k + 1 + (m.length - place m k) := by
        unfold insR
        rw [ht]
        simp; omega
      rw [hxs] at h7
      have hne : insR m k ≠ [] := fun e => by rw [e] at hil; simp at hil; omega
      refine ⟨rfl, _, rfl, by simp [held_no ht], ?_, ?_, fun j hj => ?_⟩
      · refine ⟨oD, l3, by rw [List.getElem?_set]; simp [lt_of_get b5], .inr ⟨hne, h5, olds5, by rw [e6, hil], hf h5 h6, by omega, ?_, fun o ho => ⟨hf o (h8 o ho).1, by have := (h8 o ho).1; omega, (h8 o ho).2⟩⟩⟩
        rw [List.getElem?_set, if_neg (by omega)]; exact h7
      · rw [List.length_set]; exact kk5.1
      · have hjl : j < hs.length := by
          rcases Nat.lt_or_ge j hs.length with h | h
          · exact h
          · exact absurd (hf j h) hj
        rw [List.getElem?_set, if_neg (fun e : hD = j => hj (e ▸ oD))]
        exact kk5.2 j hjl
    · have hat := there_at ht
      obtain ⟨vL, h, hs', e1, e2, e3, e4, e5, B', e6, e7, e8, e9, e10⟩ := B.write hat (held m k + 1)
      simp -implicitDefEqProofs (disch := first | omega | decide) only [vwp_skip, vwp_ret, vwp_exit, vwp_lab, vwp_seq, vwp_cond, vwp_block, vwp_scope, vwp_region, vwp_draw, vwp_loop, vcnd_tt, vcnd_ff, vthen_normal, vthen_ret, vthen_exit, vblock_normal, vblock_ret, vblock_exit, vreg_nil, vreg_cons, vhl_nil, vhl_op, vhl_guard, vguard_tt, vguard_ff, vguard_tf, vguard_ft, vguard_no, vact_op, vop_some, vput_some, vput_none, vsame_sm, vunit_sm, vget_nil, vget_cons, vget_some,
    vo_mv, vo_bin, vo_un, vo_ext, vo_len, vo_idxS, vo_idxStr, vo_load, vo_pick, vo_append, vo_bslice, evp, vo_nilc, vo_faddr, vo_store, vo_sliceSl, vo_sliceStr, vo_cInt, vo_copy, vo_mkSlice, vo_box, vo_build, vo_b2s, vb2s_sl, vb2s_nil, vcInt, vnil_ptr, vo_mkMap, vo_lookup, vo_mapUpd, vo_del, vdel_some, vo_rangeMap, vo_entry, vfaddr_ptr, beq_self_eq_true, eq_self, decide_true, decide_false, vb_lss, vb_leq, vb_gtr, vb_geq, vb_eql, vb_neq, vb_seql, vb_sneq, vb_beql, vb_bneq, vun_not, vlen_str, vlen_sl, vlen_nil, vext_tup, HX.ev, List.length_cons, List.length_nil, List.append_nil, List.nil_append, List.cons_append, List.set_cons_succ, List.set_cons_zero, List.getElem?_cons_succ, List.getElem?_cons_zero, Option.getD_some, Option.map_some, Option.map_none, List.map_cons, List.map_nil, if_true, Bool.not_true, Bool.not_false, Bool.false_eq_true, if_false, e1, e2, e3, e4, vadd1, e5, e8, e9, e10]
      refine ⟨rfl, _, rfl, by simp, ?_, by omega, e7⟩
      simpa [insR, ht] using B'
end R
end Go.Proofs.Ytalcaflkfpiehaa
