/-
  The reference's book of names: place, Hold, Drop, All.
-/
import Derived.Test.YtalcaflkfpiehaaF2
import Derived.Test.YtalcaflkfpiehaaC
import Derived.Test.YtalcaflkfpiehaaV3
namespace Go.Proofs.Ytalcaflkfpiehaa
open Go Go.HL V P2
namespace R
open B (NM sum Good)
set_option maxRecDepth 100000
set_option maxHeartbeats 4000000
set_option linter.unusedSimpArgs false
theorem ok10 : okF Try.prog 10 := ⟨_, Try.func10, by kernel_rfl, by kernel_rfl⟩
theorem ok44 : okF Try.prog 44 := ⟨_, Try.func44, by kernel_rfl, by kernel_rfl⟩
theorem ok37 : okF Try.prog 37 := ⟨_, Try.func37, by kernel_rfl, by kernel_rfl⟩
theorem ok38 : okF Try.prog 38 := ⟨_, Try.func38, by kernel_rfl, by kernel_rfl⟩
theorem ok26 : okF Try.prog 26 := ⟨_, Try.func26, by kernel_rfl, by kernel_rfl⟩
theorem valid (s : List UInt8) (hs : HS) : HC Try.prog 10 [.str s] hs fun v hs' => v = .bool (validL s) ∧ hs' = hs := HC.frame (R := fun v => v = .bool (validL s)) rfl (fun v h => by subst h; rfl) (ref10 s)

/-- names and counts, as they stand in memory. -/
def row (p : List UInt8 × Nat) : List HV := [.str p.1, .int .i64 (p.2 : Nat)]
def flat (m : NM) : List HV := m.flatMap row
theorem flat_length : ∀ m : NM, (flat m).length = m.length * 2
  | [] => rfl
  | p :: m => by
    have h := flat_length m
    unfold flat at h ⊢
    rw [List.flatMap_cons, List.length_append, h]
    simp [row]; omega
theorem flat_take : ∀ (m : NM) (i : Nat), (flat m).take (i * 2) = flat (m.take i)
  | [], i => by simp [flat]
  | p :: m, 0 => by simp [flat]
  | p :: m, i + 1 => by
    have := flat_take m i
    have h2 : (i + 1) * 2 = i * 2 + 1 + 1 := by omega
    simp only [flat, List.flatMap_cons, List.take_succ_cons, row, List.cons_append, List.nil_append, h2] at this ⊢
    rw [this]
theorem flat_drop : ∀ (m : NM) (i : Nat), (flat m).drop (i * 2) = flat (m.drop i)
  | [], i => by simp [flat]
  | p :: m, 0 => by simp
  | p :: m, i + 1 => by
    have := flat_drop m i
    have h2 : (i + 1) * 2 = i * 2 + 1 + 1 := by omega
    simp only [flat, List.flatMap_cons, List.drop_succ_cons, row, List.cons_append, List.nil_append, h2] at this ⊢
    rw [this]
theorem flat_get : ∀ {m : NM} {i : Nat} {p : List UInt8 × Nat}, m[i]? = some p → (flat m)[i * 2]? = some (.str p.1) ∧ (flat m)[i * 2 + 1]? = some (.int .i64 (p.2 : Nat))
  | [], _, _, h => by simp at h
  | q :: m, 0, p, h => by
    simp at h; subst h
    exact ⟨rfl, rfl⟩
  | q :: m, i + 1, p, h => by
    have := flat_get (m := m) (i := i) (p := p) (by simpa using h)
    have h2 : (i + 1) * 2 = i * 2 + 1 + 1 := by omega
    simpa only [flat, List.flatMap_cons, row, List.cons_append, List.nil_append, h2, List.getElem?_cons_succ] using this
theorem flat_set : ∀ {m : NM} {i : Nat} {p : List UInt8 × Nat} (n : Nat), m[i]? = some p → (flat m).set (i * 2 + 1) (.int .i64 (n : Nat)) = flat (m.set i (p.1, n))
  | [], _, _, _, h => by simp at h
  | q :: m, 0, p, n, h => by
    simp at h; subst h
    simp [flat, row]
  | q :: m, i + 1, p, n, h => by
    have := flat_set (m := m) (i := i) (p := p) n (by simpa using h)
    have h2 : (i + 1) * 2 + 1 = i * 2 + 1 + 1 + 1 := by omega
    simp only [flat, List.flatMap_cons, row, List.cons_append, List.nil_append, h2, List.set_cons_succ] at this ⊢
    rw [this]
theorem flat_app (a b : NM) : flat (a ++ b) = flat a ++ flat b := by simp [flat]

/-- the reference's book in memory; own: the blocks that it may write. -/
def RefIs (own : Nat → Prop) (hs : HS) (hD : Nat) (m : NM) : Prop :=
  own hD ∧ ∃ vL, hs[hD]? = some (some (.cells 1 [vL] false false [])) ∧
    ((m = [] ∧ (vL = .nilSlice ∨ ∃ h ro opn olds, vL = .slice h 0 0 (some 0) ∧ hs[h]? = some (some (.cells 2 [] ro opn olds)))) ∨
      (m ≠ [] ∧ ∃ h olds, vL = .slice h 0 m.length none ∧ own h ∧ h ≠ hD ∧ hs[h]? = some (some (.cells 2 (flat m) false true olds)) ∧ ∀ o ∈ olds, own o ∧ o ≠ hD ∧ o < h))

variable {own : Nat → Prop} {hs : HS} {hD : Nat} {m : NM}

theorem RefIs.keep {hs' : HS} {n : Nat} (B : RefIs own hs hD m) (hn : hs.length ≤ n) (hk : Keeps n hs hs') : RefIs own hs' hD m := by
  obtain ⟨o1, vL, b, h⟩ := B
  refine ⟨o1, vL, hk.get (by have := lt_of_get b; omega) b, ?_⟩
  rcases h with ⟨h1, h2 | ⟨h, ro, opn, olds, h2, h3⟩⟩ | ⟨h1, h, olds, h2, h3, h4, h5, h6⟩
  · exact .inl ⟨h1, .inl h2⟩
  · exact .inl ⟨h1, .inr ⟨h, ro, opn, olds, h2, hk.get (by have := lt_of_get h3; omega) h3⟩⟩
  · exact .inr ⟨h1, h, olds, h2, h3, h4, hk.get (by have := lt_of_get h5; omega) h5, h6⟩

/-- what the list is like. -/
theorem RefIs.list (B : RefIs own hs hD m) : ∃ vL, hload none hs (.ptr hD 0) = some vL ∧ hlenK hs .slice vL = some (.int .i64 (m.length : Nat)) ∧
    (∀ i, i < m.length → ∃ h, own h ∧ hindexAddr 2 vL (.int .i64 (i : Nat)) = some (.ptr h (i * 2)) ∧ sOk hs 2 vL = true ∧ ∃ olds, hs[h]? = some (some (.cells 2 (flat m) false true olds)) ∧ h ≠ hD ∧ ∀ o ∈ olds, own o ∧ o ≠ hD ∧ o < h) ∧
    (∀ i, i ≤ m.length → ∃ va, hslice vL none (some (.int .i64 (i : Nat))) none = some va ∧ sOk hs 2 vL = true ∧ ∀ hs', Keeps hs.length hs hs' → takeCells hs' 2 va = some (i, flat (m.take i)) ∧ sOk hs' 2 vL = true) ∧
    (∀ i, i ≤ m.length → ∃ va, hslice vL (some (.int .i64 (i : Nat))) none none = some va ∧ ∀ hs', Keeps hs.length hs hs' → takeCells hs' 2 va = some (m.length - i, flat (m.drop i)) ∧ sOk hs' 2 vL = true) ∧
    takeCells hs 2 vL = some (m.length, flat m) := by
  obtain ⟨o1, vL, b, h⟩ := B
  refine ⟨vL, by simp only [hload, b]; rfl, ?_⟩
  rcases h with ⟨rfl, rfl | ⟨h, ro, opn, olds, rfl, h3⟩⟩ | ⟨h1, h, olds, rfl, h3, h4, h5, h6⟩
  · refine ⟨rfl, fun i hi => by simp at hi, fun i hi => ?_, fun i hi => ?_, rfl⟩
    · obtain rfl : i = 0 := by simpa using hi
      exact ⟨.nilSlice, rfl, rfl, fun hs' hk => ⟨rfl, rfl⟩⟩
    · obtain rfl : i = 0 := by simpa using hi
      exact ⟨.nilSlice, rfl, fun hs' hk => ⟨rfl, rfl⟩⟩
  · have hl := lt_of_get h3
    have sk : ∀ hs' : HS, Keeps hs.length hs hs' → sOk hs' 2 (.slice h 0 0 (some 0)) = true := fun hs' hk => by simp [sOk, hk.get hl h3]
    refine ⟨rfl, fun i hi => by simp at hi, fun i hi => ?_, fun i hi => ?_, rfl⟩
    · obtain rfl : i = 0 := by simpa using hi
      exact ⟨.slice h 0 0 (some 0), rfl, sk hs (Keeps.refl (Nat.le_refl _)), fun hs' hk => ⟨rfl, sk hs' hk⟩⟩
    · obtain rfl : i = 0 := by simpa using hi
      exact ⟨.slice h 0 0 (some 0), rfl, fun hs' hk => ⟨rfl, sk hs' hk⟩⟩
  · have hl := lt_of_get h5
    have hfl := flat_length m
    have sk : ∀ hs' : HS, Keeps hs.length hs hs' → sOk hs' 2 (.slice h 0 m.length none) = true := fun hs' hk => by simp [sOk, hk.get hl h5]
    have hpos : m.length ≠ 0 := by cases m with | nil => exact absurd rfl h1 | cons => simp
    have tk : ∀ (hs' : HS) (o len : Nat), Keeps hs.length hs hs' → o + len ≤ m.length → takeCells hs' 2 (.slice h o len none) = some (len, flat ((m.drop o).take len)) := by
      intro hs' o len hk ho
      simp only [takeCells]
      split
      · rename_i h0; subst h0; simp [flat]
      · rw [hk.get hl h5]
        simp only
        rw [if_pos ⟨trivial, by omega⟩, flat_drop, flat_take]
    refine ⟨rfl, fun i hi => ⟨h, h3, by rw [vidx_some hi]; simp, sk hs (Keeps.refl (Nat.le_refl _)), olds, h5, h4, h6⟩, fun i hi => ?_, fun i hi => ?_, ?_⟩
    · refine ⟨.slice h 0 i none, ?_, sk hs (Keeps.refl (Nat.le_refl _)), fun hs' hk => ⟨by simpa using tk hs' 0 i hk (by omega), sk hs' hk⟩⟩
      have e1 : bnd (some (.int .i64 ((i : Nat) : Int))) m.length m.length = some i := by simp only [bnd]; rw [if_pos (by omega), Int.toNat_natCast]
      simp only [hslice, bounds, show bnd none m.length m.length = some m.length from rfl, e1, show bnd none 0 i = some 0 from rfl]
      rw [if_pos (by omega)]
      simp
    · refine ⟨.slice h i (m.length - i) none, ?_, fun hs' hk => ⟨?_, sk hs' hk⟩⟩
      · have e1 : bnd (some (.int .i64 ((i : Nat) : Int))) 0 m.length = some i := by simp only [bnd]; rw [if_pos (by omega), Int.toNat_natCast]
        simp only [hslice, bounds, show bnd none m.length m.length = some m.length from rfl, e1]
        rw [if_pos (by omega)]
        simp
      · rw [tk hs' i (m.length - i) hk (by omega)]
        rw [List.take_of_length_le (by simp)]
    · have := tk hs 0 m.length (Keeps.refl (Nat.le_refl _)) (by omega)
      simpa using this

/-- where a name stands, or would. -/
def place (m : NM) (k : List UInt8) : Nat := (m.takeWhile fun p => bless p.1 k).length
theorem place_le (m : NM) (k : List UInt8) : place m k ≤ m.length := (List.takeWhile_sublist _).length_le
theorem place_at {m : NM} {k : List UInt8} {i : Nat} (h1 : ∀ (j : Nat) (p : List UInt8 × Nat), j < i → m[j]? = some p → bless p.1 k = true) {p : List UInt8 × Nat} (h2 : m[i]? = some p) (h3 : bless p.1 k = false) : place m k = i := by
  induction m generalizing i with
  | nil => simp at h2
  | cons q m ih =>
    cases i with
    | zero =>
      simp at h2; subst h2
      simp [place, List.takeWhile_cons, h3]
    | succ i =>
      have hq := h1 0 q (by omega) rfl
      have := ih (i := i) (fun j p hj hp => h1 (j + 1) p (by omega) (by simpa using hp)) (by simpa using h2)
      simp only [place, List.takeWhile_cons, hq, if_true, List.length_cons]
      unfold place at this
      omega
theorem place_end {m : NM} {k : List UInt8} (h1 : ∀ (j : Nat) (p : List UInt8 × Nat), m[j]? = some p → bless p.1 k = true) : place m k = m.length := by
  induction m with
  | nil => rfl
  | cons q m ih =>
    have hq := h1 0 q rfl
    have := ih fun j p hp => h1 (j + 1) p (by simpa using hp)
    unfold place at this ⊢
    simp only [List.takeWhile_cons, hq, if_true, List.length_cons, this]
/-- does it stand there? -/
def there (m : NM) (k : List UInt8) : Bool := match m[place m k]? with
  | some p => p.1 == k
  | none => false

theorem place44 (B : RefIs own hs hD m) (k : List UInt8) (hm : m.length < 8796093022208) :
    HC Try.prog 44 [.ptr hD 0, .str k] hs fun r hs' => r = .tup [.int .i64 (place m k : Nat), .bool (there m k)] ∧ hs' = hs := by
  obtain ⟨vL, l0, hlen, hidx, _, _, _⟩ := B.list
  refine HC.wp mixed Try.func44 c44 ?_
  simp -implicitDefEqProofs (disch := first | omega | decide) only [vwp_skip, vwp_ret, vwp_exit, vwp_lab, vwp_seq, vwp_cond, vwp_block, vwp_scope, vwp_region, vwp_draw, vwp_loop, vcnd_tt, vcnd_ff, vthen_normal, vthen_ret, vthen_exit, vblock_normal, vblock_ret, vblock_exit, vreg_nil, vreg_cons, vhl_nil, vhl_op, vhl_guard, vguard_tt, vguard_ff, vguard_tf, vguard_ft, vguard_no, vact_op, vop_some, vput_some, vput_none, vsame_sm, vunit_sm, vget_nil, vget_cons, vget_some,
    vo_mv, vo_bin, vo_un, vo_ext, vo_len, vo_idxS, vo_idxStr, vo_load, vo_pick, vo_append, vo_bslice, evp, vo_nilc, vo_faddr, vo_store, vo_sliceSl, vo_sliceStr, vo_cInt, vo_copy, vo_mkSlice, vo_box, vo_build, vo_b2s, vb2s_sl, vb2s_nil, vcInt, vnil_ptr, vo_mkMap, vo_lookup, vo_mapUpd, vo_del, vdel_some, vo_rangeMap, vo_entry, vfaddr_ptr, beq_self_eq_true, eq_self, decide_true, decide_false, vb_lss, vb_leq, vb_gtr, vb_geq, vb_eql, vb_neq, vb_seql, vb_sneq, vb_beql, vb_bneq, vun_not, vlen_str, vlen_sl, vlen_nil, vext_tup, HX.ev, List.length_cons, List.length_nil, List.append_nil, List.nil_append, List.cons_append, List.set_cons_succ, List.set_cons_zero, List.getElem?_cons_succ, List.getElem?_cons_zero, Option.getD_some, Option.map_some, Option.map_none, List.map_cons, List.map_nil, if_true, Bool.not_true, Bool.not_false, Bool.false_eq_true, if_false, h44, frame0, List.replicate, Nat.sub]
  refine HW.loopS mixed (fun i : Nat => (.ptr hD 0 :: .str k :: .undef :: .undef :: .int .i64 0 :: .bool false :: .int .i64 (i : Nat) :: .undef :: .undef :: .undef :: .undef :: .undef :: .undef :: .undef :: .undef :: .undef :: .undef :: .undef :: .undef :: .undef :: .undef :: .undef :: .undef :: .undef :: .undef :: .undef :: .undef :: .undef :: .undef :: .undef :: .undef :: .undef :: .undef :: .undef :: .undef :: .undef :: .undef :: .undef :: .undef :: .undef :: .undef :: .undef :: [])) (fun _ => hs) (fun i => m.length - i) (fun i => i ≤ m.length ∧ ∀ (j : Nat) (p : List UInt8 × Nat), j < i → m[j]? = some p → bless p.1 k = true) 0 ⟨by omega, fun j p h => absurd h (by omega)⟩ rfl (by (repeat first | exact Less.nil | refine Less.undef _ ?_ | refine Less.keep _ ?_)) ?_
  rintro i ⟨hi, hpre⟩
  by_cases h : i < m.length
  · have hlt : decide ((i : Int) < (m.length : Nat)) = true := by simp; omega
    have hx : m[i]? = some m[i] := List.getElem?_eq_getElem h
    obtain ⟨p, hp⟩ : ∃ p, p = m[i] := ⟨_, rfl⟩
    rw [← hp] at hx
    obtain ⟨b, hob, e1, e2, olds, e3, _⟩ := hidx i h
    have ld : hload none hs (.ptr b (i * 2)) = some (.str p.1) := by simp only [hload, e3]; exact (flat_get hx).1
    have hgeq : hbin .geq none (.str p.1) (.str k) = some (.bool !(bless p.1 k)) := rfl
    cases hb : bless p.1 k
    · have hpl := place_at hpre hx hb
      have hth : there m k = (p.1 == k) := by unfold there; rw [hpl, hx]
      rw [hb] at hgeq
      simp -implicitDefEqProofs (disch := first | omega | decide) only [vwp_skip, vwp_ret, vwp_exit, vwp_lab, vwp_seq, vwp_cond, vwp_block, vwp_scope, vwp_region, vwp_draw, vwp_loop, vcnd_tt, vcnd_ff, vthen_normal, vthen_ret, vthen_exit, vblock_normal, vblock_ret, vblock_exit, vreg_nil, vreg_cons, vhl_nil, vhl_op, vhl_guard, vguard_tt, vguard_ff, vguard_tf, vguard_ft, vguard_no, vact_op, vop_some, vput_some, vput_none, vsame_sm, vunit_sm, vget_nil, vget_cons, vget_some,
    vo_mv, vo_bin, vo_un, vo_ext, vo_len, vo_idxS, vo_idxStr, vo_load, vo_pick, vo_append, vo_bslice, evp, vo_nilc, vo_faddr, vo_store, vo_sliceSl, vo_sliceStr, vo_cInt, vo_copy, vo_mkSlice, vo_box, vo_build, vo_b2s, vb2s_sl, vb2s_nil, vcInt, vnil_ptr, vo_mkMap, vo_lookup, vo_mapUpd, vo_del, vdel_some, vo_rangeMap, vo_entry, vfaddr_ptr, beq_self_eq_true, eq_self, decide_true, decide_false, vb_lss, vb_leq, vb_gtr, vb_geq, vb_eql, vb_neq, vb_seql, vb_sneq, vb_beql, vb_bneq, vun_not, vlen_str, vlen_sl, vlen_nil, vext_tup, HX.ev, List.length_cons, List.length_nil, List.append_nil, List.nil_append, List.cons_append, List.set_cons_succ, List.set_cons_zero, List.getElem?_cons_succ, List.getElem?_cons_zero, Option.getD_some, Option.map_some, Option.map_none, List.map_cons, List.map_nil, if_true, Bool.not_true, Bool.not_false, Bool.false_eq_true, if_false, l0, hlen, hlt, e1, e2, ld, hgeq, Nat.add_zero]
      exact ⟨rfl, _, rfl, by rw [hpl, hth]; rfl, trivial⟩
    · rw [hb] at hgeq
      simp -implicitDefEqProofs (disch := first | omega | decide) only [vwp_skip, vwp_ret, vwp_exit, vwp_lab, vwp_seq, vwp_cond, vwp_block, vwp_scope, vwp_region, vwp_draw, vwp_loop, vcnd_tt, vcnd_ff, vthen_normal, vthen_ret, vthen_exit, vblock_normal, vblock_ret, vblock_exit, vreg_nil, vreg_cons, vhl_nil, vhl_op, vhl_guard, vguard_tt, vguard_ff, vguard_tf, vguard_ft, vguard_no, vact_op, vop_some, vput_some, vput_none, vsame_sm, vunit_sm, vget_nil, vget_cons, vget_some,
    vo_mv, vo_bin, vo_un, vo_ext, vo_len, vo_idxS, vo_idxStr, vo_load, vo_pick, vo_append, vo_bslice, evp, vo_nilc, vo_faddr, vo_store, vo_sliceSl, vo_sliceStr, vo_cInt, vo_copy, vo_mkSlice, vo_box, vo_build, vo_b2s, vb2s_sl, vb2s_nil, vcInt, vnil_ptr, vo_mkMap, vo_lookup, vo_mapUpd, vo_del, vdel_some, vo_rangeMap, vo_entry, vfaddr_ptr, beq_self_eq_true, eq_self, decide_true, decide_false, vb_lss, vb_leq, vb_gtr, vb_geq, vb_eql, vb_neq, vb_seql, vb_sneq, vb_beql, vb_bneq, vun_not, vlen_str, vlen_sl, vlen_nil, vext_tup, HX.ev, List.length_cons, List.length_nil, List.append_nil, List.nil_append, List.cons_append, List.set_cons_succ, List.set_cons_zero, List.getElem?_cons_succ, List.getElem?_cons_zero, Option.getD_some, Option.map_some, Option.map_none, List.map_cons, List.map_nil, if_true, Bool.not_true, Bool.not_false, Bool.false_eq_true, if_false, l0, hlen, hlt, e1, e2, ld, hgeq, Nat.add_zero, vadd1]
      refine ⟨i + 1, by omega, ⟨by omega, fun j q hj hq => ?_⟩, trivial, by (repeat first | exact Less.nil | refine Less.undef _ ?_ | refine Less.keep _ ?_)⟩
      rcases Nat.lt_or_ge j i with h1 | h1
      · exact hpre j q h1 hq
      · obtain rfl : j = i := by omega
        rw [hx] at hq; simp at hq; subst hq
        exact hb
  · obtain rfl : i = m.length := by omega
    have hlt : decide (((m.length : Nat) : Int) < (m.length : Nat)) = false := by simp
    have hpl : place m k = m.length := place_end fun j p hp => hpre j p (lt_of_get hp) hp
    have hth : there m k = false := by unfold there; rw [hpl]; simp
    simp -implicitDefEqProofs (disch := first | omega | decide) only [vwp_skip, vwp_ret, vwp_exit, vwp_lab, vwp_seq, vwp_cond, vwp_block, vwp_scope, vwp_region, vwp_draw, vwp_loop, vcnd_tt, vcnd_ff, vthen_normal, vthen_ret, vthen_exit, vblock_normal, vblock_ret, vblock_exit, vreg_nil, vreg_cons, vhl_nil, vhl_op, vhl_guard, vguard_tt, vguard_ff, vguard_tf, vguard_ft, vguard_no, vact_op, vop_some, vput_some, vput_none, vsame_sm, vunit_sm, vget_nil, vget_cons, vget_some,
    vo_mv, vo_bin, vo_un, vo_ext, vo_len, vo_idxS, vo_idxStr, vo_load, vo_pick, vo_append, vo_bslice, evp, vo_nilc, vo_faddr, vo_store, vo_sliceSl, vo_sliceStr, vo_cInt, vo_copy, vo_mkSlice, vo_box, vo_build, vo_b2s, vb2s_sl, vb2s_nil, vcInt, vnil_ptr, vo_mkMap, vo_lookup, vo_mapUpd, vo_del, vdel_some, vo_rangeMap, vo_entry, vfaddr_ptr, beq_self_eq_true, eq_self, decide_true, decide_false, vb_lss, vb_leq, vb_gtr, vb_geq, vb_eql, vb_neq, vb_seql, vb_sneq, vb_beql, vb_bneq, vun_not, vlen_str, vlen_sl, vlen_nil, vext_tup, HX.ev, List.length_cons, List.length_nil, List.append_nil, List.nil_append, List.cons_append, List.set_cons_succ, List.set_cons_zero, List.getElem?_cons_succ, List.getElem?_cons_zero, Option.getD_some, Option.map_some, Option.map_none, List.map_cons, List.map_nil, if_true, Bool.not_true, Bool.not_false, Bool.false_eq_true, if_false, l0, hlen, hlt]
    exact ⟨rfl, _, rfl, by rw [hpl, hth]; rfl, trivial⟩
end R
end Go.Proofs.Ytalcaflkfpiehaa
