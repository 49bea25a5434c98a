/-
  A book of names: what its methods answer (the program's).
-/
import Derived.Test.YtalcaflkfpiehaaV2
import Derived.Test.YtalcaflkfpiehaaHLMap
import Derived.Test.YtalcaflkfpiehaaHLSort
import Derived.Ground.NamesProg
namespace Go.Proofs
open Go.Shelf
def Try.lays190_ren : Go.Shelf.Ren := ⟨fun | 190 => 28 | 125 => 42 | 258 => 41 | 128 => 55 | 129 => 56 | 302 => 46 | 303 => 47 | 304 => 48 | 305 => 49 | 306 => 50 | 307 => 51 | 308 => 52 | 309 => 53 | 310 => 54 | 333 => 58 | 329 => 59 | 330 => 60 | 334 => 61 | 335 => 62 | 336 => 63 | 344 => 64 | n => n, fun | 31 => 35 | 9 => 9 | 3 => 3 | 46 => 72 | 0 => 0 | 51 => 84 | 53 => 86 | 4 => 4 | 183 => 77 | 182 => 76 | 131 => 33 | 5 => 5 | 218 => 87 | 222 => 91 | 228 => 93 | 229 => 94 | n => n, fun | n => n⟩
theorem Try.lays190 : Go.Proofs.Lays.n190 Try.prog Try.lays190_ren :=
  { mixed := by kernel_rfl
    f125 := Try.func42.trans (congrArg some (by kernel_rfl))
    f128 := Try.func55.trans (congrArg some (by kernel_rfl))
    f129 := Try.func56.trans (congrArg some (by kernel_rfl))
    f190 := Try.func28.trans (congrArg some (by kernel_rfl))
    f258 := Try.func41.trans (congrArg some (by kernel_rfl))
    f302 := Try.func46.trans (congrArg some (by kernel_rfl))
    f303 := Try.func47.trans (congrArg some (by kernel_rfl))
    f304 := Try.func48.trans (congrArg some (by kernel_rfl))
    f305 := Try.func49.trans (congrArg some (by kernel_rfl))
    f306 := Try.func50.trans (congrArg some (by kernel_rfl))
    f307 := Try.func51.trans (congrArg some (by kernel_rfl))
    f308 := Try.func52.trans (congrArg some (by kernel_rfl))
    f309 := Try.func53.trans (congrArg some (by kernel_rfl))
    f310 := Try.func54.trans (congrArg some (by kernel_rfl))
    f329 := Try.func59.trans (congrArg some (by kernel_rfl))
    f330 := Try.func60.trans (congrArg some (by kernel_rfl))
    f333 := Try.func58.trans (congrArg some (by kernel_rfl))
    f334 := Try.func61.trans (congrArg some (by kernel_rfl))
    f335 := Try.func62.trans (congrArg some (by kernel_rfl))
    f336 := Try.func63.trans (congrArg some (by kernel_rfl))
    f344 := Try.func64.trans (congrArg some (by kernel_rfl))
    t0 := Try.underlying0
    a0 := Try.isAgg0
    z0 := Try.sizeOf0
    v0 := Try.zeroValue0
    t3 := Try.underlying3
    a3 := Try.isAgg3
    z3 := Try.sizeOf3
    v3 := Try.zeroValue3
    t4 := Try.underlying4
    a4 := Try.isAgg4
    z4 := Try.sizeOf4
    v4 := Try.zeroValue4
    t5 := Try.underlying5
    a5 := Try.isAgg5
    z5 := Try.sizeOf5
    v5 := Try.zeroValue5
    t9 := Try.underlying9
    a9 := Try.isAgg9
    z9 := Try.sizeOf9
    v9 := Try.zeroValue9
    t31 := Try.underlying35
    a31 := Try.isAgg35
    z31 := Try.sizeOf35
    v31 := Try.zeroValue35
    t46 := Try.underlying72
    a46 := Try.isAgg72
    z46 := Try.sizeOf72
    v46 := Try.zeroValue72
    t51 := Try.underlying84
    a51 := Try.isAgg84
    z51 := Try.sizeOf84
    v51 := Try.zeroValue84
    t53 := Try.underlying86
    a53 := Try.isAgg86
    z53 := Try.sizeOf86
    v53 := Try.zeroValue86
    t131 := Try.underlying33
    a131 := Try.isAgg33
    z131 := Try.sizeOf33
    v131 := Try.zeroValue33
    t182 := Try.underlying76
    a182 := Try.isAgg76
    z182 := Try.sizeOf76
    v182 := Try.zeroValue76
    t183 := Try.underlying77
    a183 := Try.isAgg77
    z183 := Try.sizeOf77
    v183 := Try.zeroValue77
    t218 := Try.underlying87
    a218 := Try.isAgg87
    z218 := Try.sizeOf87
    v218 := Try.zeroValue87
    t222 := Try.underlying91
    a222 := Try.isAgg91
    z222 := Try.sizeOf91
    v222 := Try.zeroValue91
    t228 := Try.underlying93
    a228 := Try.isAgg93
    z228 := Try.sizeOf93
    v228 := Try.zeroValue93
    t229 := Try.underlying94
    a229 := Try.isAgg94
    z229 := Try.sizeOf94
    v229 := Try.zeroValue94 }
end Go.Proofs
namespace Go.Proofs.Ytalcaflkfpiehaa
open Go Go.HL V
namespace B
set_option maxRecDepth 100000
set_option maxHeartbeats 4000000
set_option linter.unusedSimpArgs false

abbrev NM := List (List UInt8 × Nat)
def vals (m : NM) : List (List UInt8 × HV) := m.map fun p => (p.1, HV.int .i64 (p.2 : Nat))
def fndN (k : List UInt8) : NM → Nat → Option (Nat × Nat)
  | [], _ => none
  | (k', v) :: m, i => if k = k' then some (i, v) else fndN k m (i + 1)
def cnt (m : NM) (k : List UInt8) : Nat := ((fndN k m 0).map Prod.snd).getD 0
def putN (m : NM) (k : List UInt8) (n : Nat) : NM := match fndN k m 0 with
  | some (i, _) => m.set i (k, n)
  | none => m ++ [(k, n)]
def cutN (m : NM) (k : List UInt8) : NM := match fndN k m 0 with
  | some (i, _) => m.eraseIdx i
  | none => m
def sum (m : NM) : Nat := (m.map Prod.snd).sum

theorem fnd_vals (k : List UInt8) : ∀ (m : NM) (i : Nat), fnd k (vals m) i = (fndN k m i).map fun p => (p.1, HV.int .i64 (p.2 : Nat))
  | [], _ => rfl
  | (k', v) :: m, i => by
    simp only [vals, List.map_cons, fnd, fndN]
    split
    · rfl
    · exact fnd_vals k m (i + 1)
theorem look_vals (m : NM) (k : List UInt8) : (HL.look (vals m) k).getD (.int .i64 0) = .int .i64 (cnt m k : Nat) := by
  unfold HL.look cnt
  rw [fnd_vals]
  cases fndN k m 0 with
  | none => rfl
  | some p => rfl
theorem put_vals (m : NM) (k : List UInt8) (n : Nat) : put1 (vals m) k (.int .i64 (n : Nat)) = vals (putN m k n) := by
  unfold put1 putN
  rw [fnd_vals]
  cases fndN k m 0 with
  | none => simp [vals]
  | some p => simp [vals, List.map_set]
theorem cut_vals (m : NM) (k : List UInt8) : cut1 (vals m) k = vals (cutN m k) := by
  unfold cut1 cutN
  rw [fnd_vals]
  cases fndN k m 0 with
  | none => rfl
  | some p => simp [vals, erase_map]
theorem fndN_some {k : List UInt8} : ∀ {m : NM} {i j v : Nat}, fndN k m i = some (j, v) → ∃ n, j = i + n ∧ m[n]? = some (k, v)
  | [], _, _, _, h => by simp [fndN] at h
  | (k', v') :: m, i, j, v, h => by
    unfold fndN at h
    split at h
    · rename_i hk
      simp at h
      obtain ⟨rfl, rfl⟩ := h
      exact ⟨0, rfl, by simp [hk]⟩
    · obtain ⟨n, e1, e2⟩ := fndN_some h
      exact ⟨n + 1, by omega, by simpa using e2⟩
theorem fndN_none {k : List UInt8} : ∀ {m : NM} {i : Nat}, fndN k m i = none → ∀ p ∈ m, p.1 ≠ k
  | [], _, _, p, hp => by simp at hp
  | (k', v') :: m, i, h, p, hp => by
    unfold fndN at h
    split at h
    · simp at h
    · rename_i hk
      rcases List.mem_cons.1 hp with rfl | hp
      · exact fun e => hk e.symm
      · exact fndN_none h p hp
theorem sum_set : ∀ {m : NM} {i : Nat} {k : List UInt8} {v n : Nat}, m[i]? = some (k, v) → sum (m.set i (k, n)) + v = sum m + n
  | [], _, _, _, _, h => by simp at h
  | (k', v') :: m, 0, k, v, n, h => by
    simp at h
    obtain ⟨rfl, rfl⟩ := h
    simp [sum]; omega
  | (k', v') :: m, i + 1, k, v, n, h => by
    have := sum_set (m := m) (i := i) (n := n) (by simpa using h)
    simp [sum] at this ⊢; omega
theorem sum_erase : ∀ {m : NM} {i : Nat} {k : List UInt8} {v : Nat}, m[i]? = some (k, v) → sum (m.eraseIdx i) + v = sum m
  | [], _, _, _, h => by simp at h
  | (k', v') :: m, 0, k, v, h => by
    simp at h
    obtain ⟨rfl, rfl⟩ := h
    simp [sum]; omega
  | (k', v') :: m, i + 1, k, v, h => by
    have := sum_erase (m := m) (i := i) (by simpa using h)
    simp [sum] at this ⊢; omega
theorem sum_put (m : NM) (k : List UInt8) (n : Nat) : sum (putN m k n) + cnt m k = sum m + n := by
  unfold putN cnt
  cases h : fndN k m 0 with
  | none => simp [sum]
  | some p =>
    obtain ⟨i, v⟩ := p
    obtain ⟨j, e1, e2⟩ := fndN_some h
    obtain rfl : i = j := by omega
    simpa using sum_set e2
theorem sum_cut (m : NM) (k : List UInt8) : sum (cutN m k) + cnt m k = sum m := by
  unfold cutN cnt
  cases h : fndN k m 0 with
  | none => simp
  | some p =>
    obtain ⟨i, v⟩ := p
    obtain ⟨j, e1, e2⟩ := fndN_some h
    obtain rfl : i = j := by omega
    simpa using sum_erase e2
theorem cnt_le (m : NM) (k : List UInt8) : cnt m k ≤ sum m := by have := sum_cut m k; omega

/-- each is held, and may be a name. -/
def Good (m : NM) : Prop := ∀ p ∈ m, 0 < p.2 ∧ validL p.1 = true
theorem Good.put {m : NM} (h : Good m) {k : List UInt8} {n : Nat} (hn : 0 < n) (hk : validL k = true) : Good (putN m k n) := by
  intro p hp
  unfold putN at hp
  split at hp
  · rcases List.mem_or_eq_of_mem_set hp with h' | h'
    · exact h p h'
    · subst h'; exact ⟨hn, hk⟩
  · rcases List.mem_append.1 hp with h' | h'
    · exact h p h'
    · simp at h'; subst h'; exact ⟨hn, hk⟩
theorem Good.cut {m : NM} (h : Good m) (k : List UInt8) : Good (cutN m k) := by
  intro p hp
  unfold cutN at hp
  split at hp
  · exact h p (List.mem_of_mem_eraseIdx hp)
  · exact h p hp
theorem Good.valid {m : NM} (h : Good m) {k : List UInt8} (hc : cnt m k ≠ 0) : validL k = true := by
  unfold cnt at hc
  cases hf : fndN k m 0 with
  | none => rw [hf] at hc; simp at hc
  | some p =>
    obtain ⟨i, v⟩ := p
    obtain ⟨j, e1, e2⟩ := fndN_some hf
    exact (h _ (List.mem_of_getElem? e2)).2

/-- rows of cells are as they were. -/
def CellsKept (hs hs' : HS) : Prop := ∀ (i s : Nat) (cs : List HV) (ro opn : Bool) (olds : List Nat), hs[i]? = some (some (.cells s cs ro opn olds)) → hs'[i]? = some (some (.cells s cs ro opn olds))
theorem CellsKept.of {hs hs' : HS} {hm : Nat} {m : List (List UInt8 × HV)} (M : MapIs HV.str hs hm m) (h : ∀ i, i ≠ hm → hs'[i]? = hs[i]?) : CellsKept hs hs' := fun i s cs ro opn olds hi => by
  rw [h i fun e => ?_]
  · exact hi
  · subst e
    obtain ⟨es, clock, hb, _⟩ := M
    rw [hb] at hi; simp at hi

/-- a book in memory: its block, its map; both behind n. -/
def BookIs (n : Nat) (hs : HS) (hB : Nat) (m : NM) : Prop := ∃ hm, hs[hB]? = some (some (.cells 1 [.map hm] false false [])) ∧ MapIs HV.str hs hm (vals m) ∧ n ≤ hB ∧ n ≤ hm ∧ hm ≠ hB
theorem BookIs.keep {n : Nat} {hs hs' : HS} {hB : Nat} {m : NM} (B : BookIs n hs hB m) {k : Nat} (hk : hs.length ≤ k) (h : Keeps k hs hs') : BookIs n hs' hB m := by
  obtain ⟨hm, b, M, h1, h2, h3⟩ := B
  exact ⟨hm, h.get (by have := lt_of_get b; omega) b, M.same (h.2 hm (by have := M.lt; omega)), h1, h2, h3⟩

theorem ok9 : okF Try.prog 9 := ⟨_, Try.func9, by kernel_rfl, by kernel_rfl⟩
theorem ok12 : okF Try.prog 12 := ⟨_, Try.func12, by kernel_rfl, by kernel_rfl⟩
theorem ok13 : okF Try.prog 13 := ⟨_, Try.func13, by kernel_rfl, by kernel_rfl⟩
theorem ok14 : okF Try.prog 14 := ⟨_, Try.func14, by kernel_rfl, by kernel_rfl⟩
theorem ok15 : okF Try.prog 15 := ⟨_, Try.func15, by kernel_rfl, by kernel_rfl⟩
theorem ok16 : okF Try.prog 16 := ⟨_, Try.func16, by kernel_rfl, by kernel_rfl⟩
theorem ok28 : okF Try.prog 28 := ⟨_, Try.func28, by kernel_rfl, by kernel_rfl⟩
theorem ok11 : okF Try.prog 11 := ⟨_, Try.func11, by kernel_rfl, by kernel_rfl⟩
theorem ok8 : okF Try.prog 8 := ⟨_, Try.func8, by kernel_rfl, by kernel_rfl⟩
theorem valid (s : List UInt8) (hs : HS) : HC Try.prog 9 [.str s] hs fun v hs' => v = .bool (validL s) ∧ hs' = hs := HC.frame (R := fun v => v = .bool (validL s)) rfl (fun v h => by subst h; rfl) (valid9 s)

variable {n : Nat} {hs : HS} {hB : Nat} {m : NM}

theorem BookIs.load (B : BookIs n hs hB m) : ∃ hm, hload none hs (.ptr hB 0) = some (.map hm) ∧ MapIs HV.str hs hm (vals m) ∧ n ≤ hm ∧ hm ≠ hB := by
  obtain ⟨hm, b, M, h1, h2, h3⟩ := B
  exact ⟨hm, by simp only [hload, b]; rfl, M, h2, h3⟩

theorem count12 (B : BookIs n hs hB m) (k : List UInt8) : HC Try.prog 12 [.ptr hB 0, .str k] hs fun v hs' => v = .int .i64 (cnt m k : Nat) ∧ hs' = hs := by
  obtain ⟨hm, l0, M, _, _⟩ := B.load
  have hl := M.lookup strKey (.int .i64 0) k
  rw [look_vals] at hl
  refine HC.wp mixed Try.func12 c12 ?_
  simp -implicitDefEqProofs (disch := first | omega | decide) only [vwp_skip, vwp_ret, vwp_exit, vwp_lab, vwp_seq, vwp_cond, vwp_block, vwp_scope, vwp_region, vwp_draw, vwp_loop, vcnd_tt, vcnd_ff, vthen_normal, vthen_ret, vthen_exit, vblock_normal, vblock_ret, vblock_exit, vreg_nil, vreg_cons, vhl_nil, vhl_op, vhl_guard, vguard_tt, vguard_ff, vguard_tf, vguard_ft, vguard_no, vact_op, vop_some, vput_some, vput_none, vsame_sm, vunit_sm, vget_nil, vget_cons, vget_some,
    vo_mv, vo_bin, vo_un, vo_ext, vo_len, vo_idxS, vo_idxStr, vo_load, vo_pick, vo_append, vo_bslice, evp, vo_nilc, vo_faddr, vo_store, vo_sliceSl, vo_sliceStr, vo_cInt, vo_copy, vo_mkSlice, vo_box, vo_build, vo_b2s, vb2s_sl, vb2s_nil, vcInt, vnil_ptr, vo_mkMap, vo_lookup, vo_mapUpd, vo_del, vdel_some, vo_rangeMap, vo_entry, vfaddr_ptr, beq_self_eq_true, eq_self, decide_true, decide_false, vb_lss, vb_leq, vb_gtr, vb_geq, vb_eql, vb_neq, vb_seql, vb_sneq, vb_beql, vb_bneq, vun_not, vlen_str, vlen_sl, vlen_nil, vext_tup, HX.ev, List.length_cons, List.length_nil, List.append_nil, List.nil_append, List.cons_append, List.set_cons_succ, List.set_cons_zero, List.getElem?_cons_succ, List.getElem?_cons_zero, Option.getD_some, Option.map_some, Option.map_none, List.map_cons, List.map_nil, if_true, Bool.not_true, Bool.not_false, Bool.false_eq_true, if_false, h12, l0, vo_lookup, hl, frame0, List.replicate, Nat.sub]
  exact ⟨rfl, _, rfl, rfl, trivial⟩

theorem len16 (B : BookIs n hs hB m) : HC Try.prog 16 [.ptr hB 0] hs fun v hs' => v = .int .i64 (m.length : Nat) ∧ hs' = hs := by
  obtain ⟨hm, l0, M, _, _⟩ := B.load
  have hl := M.len
  rw [show (vals m).length = m.length by simp [vals]] at hl
  refine HC.wp mixed Try.func16 c16 ?_
  simp -implicitDefEqProofs (disch := first | omega | decide) only [vwp_skip, vwp_ret, vwp_exit, vwp_lab, vwp_seq, vwp_cond, vwp_block, vwp_scope, vwp_region, vwp_draw, vwp_loop, vcnd_tt, vcnd_ff, vthen_normal, vthen_ret, vthen_exit, vblock_normal, vblock_ret, vblock_exit, vreg_nil, vreg_cons, vhl_nil, vhl_op, vhl_guard, vguard_tt, vguard_ff, vguard_tf, vguard_ft, vguard_no, vact_op, vop_some, vput_some, vput_none, vsame_sm, vunit_sm, vget_nil, vget_cons, vget_some,
    vo_mv, vo_bin, vo_un, vo_ext, vo_len, vo_idxS, vo_idxStr, vo_load, vo_pick, vo_append, vo_bslice, evp, vo_nilc, vo_faddr, vo_store, vo_sliceSl, vo_sliceStr, vo_cInt, vo_copy, vo_mkSlice, vo_box, vo_build, vo_b2s, vb2s_sl, vb2s_nil, vcInt, vnil_ptr, vo_mkMap, vo_lookup, vo_mapUpd, vo_del, vdel_some, vo_rangeMap, vo_entry, vfaddr_ptr, beq_self_eq_true, eq_self, decide_true, decide_false, vb_lss, vb_leq, vb_gtr, vb_geq, vb_eql, vb_neq, vb_seql, vb_sneq, vb_beql, vb_bneq, vun_not, vlen_str, vlen_sl, vlen_nil, vext_tup, HX.ev, List.length_cons, List.length_nil, List.append_nil, List.nil_append, List.cons_append, List.set_cons_succ, List.set_cons_zero, List.getElem?_cons_succ, List.getElem?_cons_zero, Option.getD_some, Option.map_some, Option.map_none, List.map_cons, List.map_nil, if_true, Bool.not_true, Bool.not_false, Bool.false_eq_true, if_false, h16, l0, hl, frame0, List.replicate, Nat.sub]
  exact ⟨rfl, _, rfl, rfl, trivial⟩

theorem hold13 (B : BookIs n hs hB m) (hn : n ≤ hs.length) (k : List UInt8) (hc : sum m < 4611686018427387904) :
    HC Try.prog 13 [.ptr hB 0, .str k] hs fun r hs' => r = .tup [.int .i64 ((if validL k = true then cnt m k + 1 else 0 : Nat) : Int), .int .i64 (if validL k = true then 0 else 50)] ∧ BookIs n hs' hB (if validL k = true then putN m k (cnt m k + 1) else m) ∧ Keeps n hs hs' ∧ hs'.length = hs.length ∧ CellsKept hs hs' := by
  obtain ⟨hm, l0, M, hmn, hmB⟩ := B.load
  have hcl := cnt_le m k
  have hl := M.lookup strKey (.int .i64 0) k
  rw [look_vals] at hl
  obtain ⟨hs', hu, M', hlen, hsame⟩ := M.update strKey k (.int .i64 ((cnt m k + 1 : Nat) : Int))
  rw [put_vals] at M'
  have B' : BookIs n hs' hB (putN m k (cnt m k + 1)) := by
    obtain ⟨hm', b, _, h1, _, _⟩ := B
    refine ⟨hm, ?_, M', h1, hmn, hmB⟩
    rw [hsame hB (fun e => hmB e.symm), b]
    simp only [hload, b] at l0
    simp at l0
    rw [l0]
  obtain ⟨hm', l0', M2, _, _⟩ := B'.load
  have hl' := M2.lookup strKey (.int .i64 0) k
  rw [look_vals] at hl'
  have hcp : cnt (putN m k (cnt m k + 1)) k = cnt m k + 1 := by
    unfold putN cnt
    cases hf : fndN k m 0 with
    | none =>
      have : ∀ (m : NM) (i : Nat), fndN k m i = none → fndN k (m ++ [(k, 0 + 1)]) i = some (i + m.length, 0 + 1) := by
        intro m
        induction m with
        | nil => intro i _; simp [fndN]
        | cons p m ih =>
          intro i h
          obtain ⟨k', v'⟩ := p
          unfold fndN at h
          split at h
          · simp at h
          · rename_i hk
            rw [List.cons_append, fndN, if_neg hk, ih (i + 1) h]
            simp; omega
      simp only [Option.map_none, Option.getD_none]
      rw [this m 0 hf]
      rfl
    | some p =>
      obtain ⟨j, v⟩ := p
      have : ∀ (m : NM) (i j v w : Nat), fndN k m i = some (i + j, v) → fndN k (m.set j (k, w)) i = some (i + j, w) := by
        intro m
        induction m with
        | nil => intro i j v w h; simp [fndN] at h
        | cons p m ih =>
          intro i j v w h
          obtain ⟨k', v'⟩ := p
          unfold fndN at h
          split at h
          · simp at h
            obtain ⟨h1, rfl⟩ := h
            subst h1
            simp [fndN]
          · rename_i hk
            obtain ⟨q, e1, _⟩ := fndN_some h
            obtain ⟨j', rfl⟩ : ∃ j', j = j' + 1 := ⟨j - 1, by omega⟩
            rw [List.set_cons_succ, fndN, if_neg hk]
            have := ih (i + 1) j' v w (by rw [h]; congr 2; omega)
            rw [this]
            congr 2; omega
      have h2 := this m 0 j v (v + 1) (by rw [hf]; simp)
      simp only [Option.map_some, Option.getD_some]
      rw [h2]
      rfl
  rw [hcp] at hl'
  refine HC.wp mixed Try.func13 c13 ?_
  simp -implicitDefEqProofs (disch := first | omega | decide) only [vwp_skip, vwp_ret, vwp_exit, vwp_lab, vwp_seq, vwp_cond, vwp_block, vwp_scope, vwp_region, vwp_draw, vwp_loop, vcnd_tt, vcnd_ff, vthen_normal, vthen_ret, vthen_exit, vblock_normal, vblock_ret, vblock_exit, vreg_nil, vreg_cons, vhl_nil, vhl_op, vhl_guard, vguard_tt, vguard_ff, vguard_tf, vguard_ft, vguard_no, vact_op, vop_some, vput_some, vput_none, vsame_sm, vunit_sm, vget_nil, vget_cons, vget_some,
    vo_mv, vo_bin, vo_un, vo_ext, vo_len, vo_idxS, vo_idxStr, vo_load, vo_pick, vo_append, vo_bslice, evp, vo_nilc, vo_faddr, vo_store, vo_sliceSl, vo_sliceStr, vo_cInt, vo_copy, vo_mkSlice, vo_box, vo_build, vo_b2s, vb2s_sl, vb2s_nil, vcInt, vnil_ptr, vo_mkMap, vo_lookup, vo_mapUpd, vo_del, vdel_some, vo_rangeMap, vo_entry, vfaddr_ptr, beq_self_eq_true, eq_self, decide_true, decide_false, vb_lss, vb_leq, vb_gtr, vb_geq, vb_eql, vb_neq, vb_seql, vb_sneq, vb_beql, vb_bneq, vun_not, vlen_str, vlen_sl, vlen_nil, vext_tup, HX.ev, List.length_cons, List.length_nil, List.append_nil, List.nil_append, List.cons_append, List.set_cons_succ, List.set_cons_zero, List.getElem?_cons_succ, List.getElem?_cons_zero, Option.getD_some, Option.map_some, Option.map_none, List.map_cons, List.map_nil, if_true, Bool.not_true, Bool.not_false, Bool.false_eq_true, if_false, h13, frame0, List.replicate, Nat.sub]
  refine vcall_of ok9 rfl (valid k hs) ?_
  rintro _ hs ⟨rfl, rfl⟩
  cases hv : validL k
  · simp -implicitDefEqProofs (disch := first | omega | decide) only [vwp_skip, vwp_ret, vwp_exit, vwp_lab, vwp_seq, vwp_cond, vwp_block, vwp_scope, vwp_region, vwp_draw, vwp_loop, vcnd_tt, vcnd_ff, vthen_normal, vthen_ret, vthen_exit, vblock_normal, vblock_ret, vblock_exit, vreg_nil, vreg_cons, vhl_nil, vhl_op, vhl_guard, vguard_tt, vguard_ff, vguard_tf, vguard_ft, vguard_no, vact_op, vop_some, vput_some, vput_none, vsame_sm, vunit_sm, vget_nil, vget_cons, vget_some,
    vo_mv, vo_bin, vo_un, vo_ext, vo_len, vo_idxS, vo_idxStr, vo_load, vo_pick, vo_append, vo_bslice, evp, vo_nilc, vo_faddr, vo_store, vo_sliceSl, vo_sliceStr, vo_cInt, vo_copy, vo_mkSlice, vo_box, vo_build, vo_b2s, vb2s_sl, vb2s_nil, vcInt, vnil_ptr, vo_mkMap, vo_lookup, vo_mapUpd, vo_del, vdel_some, vo_rangeMap, vo_entry, vfaddr_ptr, beq_self_eq_true, eq_self, decide_true, decide_false, vb_lss, vb_leq, vb_gtr, vb_geq, vb_eql, vb_neq, vb_seql, vb_sneq, vb_beql, vb_bneq, vun_not, vlen_str, vlen_sl, vlen_nil, vext_tup, HX.ev, List.length_cons, List.length_nil, List.append_nil, List.nil_append, List.cons_append, List.set_cons_succ, List.set_cons_zero, List.getElem?_cons_succ, List.getElem?_cons_zero, Option.getD_some, Option.map_some, Option.map_none, List.map_cons, List.map_nil, if_true, Bool.not_true, Bool.not_false, Bool.false_eq_true, if_false]
    exact ⟨rfl, _, rfl, by simp, by simpa using B, Keeps.refl hn, trivial, fun _ _ _ _ _ _ h => h⟩
  · simp -implicitDefEqProofs (disch := first | omega | decide) only [vwp_skip, vwp_ret, vwp_exit, vwp_lab, vwp_seq, vwp_cond, vwp_block, vwp_scope, vwp_region, vwp_draw, vwp_loop, vcnd_tt, vcnd_ff, vthen_normal, vthen_ret, vthen_exit, vblock_normal, vblock_ret, vblock_exit, vreg_nil, vreg_cons, vhl_nil, vhl_op, vhl_guard, vguard_tt, vguard_ff, vguard_tf, vguard_ft, vguard_no, vact_op, vop_some, vput_some, vput_none, vsame_sm, vunit_sm, vget_nil, vget_cons, vget_some,
    vo_mv, vo_bin, vo_un, vo_ext, vo_len, vo_idxS, vo_idxStr, vo_load, vo_pick, vo_append, vo_bslice, evp, vo_nilc, vo_faddr, vo_store, vo_sliceSl, vo_sliceStr, vo_cInt, vo_copy, vo_mkSlice, vo_box, vo_build, vo_b2s, vb2s_sl, vb2s_nil, vcInt, vnil_ptr, vo_mkMap, vo_lookup, vo_mapUpd, vo_del, vdel_some, vo_rangeMap, vo_entry, vfaddr_ptr, beq_self_eq_true, eq_self, decide_true, decide_false, vb_lss, vb_leq, vb_gtr, vb_geq, vb_eql, vb_neq, vb_seql, vb_sneq, vb_beql, vb_bneq, vun_not, vlen_str, vlen_sl, vlen_nil, vext_tup, HX.ev, List.length_cons, List.length_nil, List.append_nil, List.nil_append, List.cons_append, List.set_cons_succ, List.set_cons_zero, List.getElem?_cons_succ, List.getElem?_cons_zero, Option.getD_some, Option.map_some, Option.map_none, List.map_cons, List.map_nil, if_true, Bool.not_true, Bool.not_false, Bool.false_eq_true, if_false, l0, vo_lookup, hl, vadd1, vo_mapUpd, hu, l0', hl']
    exact ⟨rfl, _, rfl, by simp, by simpa using B', ⟨by omega, fun i hi => hsame i (by omega)⟩, hlen, CellsKept.of M hsame⟩

theorem drop14 (B : BookIs n hs hB m) (hn : n ≤ hs.length) (k : List UInt8) (hc : sum m < 4611686018427387904) :
    HC Try.prog 14 [.ptr hB 0, .str k] hs fun r hs' => r = .tup [.int .i64 ((cnt m k - 1 : Nat) : Int), .bool (decide (cnt m k ≠ 0))] ∧ BookIs n hs' hB (if cnt m k = 0 then m else if cnt m k = 1 then cutN m k else putN m k (cnt m k - 1)) ∧ Keeps n hs hs' ∧ hs'.length = hs.length ∧ CellsKept hs hs' := by
  obtain ⟨hm, l0, M, hmn, hmB⟩ := B.load
  have hcl := cnt_le m k
  have hl := M.lookup strKey (.int .i64 0) k
  rw [look_vals] at hl
  have box : ∀ hs' : HS, (∀ i, i ≠ hm → hs'[i]? = hs[i]?) → ∀ m', MapIs HV.str hs' hm (vals m') → BookIs n hs' hB m' := by
    intro hs' hsame m' M'
    obtain ⟨hm', b, _, h1, _, _⟩ := B
    refine ⟨hm, ?_, M', h1, hmn, hmB⟩
    rw [hsame hB (fun e => hmB e.symm), b]
    simp only [hload, b] at l0
    simp at l0
    rw [l0]
  refine HC.wp mixed Try.func14 c14 ?_
  obtain ⟨c, hcc⟩ : ∃ c, c = cnt m k := ⟨_, rfl⟩
  rw [← hcc] at hl hcl ⊢
  by_cases h0 : c = 0
  · have d0 : decide (((c : Nat) : Int) = 0) = true := by simp; exact h0
    simp -implicitDefEqProofs (disch := first | omega | decide) only [vwp_skip, vwp_ret, vwp_exit, vwp_lab, vwp_seq, vwp_cond, vwp_block, vwp_scope, vwp_region, vwp_draw, vwp_loop, vcnd_tt, vcnd_ff, vthen_normal, vthen_ret, vthen_exit, vblock_normal, vblock_ret, vblock_exit, vreg_nil, vreg_cons, vhl_nil, vhl_op, vhl_guard, vguard_tt, vguard_ff, vguard_tf, vguard_ft, vguard_no, vact_op, vop_some, vput_some, vput_none, vsame_sm, vunit_sm, vget_nil, vget_cons, vget_some,
    vo_mv, vo_bin, vo_un, vo_ext, vo_len, vo_idxS, vo_idxStr, vo_load, vo_pick, vo_append, vo_bslice, evp, vo_nilc, vo_faddr, vo_store, vo_sliceSl, vo_sliceStr, vo_cInt, vo_copy, vo_mkSlice, vo_box, vo_build, vo_b2s, vb2s_sl, vb2s_nil, vcInt, vnil_ptr, vo_mkMap, vo_lookup, vo_mapUpd, vo_del, vdel_some, vo_rangeMap, vo_entry, vfaddr_ptr, beq_self_eq_true, eq_self, decide_true, decide_false, vb_lss, vb_leq, vb_gtr, vb_geq, vb_eql, vb_neq, vb_seql, vb_sneq, vb_beql, vb_bneq, vun_not, vlen_str, vlen_sl, vlen_nil, vext_tup, HX.ev, List.length_cons, List.length_nil, List.append_nil, List.nil_append, List.cons_append, List.set_cons_succ, List.set_cons_zero, List.getElem?_cons_succ, List.getElem?_cons_zero, Option.getD_some, Option.map_some, Option.map_none, List.map_cons, List.map_nil, if_true, Bool.not_true, Bool.not_false, Bool.false_eq_true, if_false, h14, l0, vo_lookup, hl, d0, frame0, List.replicate, Nat.sub]
    exact ⟨rfl, _, rfl, by simp [h0], by rw [if_pos h0]; exact B, Keeps.refl hn, trivial, fun _ _ _ _ _ _ h => h⟩
  · have d0 : decide (((c : Nat) : Int) = 0) = false := by simp; exact h0
    by_cases h1 : c = 1
    · have d1 : decide (((c : Nat) : Int) = 1) = true := by simp; omega
      obtain ⟨hs', hu, M', hlen, hsame⟩ := M.delete strKey k
      rw [cut_vals] at M'
      simp -implicitDefEqProofs (disch := first | omega | decide) only [vwp_skip, vwp_ret, vwp_exit, vwp_lab, vwp_seq, vwp_cond, vwp_block, vwp_scope, vwp_region, vwp_draw, vwp_loop, vcnd_tt, vcnd_ff, vthen_normal, vthen_ret, vthen_exit, vblock_normal, vblock_ret, vblock_exit, vreg_nil, vreg_cons, vhl_nil, vhl_op, vhl_guard, vguard_tt, vguard_ff, vguard_tf, vguard_ft, vguard_no, vact_op, vop_some, vput_some, vput_none, vsame_sm, vunit_sm, vget_nil, vget_cons, vget_some,
    vo_mv, vo_bin, vo_un, vo_ext, vo_len, vo_idxS, vo_idxStr, vo_load, vo_pick, vo_append, vo_bslice, evp, vo_nilc, vo_faddr, vo_store, vo_sliceSl, vo_sliceStr, vo_cInt, vo_copy, vo_mkSlice, vo_box, vo_build, vo_b2s, vb2s_sl, vb2s_nil, vcInt, vnil_ptr, vo_mkMap, vo_lookup, vo_mapUpd, vo_del, vdel_some, vo_rangeMap, vo_entry, vfaddr_ptr, beq_self_eq_true, eq_self, decide_true, decide_false, vb_lss, vb_leq, vb_gtr, vb_geq, vb_eql, vb_neq, vb_seql, vb_sneq, vb_beql, vb_bneq, vun_not, vlen_str, vlen_sl, vlen_nil, vext_tup, HX.ev, List.length_cons, List.length_nil, List.append_nil, List.nil_append, List.cons_append, List.set_cons_succ, List.set_cons_zero, List.getElem?_cons_succ, List.getElem?_cons_zero, Option.getD_some, Option.map_some, Option.map_none, List.map_cons, List.map_nil, if_true, Bool.not_true, Bool.not_false, Bool.false_eq_true, if_false, h14, l0, vo_lookup, hl, d0, d1, vo_del, hu, vsub1, frame0, List.replicate, Nat.sub]
      exact ⟨rfl, _, rfl, by simp [h0], by rw [if_neg h0, if_pos h1]; exact box hs' hsame _ M', ⟨by omega, fun i hi => hsame i (by omega)⟩, hlen, CellsKept.of M hsame⟩
    · have d1 : decide (((c : Nat) : Int) = 1) = false := by simp; omega
      obtain ⟨hs', hu, M', hlen, hsame⟩ := M.update strKey k (.int .i64 ((c - 1 : Nat) : Int))
      rw [put_vals] at M'
      simp -implicitDefEqProofs (disch := first | omega | decide) only [vwp_skip, vwp_ret, vwp_exit, vwp_lab, vwp_seq, vwp_cond, vwp_block, vwp_scope, vwp_region, vwp_draw, vwp_loop, vcnd_tt, vcnd_ff, vthen_normal, vthen_ret, vthen_exit, vblock_normal, vblock_ret, vblock_exit, vreg_nil, vreg_cons, vhl_nil, vhl_op, vhl_guard, vguard_tt, vguard_ff, vguard_tf, vguard_ft, vguard_no, vact_op, vop_some, vput_some, vput_none, vsame_sm, vunit_sm, vget_nil, vget_cons, vget_some,
    vo_mv, vo_bin, vo_un, vo_ext, vo_len, vo_idxS, vo_idxStr, vo_load, vo_pick, vo_append, vo_bslice, evp, vo_nilc, vo_faddr, vo_store, vo_sliceSl, vo_sliceStr, vo_cInt, vo_copy, vo_mkSlice, vo_box, vo_build, vo_b2s, vb2s_sl, vb2s_nil, vcInt, vnil_ptr, vo_mkMap, vo_lookup, vo_mapUpd, vo_del, vdel_some, vo_rangeMap, vo_entry, vfaddr_ptr, beq_self_eq_true, eq_self, decide_true, decide_false, vb_lss, vb_leq, vb_gtr, vb_geq, vb_eql, vb_neq, vb_seql, vb_sneq, vb_beql, vb_bneq, vun_not, vlen_str, vlen_sl, vlen_nil, vext_tup, HX.ev, List.length_cons, List.length_nil, List.append_nil, List.nil_append, List.cons_append, List.set_cons_succ, List.set_cons_zero, List.getElem?_cons_succ, List.getElem?_cons_zero, Option.getD_some, Option.map_some, Option.map_none, List.map_cons, List.map_nil, if_true, Bool.not_true, Bool.not_false, Bool.false_eq_true, if_false, h14, l0, vo_lookup, hl, d0, d1, vo_mapUpd, vsub1, hu, frame0, List.replicate, Nat.sub]
      exact ⟨rfl, _, rfl, by simp [h0], by rw [if_neg h0, if_neg h1]; exact box hs' hsame _ M', ⟨by omega, fun i hi => hsame i (by omega)⟩, hlen, CellsKept.of M hsame⟩
end B
end Go.Proofs.Ytalcaflkfpiehaa
