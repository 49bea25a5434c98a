/-
  Proved: the law NamesLate (stintlaw05) returns true at every two scripts.
-/
import Derived.Test.YtalcaflkfpiehaaRows
import Derived.Test.YtalcaflkfpiehaaE
import Derived.Test.YtalcaflkfpiehaaX
namespace Go.Proofs.Ytalcaflkfpiehaa
open Go Go.HL Go.ChangeShapes Go.WideShapes Go.ChangeAt Go.ChangeMaps Go.RowKit V
namespace R
open B (OpsAt opVals op_of op_rel own laidOut)
set_option maxRecDepth 100000
set_option linter.unusedSimpArgs false
theorem ops_more {hs g : HS} {v : HV} {ops : List B.Op} (h : OpsAt hs v ops) : OpsAt (hs ++ g) v ops := by
  rcases h with h | ⟨h, cap, ro, opn, olds, rfl, hb⟩
  · exact .inl h
  · exact .inr ⟨h, cap, ro, opn, olds, rfl, by rw [List.getElem?_append_left (lt_of_get hb)]; exact hb⟩

/-- a script that was handed in. -/
theorem ops_arg {H : Type} {enc : TypeId × Value → H} {M : World} {base : Nat} {v0 : Value} {d0 : DataW H} {p : List MemPlace} (h0 : DataW.Trod enc Try.prog M 0 (fun _ => true) true 24 v0 d0 p) (hval : Value.okWide Try.prog M .any base 24 v0)
    (hw : ∀ elems spare, d0 = .slice elems spare → (elems.length + spare.length) * 40 ≤ reachBytes) {β : List Ent} {hs : HS} (E : Emb β hs M) (hro : AllRo hs) :
    ∃ β' hs' v ops, Ext β β' ∧ (∃ g, hs' = hs ++ g) ∧ Emb β' hs' M ∧ AllRo hs' ∧ Rel β' v v0 ∧ OpsAt hs' v ops ∧ ops.length < 4398046511104 := by
  obtain ⟨fuel, hf⟩ := h0
  have shape : ∀ a l c, [Value.slice a l c] = v0.cells.toList → v0 = .slice a l c := by
    intro a l c h
    obtain ⟨a', l', c', rfl⟩ := okWide_slice Try.underlying24 hval
    simp [Value.cells] at h
    obtain ⟨rfl, rfl, rfl⟩ := h
    rfl
  rcases Go.Deep.open_slice Try.underlying24 hf with ⟨hcs, hx0⟩ | ⟨a, len, cap, m, n, D, Pl, hcs, _, hle, hmax, hm, hx0, hel⟩
  · have hv0 := shape _ _ _ hcs.symm
    subst hv0
    refine ⟨β, hs, .nilSlice, [], Ext.refl _, ⟨[], by simp⟩, E, hro, ?_, .inl ⟨rfl, .inl rfl⟩, by decide⟩
    simp only [Rel]
  · have hv0 := shape _ _ _ hcs.symm
    subst hv0
    rw [if_pos rfl] at hm
    subst hm
    obtain ⟨hd0, _⟩ := Prod.mk.inj hx0
    have hw := hw _ _ hd0
    simp only [List.length_map, List.length_range] at hw
    have hlen : len < 4398046511104 := by
      have : reachBytes = 140737488351232 := rfl
      omega
    rcases Nat.eq_zero_or_pos m with hc0 | hc0
    · have hl0 : len = 0 := by omega
      subst hc0 hl0
      refine ⟨_, hs ++ [none], .slice hs.length 0 0 (some 0), [], Ext.snoc _ _, ⟨_, rfl⟩, E.hole hro ⟨0, 0, 0, 0⟩, hro.hole, ?_, .inl ⟨rfl, .inr ⟨_, _, _, rfl⟩⟩, by decide⟩
      simp only [Rel]
      exact ⟨⟨0, 0, 0, 0⟩, a, 0, by rw [← E.len]; simp, rfl, Nat.le_refl _, rfl, fun h => absurd h (by omega)⟩
    · have c28 : Try.prog.cellsOf 28 = 4 := by kernel_rfl
      rw [c28] at hel
      have each : ∀ i, ∃ o : B.Op, i < m → ∀ (j : Nat) u, (opVals o)[j]? = some u → M.cell? (a.add (i * 4 + j)) = some u := by
        intro i
        by_cases hi : i < m
        · obtain ⟨cs', e1, e2⟩ := hel i hi
          obtain ⟨o, rfl⟩ := op_of e2
          refine ⟨o, fun _ j u hu => ?_⟩
          obtain ⟨_, e3, e4⟩ := World.cells?_some e1
          have hj := lt_of_get hu
          rw [← add_add, e4 j (by rw [← e3]; exact hj)]
          exact hu
        · exact ⟨⟨false, 0, [], 0⟩, fun h => absurd h hi⟩
      obtain ⟨O, hO⟩ : ∃ O : Nat → B.Op, ∀ i, i < m → ∀ (j : Nat) u, (opVals (O i))[j]? = some u → M.cell? (a.add (i * 4 + j)) = some u := ⟨fun i => Classical.choose (each i), fun i => Classical.choose_spec (each i)⟩
      obtain ⟨e, E4, R4⟩ := emb_rows (s := 4) E hro (by omega) hle hc0 (C := fun i => opVals (O i)) (fun _ _ => rfl) hO (X := fun i => (O i).cells) (fun i _ => op_rel _ _) (fun i _ x hx => by
        simp only [B.Op.cells, List.mem_cons, List.not_mem_nil, or_false] at hx
        rcases hx with rfl | rfl | rfl | rfl <;> rfl)
      refine ⟨_, _, .slice hs.length 0 len (some m), (List.range len).map O, Ext.snoc _ _, ⟨_, rfl⟩, E4, hro.snoc rfl, R4, .inr ⟨hs.length, some m, true, false, [], by simp, ?_⟩, by simpa using hlen⟩
      simp [List.flatMap_map]

theorem late_lifted (os : Os) (started : os.Started) (H : Type) (enc : TypeId × Value → H) :
    ReturnsInHanded {} Try.checked os 7 .any (Rows.namesLateSpec.pre6 enc Try.prog Try.f7 Rows.namesLateRow.domain false) (Rows.namesLateSpec.post enc Try.prog Try.f7 false true false false) := by
  refine returnsInHanded_of_change_shaped (C := Try.checked) own started (by kernel_rfl) Try.func7
    (ChangeSpec.witness6 (enc := enc) (C := Try.checked) false ⟨#[], #[.slice none 0 0, .slice none 0 0], []⟩ 8 (by kernel_rfl) (by kernel_rfl) (by kernel_rfl) (by kernel_rfl)) ?_
  intro M base args ds gs before hval0 hW _ hsz0 _ _
  have hval : ∀ (j : Nat) t v, Try.f7.params[j]? = some t → args[j]? = some v → Value.okWide Try.prog M .any base t v := hval0
  have hsz : (DataW.weightsEach Try.prog (Try.f7.params.toList ++ Rows.namesLateSpec.plain.varTypes Try.prog) (ds ++ gs)).all (· ≤ reachBytes) = true := hsz0
  have hW' := hW
  obtain ⟨p, q, hA0, hV, rfl, hfz, hnd⟩ := hW
  have hA : DataW.TrodAll enc Try.prog M 0 (fun _ => true) true Try.f7.params.toList args.toList ds p := hA0
  rw [Try.params7] at hA hval hsz
  obtain ⟨v0, v1, d0, d1, p0, p1, rfl, rfl, rfl, h0, h1⟩ := trodAll_two hA
  obtain ⟨rfl, rfl⟩ := trodVars_none hV
  have hb48 : Try.prog.bytesOf 28 = 40 := by kernel_rfl
  obtain ⟨β1, hs1, x0, o0, _, _, E1, hro1, r0, hO0, hl0⟩ := ops_arg h0 (hval 0 24 v0 rfl rfl) (fun el sp hd => by
    have := sized_slice hsz (j := 0) rfl (by rw [hd]; rfl) Try.underlying24
    rw [hb48] at this; exact this) (emb_nil M) (fun i b h => by simp at h)
  obtain ⟨β2, hs2, x1, o1, ext, ⟨g, hg⟩, E2, hro2, r1, hO1, hl1⟩ := ops_arg h1 (hval 1 24 v1 rfl rfl) (fun el sp hd => by
    have := sized_slice hsz (j := 1) rfl (by rw [hd]; rfl) Try.underlying24
    rw [hb48] at this; exact this) E1 hro1
  have hR : RelL β2 [x0, x1] [v0, v1] := by
    simp only [RelL]
    exact ⟨_, _, rfl, r0.mono ext _ _, _, _, rfl, r1, rfl⟩
  have hO0' : OpsAt hs2 x0 o0 := by rw [hg]; exact ops_more hO0
  refine (HC.below E2 hR hro2 (law7 hs2 x0 x1 o0 o1 hO0' hO1 hl0 hl1)).mono fun e M' ⟨he, hb⟩ => ?_
  subst he
  exact ⟨_, rfl, law_post (s := Rows.namesLateSpec) (tb := 4) laidOut rfl Try.underlying4 (by kernel_rfl) (by kernel_rfl) hW' rfl hb⟩

theorem namesLate_holds : Rows.NamesLateSaid :=
  OpenClaim.holds_of_wide 7 Try.f7 rfl rfl rfl rfl rfl rfl rfl ⟨rfl, rfl, rfl, rfl, rfl⟩ rfl rfl rfl rfl rfl (by kernel_rfl) Try.func7 (by kernel_rfl)
    (of_decide_eq_true (by kernel_rfl)) (by unfold Func.isWrapper; first | (rw [if_pos (by decide +kernel)]; kernel_rfl) | (rw [if_neg (by decide +kernel)]; exact ⟨rfl, rfl⟩))
    (fun os started H enc _ => late_lifted os started H enc)
#print axioms namesLate_holds
end R
end Go.Proofs.Ytalcaflkfpiehaa
