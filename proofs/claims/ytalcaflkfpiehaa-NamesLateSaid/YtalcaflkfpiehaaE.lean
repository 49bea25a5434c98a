/-
  Proved: the law NamesSums (stintlaw05) returns true at every script.
-/
import Derived.Test.YtalcaflkfpiehaaRows
import Derived.Test.YtalcaflkfpiehaaD
import Derived.Test.YtalcaflkfpiehaaHLArg
import Derived.HandedShaped
import Derived.SizedLaws
import Derived.Deep.Slices
namespace Go.Proofs.Ytalcaflkfpiehaa
open Go Go.HL Go.ChangeShapes Go.WideShapes Go.ChangeAt Go.ChangeMaps Go.RowKit V
namespace B
set_option maxRecDepth 100000
set_option linter.unusedSimpArgs false
theorem own : ownKnob Try.prog.godebug = none := by kernel_rfl
theorem laidOut : laidOutB Try.prog = true := by kernel_rfl

/-- a step of a script, as it stands in memory. -/
def opVals (o : Op) : List Value := [.bool o.second, .int .i64 o.kind, .string ⟨o.name.toArray⟩, .int .i64 o.k]
theorem op_of {H : Type} {enc : TypeId × Value → H} {w : World} {base : Nat} {sp : Nat → Bool} {held : Bool} {n : Nat} {cs : List Value} {x : DataW H × List MemPlace} (h : DataW.trod enc Try.prog w base sp held n 28 cs = some x) : ∃ o : Op, cs = opVals o := by
  obtain ⟨xs, n', rfl, rfl, hl, hxl, hf⟩ := DataW.trod_struct Try.underlying28 h
  have c28 : Try.prog.cellsOf 28 = 4 := by kernel_rfl
  have c4 : Try.prog.cellsOf 4 = 1 := by kernel_rfl
  have c3 : Try.prog.cellsOf 3 = 1 := by kernel_rfl
  have c9 : Try.prog.cellsOf 9 = 1 := by kernel_rfl
  rw [c28] at hl
  obtain ⟨a, b, c, d, rfl⟩ : ∃ a b c d, cs = [a, b, c, d] := by
    match cs, hl with
    | [a, b, c, d], _ => exact ⟨a, b, c, d, rfl⟩
  have hxs : ∀ i, i < 4 → ∃ y, xs[i]? = some y := fun i hi => ⟨_, List.getElem?_eq_getElem (by rw [hxl]; exact hi)⟩
  obtain ⟨y0, h0⟩ := hxs 0 (by omega)
  obtain ⟨y1, h1⟩ := hxs 1 (by omega)
  obtain ⟨y2, h2⟩ := hxs 2 (by omega)
  obtain ⟨y3, h3⟩ := hxs 3 (by omega)
  have f0 : DataW.trod enc Try.prog w base sp held n' 4 (([a, b, c, d].drop 0).take (Try.prog.cellsOf 4)) = xs[0]? := hf 0 _ rfl
  have f1 : DataW.trod enc Try.prog w base sp held n' 3 (([a, b, c, d].drop 1).take (Try.prog.cellsOf 3)) = xs[1]? := hf 1 _ rfl
  have f2 : DataW.trod enc Try.prog w base sp held n' 9 (([a, b, c, d].drop 2).take (Try.prog.cellsOf 9)) = xs[2]? := hf 2 _ rfl
  have f3 : DataW.trod enc Try.prog w base sp held n' 3 (([a, b, c, d].drop 3).take (Try.prog.cellsOf 3)) = xs[3]? := hf 3 _ rfl
  rw [h0, c4] at f0
  rw [h1, c3] at f1
  rw [h2, c9] at f2
  rw [h3, c3] at f3
  simp only [List.drop_zero, List.drop_succ_cons, List.take_succ_cons, List.take_zero] at f0 f1 f2 f3
  obtain ⟨b0, e0, _⟩ := DataW.trod_bool Try.underlying4 f0
  obtain ⟨b1, e1, _⟩ := DataW.trod_int Try.underlying3 f1
  obtain ⟨b2, e2, _⟩ := DataW.trod_string Try.underlying9 f2
  obtain ⟨b3, e3, _⟩ := DataW.trod_int Try.underlying3 f3
  simp at e0 e1 e2 e3
  subst e0 e1 e2 e3
  exact ⟨⟨b0, b1, b2.data.toList, b3⟩, rfl⟩
theorem op_rel (β : List Ent) (o : Op) : RelL β o.cells (opVals o) := by
  simp only [Op.cells, opVals, RelL, Rel]
  exact ⟨_, _, rfl, rfl, _, _, rfl, rfl, _, _, rfl, rfl, _, _, rfl, rfl, rfl⟩

theorem sums_lifted (os : Os) (started : os.Started) (H : Type) (enc : TypeId × Value → H) :
    ReturnsInHanded {} Try.checked os 5 .any (Rows.namesSumsSpec.pre6 enc Try.prog Try.f5 Rows.namesSumsRow.domain false) (Rows.namesSumsSpec.post enc Try.prog Try.f5 false true false false) := by
  refine returnsInHanded_of_change_shaped (C := Try.checked) own started (by kernel_rfl) Try.func5
    (ChangeSpec.witness6 (enc := enc) (C := Try.checked) false ⟨#[], #[.slice none 0 0], []⟩ 8 (by kernel_rfl) (by kernel_rfl) (by kernel_rfl) (by kernel_rfl)) ?_
  intro M base args ds gs before hval0 hW _ hsz0 _ _
  have hval : ∀ (j : Nat) t v, Try.f5.params[j]? = some t → args[j]? = some v → Value.okWide Try.prog M .any base t v := hval0
  have hsz : (DataW.weightsEach Try.prog (Try.f5.params.toList ++ Rows.namesSumsSpec.plain.varTypes Try.prog) (ds ++ gs)).all (· ≤ reachBytes) = true := hsz0
  have hW' := hW
  obtain ⟨p, q, hA0, hV, rfl, hfz, hnd⟩ := hW
  have hA : DataW.TrodAll enc Try.prog M 0 (fun _ => true) true Try.f5.params.toList args.toList ds p := hA0
  rw [Try.params5] at hA hval hsz
  obtain ⟨v0, d0, rfl, rfl, h0⟩ := trodAll_one hA
  obtain ⟨rfl, rfl⟩ := trodVars_none hV
  obtain ⟨fuel, hf⟩ := h0
  have fin : ∀ (hs : HS) (v : HV) (ops : List Op) (β : List Ent), Emb β hs M → AllRo hs → RelL β [v] [v0] → OpsAt hs v ops → ops.length < 4398046511104 →
      Calls Try.prog 5 #[v0] M fun e M' => ∃ v, e = .returned v ∧ Rows.namesSumsSpec.post enc Try.prog Try.f5 false true false false M #[v0] v M' := by
    intro hs v ops β E hro hR hO hl
    refine (HC.below E hR hro (law5 hs v ops hO hl)).mono fun e M' ⟨he, hb⟩ => ?_
    subst he
    exact ⟨_, rfl, law_post (s := Rows.namesSumsSpec) (tb := 4) laidOut rfl Try.underlying4 (by kernel_rfl) (by kernel_rfl) hW' rfl hb⟩
  have E0 : Emb [] [] M := emb_nil M
  have hro0 : AllRo [] := fun i b h => by simp at h
  have shape : ∀ a l c, [Value.slice a l c] = v0.cells.toList → v0 = .slice a l c := by
    intro a l c h
    obtain ⟨a', l', c', rfl⟩ := okWide_slice Try.underlying24 (hval 0 24 v0 rfl rfl)
    simp [Value.cells] at h
    obtain ⟨rfl, rfl, rfl⟩ := h
    rfl
  rcases Go.Deep.open_slice Try.underlying24 hf with ⟨hcs, hx0⟩ | ⟨a, len, cap, m, n, D, Pl, hcs, _, hle, hmax, hm, hx0, hel⟩
  · have hv0 := shape _ _ _ hcs.symm
    subst hv0
    refine fin [] .nilSlice [] [] E0 hro0 ?_ (.inl ⟨rfl, .inl rfl⟩) (by decide)
    simp only [RelL, Rel]
    exact ⟨_, _, rfl, rfl, rfl⟩
  · have hv0 := shape _ _ _ hcs.symm
    subst hv0
    rw [if_pos rfl] at hm
    subst hm
    obtain ⟨hd0, _⟩ := Prod.mk.inj hx0
    have hb48 : Try.prog.bytesOf 28 = 40 := by kernel_rfl
    have hw := sized_slice hsz (j := 0) rfl (by rw [hd0]; rfl) Try.underlying24
    rw [hb48] at hw
    simp only [List.length_map, List.length_range] at hw
    have hlen : len < 4398046511104 := by
      have : reachBytes = 140737488351232 := rfl
      omega
    rcases Nat.eq_zero_or_pos m with hc0 | hc0
    · have hl0 : len = 0 := by omega
      subst hc0 hl0
      refine fin [none] (.slice 0 0 0 (some 0)) [] _ (E0.hole hro0 ⟨0, 0, 0, 0⟩) hro0.hole ?_ (.inl ⟨rfl, .inr ⟨_, _, _, rfl⟩⟩) (by decide)
      simp only [RelL, Rel]
      exact ⟨_, _, rfl, ⟨⟨0, 0, 0, 0⟩, a, 0, rfl, rfl, Nat.le_refl _, rfl, fun h => absurd h (by omega)⟩, rfl⟩
    · have c28 : Try.prog.cellsOf 28 = 4 := by kernel_rfl
      rw [c28] at hel
      have each : ∀ i, ∃ o : Op, i < m → ∀ (j : Nat) u, (opVals o)[j]? = some u → M.cell? (a.add (i * 4 + j)) = some u := by
        intro i
        by_cases hi : i < m
        · obtain ⟨cs', e1, e2⟩ := hel i hi
          obtain ⟨o, rfl⟩ := op_of e2
          refine ⟨o, fun _ j u hu => ?_⟩
          obtain ⟨_, e3, e4⟩ := World.cells?_some e1
          have hj := lt_of_get hu
          rw [← add_add, e4 j (by rw [← e3]; exact hj)]
          exact hu
        · exact ⟨⟨false, 0, [], 0⟩, fun h => absurd h hi⟩
      obtain ⟨O, hO⟩ : ∃ O : Nat → Op, ∀ i, i < m → ∀ (j : Nat) u, (opVals (O i))[j]? = some u → M.cell? (a.add (i * 4 + j)) = some u := ⟨fun i => Classical.choose (each i), fun i => Classical.choose_spec (each i)⟩
      obtain ⟨e, E4, R4⟩ := emb_rows (s := 4) E0 hro0 (by omega) hle hc0 (C := fun i => opVals (O i)) (fun _ _ => rfl) hO (X := fun i => (O i).cells) (fun i _ => op_rel _ _) (fun i _ x hx => by
        simp only [Op.cells, List.mem_cons, List.not_mem_nil, or_false] at hx
        rcases hx with rfl | rfl | rfl | rfl <;> rfl)
      refine fin _ (.slice 0 0 len (some m)) ((List.range len).map O) _ E4 (hro0.snoc rfl) ?_ (.inr ⟨0, some m, true, false, [], by simp, ?_⟩) (by simpa using hlen)
      · simp only [RelL]
        exact ⟨_, _, rfl, R4, rfl⟩
      · simp [List.flatMap_map]

theorem namesSums_holds : Rows.NamesSumsSaid :=
  OpenClaim.holds_of_wide 5 Try.f5 rfl rfl rfl rfl rfl rfl rfl ⟨rfl, rfl, rfl, rfl, rfl⟩ rfl rfl rfl rfl rfl (by kernel_rfl) Try.func5 (by kernel_rfl)
    (of_decide_eq_true (by kernel_rfl)) (by unfold Func.isWrapper; first | (rw [if_pos (by decide +kernel)]; kernel_rfl) | (rw [if_neg (by decide +kernel)]; exact ⟨rfl, rfl⟩))
    (fun os started H enc _ => sums_lifted os started H enc)
#print axioms namesSums_holds
end B
end Go.Proofs.Ytalcaflkfpiehaa
