/-
  stintlaw06: scripts, as they are handed in.
-/
import Derived.Test.YtccfcegmaejlnaaRows
import Derived.Test.YtccfcegmaejlnaaL
import Derived.Test.YtccfcegmaejlnaaHLHand
import Derived.Test.YtccfcegmaejlnaaHLRow
import Derived.HandedShaped
import Derived.SizedLaws
import Derived.Deep.Slices
namespace Go.Proofs.Ytccfcegmaejlnaa
open Go Go.HL Go.ChangeShapes Go.WideShapes Go.ChangeAt Go.RowKit Go.Shelf
set_option maxRecDepth 100000
set_option linter.unusedSimpArgs false

theorem own : ownKnob Try.prog.godebug = none := by kernel_rfl
theorem laidOut : laidOutB Try.prog = true := by kernel_rfl
/-- an act, as it was handed in. -/
theorem act_of {H : Type} {enc : TypeId × Value → H} {M : World} {fuel : Nat} {cs : List Value} {x : DataW H × List MemPlace} (h : DataW.trod enc Try.prog M 0 (fun _ => true) true fuel 36 cs = some x) (hw : ∀ n ∈ x.1.weights Try.prog 36, n ≤ reachBytes)
    {β : List Ent} {hs : HS} (E : Emb β hs M) (hro : AllRo hs) (hz : 0 < hs.length) :
    ∃ β' hs' a, Ext β β' ∧ (∃ g, hs' = hs ++ g) ∧ Emb β' hs' M ∧ AllRo hs' ∧ RelL β' (ActV.cells a) cs ∧ Rd hs' 1 a.v a.data.length (bcells a.data) ∧ a.data.length ≤ 140737488351232 := by
  obtain ⟨xs, n', rfl, rfl, hl, hxl, hf⟩ := DataW.trod_struct Try.underlying36 h
  have c36 : Try.prog.cellsOf 36 = 4 := by kernel_rfl
  have c3 : Try.prog.cellsOf 3 = 1 := by kernel_rfl
  have c30 : Try.prog.cellsOf 30 = 1 := by kernel_rfl
  have c5 : Try.prog.cellsOf 5 = 1 := by kernel_rfl
  rw [c36] at hl
  obtain ⟨a, b, c, d, rfl⟩ : ∃ a b c d, cs = [a, b, c, d] := by
    match cs, hl with
    | [a, b, c, d], _ => exact ⟨a, b, c, d, rfl⟩
  obtain ⟨y0, y1, y2, y3, rfl⟩ : ∃ a b c d, xs = [a, b, c, d] := by
    match xs, hxl with
    | [a, b, c, d], _ => exact ⟨a, b, c, d, rfl⟩
  have f0 : DataW.trod enc Try.prog M 0 (fun _ => true) true n' 3 (([a, b, c, d].drop 0).take (Try.prog.cellsOf 3)) = some y0 := hf 0 _ rfl
  have f1 : DataW.trod enc Try.prog M 0 (fun _ => true) true n' 3 (([a, b, c, d].drop 1).take (Try.prog.cellsOf 3)) = some y1 := hf 1 _ rfl
  have f2 : DataW.trod enc Try.prog M 0 (fun _ => true) true n' 3 (([a, b, c, d].drop 2).take (Try.prog.cellsOf 3)) = some y2 := hf 2 _ rfl
  have f3 : DataW.trod enc Try.prog M 0 (fun _ => true) true n' 30 (([a, b, c, d].drop 3).take (Try.prog.cellsOf 30)) = some y3 := hf 3 _ rfl
  rw [c3] at f0 f1 f2
  rw [c30] at f3
  simp only [List.drop_zero, List.drop_succ_cons, List.take_succ_cons, List.take_zero] at f0 f1 f2 f3
  obtain ⟨k, e0, _⟩ := arg_int Try.underlying3 f0
  obtain ⟨id, e1, _⟩ := arg_int Try.underlying3 f1
  obtain ⟨num, e2, _⟩ := arg_int Try.underlying3 f2
  simp at e0 e1 e2
  subst e0 e1 e2
  obtain ⟨β', hs', v, bb, x1, x2, x3, x4, x5, x6, x8⟩ := arg_bytesR Try.underlying30 Try.underlying5 c5 f3 E hro hz
  have bl : bb.length ≤ 140737488351232 := by
    rcases x8 with rfl | ⟨el, sp, e4, e5⟩
    · simp
    · have := hw ((el.length + sp.length) * Try.prog.bytesOf 5) (by
        simp only [DataW.weights, Try.underlying36, List.map_cons, List.map_nil]
        refine DataW.weights_mem_each (j := 3) (t := 30) (d := y3.1) (by kernel_rfl) rfl _ ?_
        rw [e4]; simp [DataW.weights, Try.underlying30])
      have b5 : Try.prog.bytesOf 5 = 1 := by kernel_rfl
      rw [b5] at this
      have hr : reachBytes = 140737488351232 := rfl
      omega
  refine ⟨β', hs', ⟨k, id, num, v, bb⟩, x1, x2, x3, x4, ?_, x6, bl⟩
  simp only [ActV.cells, RelL] at x5 ⊢
  obtain ⟨u, us, h1, h2, rfl⟩ := x5
  simp at h1; subst h1
  exact ⟨_, _, rfl, rfl, _, _, rfl, rfl, _, _, rfl, rfl, _, _, rfl, h2, rfl⟩
/-- a script, as it was handed in. -/
theorem acts_of {H : Type} {enc : TypeId × Value → H} {M : World} {fuel : Nat} {v0 : Value} {x : DataW H × List MemPlace} (h : DataW.trod enc Try.prog M 0 (fun _ => true) true fuel 22 v0.cells.toList = some x) (hv : ∃ a l c, v0 = .slice a l c) (hw : ∀ n ∈ x.1.weights Try.prog 22, n ≤ reachBytes)
    {β : List Ent} {hs : HS} (E : Emb β hs M) (hro : AllRo hs) (hz : 0 < hs.length) :
    ∃ β' hs' v A, Ext β β' ∧ (∃ g, hs' = hs ++ g) ∧ Emb β' hs' M ∧ AllRo hs' ∧ Rel β' v v0 ∧ ArgsAt hs' v A := by
  have shape : ∀ a l c, [Value.slice a l c] = v0.cells.toList → v0 = .slice a l c := by
    intro a l c h
    obtain ⟨a', l', c', rfl⟩ := hv
    simp [Value.cells] at h
    obtain ⟨rfl, rfl, rfl⟩ := h
    rfl
  rcases Go.Deep.open_slice Try.underlying22 h with ⟨hcs, hx0⟩ | ⟨a, len, cap, m, n, D, Pl, hcs, _, hle, hmax, hm, hx0, hel⟩
  · have hv0 := shape _ _ _ hcs.symm
    subst hv0
    exact ⟨β, hs, .nilSlice, [], Ext.refl _, ⟨[], by simp⟩, E, hro, rfl, ⟨Rd.nil, by simp, by simp, by simp⟩⟩
  · have hv0 := shape _ _ _ hcs.symm
    subst hv0
    rw [if_pos rfl] at hm
    subst hm
    obtain ⟨hd0, _⟩ := Prod.mk.inj hx0
    rw [hd0] at hw
    have hr : reachBytes = 140737488351232 := rfl
    have hb36 : Try.prog.bytesOf 36 = 48 := by kernel_rfl
    have hlen : len < 4398046511104 := by
      have := hw _ (by simp only [DataW.weights, Try.underlying22]; exact List.mem_cons_self)
      rw [hb36] at this
      simp only [List.length_map, List.length_range] at this
      omega
    have hwe : ∀ i, i < len → ∀ n ∈ (D i).weights Try.prog 36, n ≤ reachBytes := fun i hi n hn => hw n (by
      simp only [DataW.weights, Try.underlying22]
      exact List.mem_cons_of_mem _ (List.mem_append_left _ (weights_mem_all (i := i) (d := D i) (by simp [hi]) n hn)))
    rcases Nat.eq_zero_or_pos m with hc0 | hc0
    · have hl0 : len = 0 := by omega
      subst hc0 hl0
      have hzb : 0 < β.length := by rw [E.len]; exact hz
      refine ⟨β, hs, .slice 0 0 0 (some 0), [], Ext.refl _, ⟨[], by simp⟩, E, hro, ?_, ⟨⟨by simp, .inr (.inl ⟨0, 0, rfl, rfl⟩)⟩, by simp, by simp, by simp⟩⟩
      exact ⟨β[0], a, 0, List.getElem?_eq_getElem hzb, rfl, Nat.le_refl _, ⟨rfl, Nat.zero_le _⟩, fun h => absurd h (by omega)⟩
    · have c36 : Try.prog.cellsOf 36 = 4 := by kernel_rfl
      rw [c36] at hel
      have each : ∀ i, ∃ cs : List Value, cs.length = 4 ∧ (i < m → (∀ (j : Nat) u, cs[j]? = some u → M.cell? (a.add (i * 4 + j)) = some u) ∧ DataW.trod enc Try.prog M 0 (fun _ => true) true n 36 cs = some (D i, Pl i)) := by
        intro i
        by_cases hi : i < m
        · obtain ⟨cs', e1, e2⟩ := hel i hi
          obtain ⟨_, e3, e4⟩ := World.cells?_some e1
          refine ⟨cs', e3, fun _ => ⟨fun j u hu => ?_, e2⟩⟩
          have hj := lt_of_get hu
          rw [← add_add, e4 j (by rw [← e3]; exact hj)]
          exact hu
        · exact ⟨[.bool true, .bool true, .bool true, .bool true], rfl, fun h => absurd h hi⟩
      obtain ⟨C, hC⟩ : ∃ C : Nat → List Value, ∀ i, (C i).length = 4 ∧ (i < m → (∀ (j : Nat) u, (C i)[j]? = some u → M.cell? (a.add (i * 4 + j)) = some u) ∧ DataW.trod enc Try.prog M 0 (fun _ => true) true n 36 (C i) = some (D i, Pl i)) := ⟨fun i => Classical.choose (each i), fun i => Classical.choose_spec (each i)⟩
      obtain ⟨β1, hs1, A, hA, x1, ⟨g1, x2⟩, x3, x4, x5⟩ := emb_each (M := M) (Good := fun β hs i (o : ActV) => RelL β o.cells (C i) ∧ Rd hs 1 o.v o.data.length (bcells o.data) ∧ o.data.length ≤ 140737488351232)
        (fun β β' hs g i o h e => ⟨h.1.mono e _ _, h.2.1.more, h.2.2⟩) len (fun i hi β hs E hro hz => by
          obtain ⟨β', hs', o, q1, q2, q3, q4, q5, q6, q7⟩ := act_of ((hC i).2 (by omega)).2 (hwe i hi) E hro hz
          exact ⟨β', hs', o, q1, q2, q3, q4, q5, q6, q7⟩) E hro hz
      obtain ⟨X, hX⟩ : ∃ X : Nat → List HV, X = fun i => match A[i]? with
        | some o => o.cells
        | none => [] := ⟨_, rfl⟩
      have hXi : ∀ i, i < len → ∃ o, A[i]? = some o ∧ X i = o.cells := fun i hi => ⟨A[i], List.getElem?_eq_getElem (by omega), by rw [hX]; simp only [List.getElem?_eq_getElem (show i < A.length by omega)]⟩
      obtain ⟨e, E4, R4⟩ := emb_rows (s := 4) x3 x4 (by omega) hle hc0 (C := C) (fun i hi => (hC i).1) (fun i hi => ((hC i).2 hi).1) (X := X) (fun i hi => by
        obtain ⟨o, h1, h2⟩ := hXi i hi
        rw [h2]; exact (x5 i o h1).1) (fun i hi y hy => by
        obtain ⟨o, h1, h2⟩ := hXi i hi
        rw [h2] at hy
        have hvo := (x5 i o h1).2.1.one
        simp only [ActV.cells, List.mem_cons, List.not_mem_nil, or_false] at hy
        rcases hy with rfl | rfl | rfl | rfl
        · rfl
        · rfl
        · rfl
        · exact hvo)
      have hfl : (List.range len).flatMap X = A.flatMap ActV.cells := by
        have : (List.range len).map X = A.map ActV.cells := by
          apply List.ext_getElem?
          intro i
          rw [List.getElem?_map, List.getElem?_map]
          by_cases hi : i < len
          · obtain ⟨o, h1, h2⟩ := hXi i hi
            rw [List.getElem?_range hi, h1]; simp [h2]
          · rw [List.getElem?_eq_none (by simp; omega), List.getElem?_eq_none (by omega)]; rfl
        rw [List.flatMap_def, List.flatMap_def, this]
      rw [hfl] at E4
      refine ⟨_, _, .slice hs1.length 0 len (some m), A, x1.trans (Ext.snoc _ _), ⟨g1 ++ [some (.cells 4 (A.flatMap ActV.cells) true false [])], by rw [x2, List.append_assoc]⟩, E4, x4.snoc rfl, R4, ⟨?_, ?_, by omega, ?_⟩⟩
      · rw [hA]
        exact Rd.fresh hs1 4 len _ true false (by rw [flat_len (s := 4) (fun _ => rfl), hA]) (some m) (fun c e => by cases e; exact hle)
      · intro o ho
        obtain ⟨i, hi⟩ := List.getElem?_of_mem ho
        exact (x5 i o hi).2.1.more
      · intro o ho
        obtain ⟨i, hi⟩ := List.getElem?_of_mem ho
        have := (x5 i o hi).2.2
        omega
theorem ArgsAt.base {hs hs0 : HS} {l : List SA} {sv : HV} {A : List ActV} (R : ArgsAt hs0 sv A) (H : Sat hs (HL.base hs0 :: l)) : ArgsAt hs sv A :=
  ⟨R.row.base H, fun a ha => (R.data a ha).base H, R.few, R.small⟩
end Go.Proofs.Ytccfcegmaejlnaa
