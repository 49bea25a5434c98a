/-
  The document's lines, List.
  The document's List, ReadList.
  The document's Dict, ReadDict.
  The document's ReadDict.
  the document's examples, in any memory; the marks.
-/
import Derived.Test.YteedmbmgemiheaaDoorKY1
import Derived.Test.YteedmbmgemiheaaDoorKYHLRound
import Derived.Test.YteedmbmgemiheaaDoorProg
import Derived.KernelRfl
import Derived.Test.YteedmbmgemiheaaDoorKYHLNon
namespace Go.Proofs.YteedmbmgemiheaaDoor
open Go Go.HL Go.Shelf Y
namespace A
set_option maxRecDepth 100000
set_option maxHeartbeats 40000000
set_option linter.unusedSimpArgs false
attribute [local irreducible] pt My Ex Vw Gr GrK each grp exs Sat takeCells happend hbuildSlice hstore hbox hslice hmakeSlice hs2b hcopy HL.unit opC
theorem rdl_cutB {hs : HS} {l : List SA} {w : HV} {bs : List UInt8} {a j : Nat} (H : Sat hs l) (R : Rdl l w bs.length (bcells bs)) (ha : a ≤ j) (hk : j ≤ bs.length) : ∃ x, hslice w (some (.int .i64 (a : Nat))) (some (.int .i64 (j : Nat))) none = some x ∧ x.one = true ∧ x.cells = [x] ∧
    ∀ hs, Sat hs l → Rd hs 1 x ((bs.take j).drop a).length (bcells ((bs.take j).drop a)) := by
  have go : ∀ hs, Sat hs l → ∃ x, hslice w (some (.int .i64 (a : Nat))) (some (.int .i64 (j : Nat))) none = some x ∧ Rd hs 1 x ((bs.take j).drop a).length (bcells ((bs.take j).drop a)) := fun hs H => by
    obtain ⟨x, h1, h2⟩ := (R _ H).cut (Lo.some (lo := a) (k := .i64)) (Hi.some (hi := j) (k := .i64)) ha hk
    refine ⟨x, h1, ?_⟩
    rw [Nat.mul_one, Nat.mul_one] at h2
    unfold bcells at h2 ⊢
    rw [← List.map_drop, ← List.map_take] at h2
    rw [List.length_drop, List.length_take, Nat.min_eq_left hk, List.drop_take]
    exact h2
  obtain ⟨x, hx, r1⟩ := go _ H
  refine ⟨x, hx, r1.one, r1.cells, fun hs H => ?_⟩
  obtain ⟨x2, hx2, r2⟩ := go _ H
  rw [hx] at hx2; cases hx2
  exact r2
theorem take_snoc {b : List UInt8} {i f : Nat} {c : UInt8} (h : b[i]? = some c) (hf : f ≤ i) : (b.take (i + 1)).drop f = (b.take i).drop f ++ [c] := by
  have hl := lt_of_get h
  rw [List.take_add_one, h, List.drop_append, show f - (b.take i).length = 0 by rw [List.length_take]; omega, List.drop_zero]
  rfl
theorem drop_cons {b : List UInt8} {i : Nat} {c : UInt8} (h : b[i]? = some c) : b.drop i = c :: b.drop (i + 1) := by
  have hl := lt_of_get h
  rw [List.drop_eq_getElem_cons hl]
  rw [List.getElem?_eq_getElem hl] at h
  rw [Option.some.inj h]
theorem lg_cons {c : UInt8} {r cur : List UInt8} : linesGo (c :: r) cur = if c = 10 then (cur :: (linesGo r []).1, (linesGo r []).2) else linesGo r (cur ++ [c]) := rfl
theorem lg_nil {cur : List UInt8} : linesGo [] cur = ([], cur) := rfl
theorem lines43 {hs : HS} {l : List SA} {bv : HV} {b : List UInt8} (H : Sat hs l) (R : Rdl l bv b.length (bcells b)) (hb : b.length < 1073741824) :
    HC Tryd.prog 43 [bv] hs fun v hs' => ∃ w, v = .tup [w, .bool (linesF b).isSome] ∧ Sat hs' (My 1 w ((linesF b).getD []).length (((linesF b).getD []).map HV.str) :: l) := by
  have hmax : maxLen = 9223372036854775807 := rfl
  have one := (R _ H).one
  have cel := (R _ H).cells
  have len := (R _ H).len
  refine HC.wp mixed Tryd.func43 c43 ?_
  first | have f0 := Sat.pf (H) | have f0 := trivial
  first | have f1 := Sat.pf (H.t) | have f1 := trivial
  first | have f2 := Sat.pf (H.t.t) | have f2 := trivial
  first | have f3 := Sat.pf (H.t.t.t) | have f3 := trivial
  first | have f4 := Sat.pf (H.t.t.t.t) | have f4 := trivial
  first | have f5 := Sat.pf (H.t.t.t.t.t) | have f5 := trivial
  repeat' first
    | ((with_reducible show Need _); refine need_of ?_; (first | have f0 := Sat.pf (H) | have f0 := trivial); (first | have f1 := Sat.pf (H.t) | have f1 := trivial); (first | have f2 := Sat.pf (H.t.t) | have f2 := trivial); (first | have f3 := Sat.pf (H.t.t.t) | have f3 := trivial); (first | have f4 := Sat.pf (H.t.t.t.t) | have f4 := trivial); (first | have f5 := Sat.pf (H.t.t.t.t.t) | have f5 := trivial))
    | simp -implicitDefEqProofs (disch := first | omega | decide | exact rfl | assumption | exact Nat.le_of_ble_eq_true rfl | exact One.c | exact One.o) only [vsA, vsB, eq_self, if_true, if_false, implies_true, false_implies, evp, HX.ev, Nat.reduceAdd, HOp.looks, Nat.reduceEqDiff, overw, Nat.reduceBEq, h43, one, cel, len, ub43, f0, f1, f2, f3, f4, f5, frame0, List.replicate, Nat.sub]
    | (refine condK_cases (fun h => ?_) (fun h => ?_) <;> (try simp only [h]) <;> (try simp only [athA, ne_eq] at h) <;> (try (exfalso; omega)))
    | (refine guardK_cases (fun h => ?_) (fun h => ?_) <;> (try simp only [h]) <;> (try simp only [athA, ne_eq] at h) <;> (try (exfalso; omega)))
    | (clear H f0 f1 f2 f3 f4 f5; (with_reducible intro v2 hs H); (try simp only [setA, overw, Nat.reduceAdd] at H); refine need ?_)
    | refine opC_K ?_
    | ((with_reducible show opC (happend _ _ _ _ _) _); refine sl_append (by with_reducible first | exact H | exact H.p1 | exact H.p2 | exact H.p3 | exact H.p4 | exact H.p5) (by first | assumption | with_reducible first | exact f0.2.1 | exact f1.2.1 | exact f2.2.1 | exact f3.2.1 | exact f4.2.1 | exact f5.2.1 | exact va_takeS) (by first | exact roomFor_of (by omega) | exact roomFor_wide (by omega)) (by omega) ?_)
    | ((with_reducible show opC (happend _ _ _ _ _) _); refine sl_append0X H (by first | assumption | with_reducible first | exact f0.2.1 | exact f1.2.1 | exact f2.2.1 | exact f3.2.1 | exact f4.2.1 | exact f5.2.1 | exact va_takeS) (by first | exact roomFor_of (by omega) | exact roomFor_wide (by omega)) (by omega) ?_)
    | ((with_reducible show opC (happend _ _ _ _ _) _); refine sl_appendX (by with_reducible first | exact H | exact H.p1 | exact H.p2 | exact H.p3 | exact H.p4 | exact H.p5) (by first | assumption | with_reducible first | exact f0.2.1 | exact f1.2.1 | exact f2.2.1 | exact f3.2.1 | exact f4.2.1 | exact f5.2.1 | exact va_takeS) (by first | exact roomFor_of (by omega) | exact roomFor_wide (by omega)) (by omega) ?_)
    | ((with_reducible show opC (hbuildSlice _ _ _ _ _) _); refine sl_bslice1 H rfl (by first | exact rfl | (simp only [f0, f1, f2, f3, f4, f5]; done) | (simp only [onA, *]; done)) (by first | exact rfl | (simp only [f0, f1, f2, f3, f4, f5]; done) | (simp only [onA, *]; done)) ?_)
    | with_reducible intro hy

  refine HW.loopA mixed (fun t : Nat × Nat × HV × List (List UInt8) => (bv :: .undef :: .undef :: .undef :: t.2.2.1 :: .int .i64 (t.2.1 : Nat) :: .undef :: .undef :: bv :: .int .i64 (b.length : Nat) :: .int .i64 (t.1 : Nat) :: .undef :: .undef :: .undef :: .undef :: .undef :: .undef :: .undef :: .undef :: .undef :: .undef :: .undef :: .undef :: .undef :: .undef :: .undef :: .undef :: .undef :: .undef :: .undef :: .undef :: .undef :: .undef :: .undef :: .undef :: .undef :: .undef :: .undef :: .undef :: .undef :: .undef :: .undef :: .undef :: .undef :: .undef :: [])) (fun t => My 1 t.2.2.1 t.2.2.2.length (t.2.2.2.map HV.str) :: l) (fun t => b.length - t.1)
    (fun t => t.2.1 ≤ t.1 ∧ t.1 ≤ b.length ∧ t.2.2.2.length ≤ t.1 ∧ linesGo b [] = (t.2.2.2 ++ (linesGo (b.drop t.1) ((b.take t.1).drop t.2.1)).1, (linesGo (b.drop t.1) ((b.take t.1).drop t.2.1)).2))
    (0, 0, .nilSlice, []) ⟨Nat.le_refl _, Nat.zero_le _, Nat.le_refl _, by simp⟩ (by (repeat first | exact Less.nil | refine Less.undef _ ?_ | refine Less.keep _ ?_)) H.own0 ?_
  clear H
  rintro ⟨i, f, w, ls⟩ hs ⟨hf, hi, hlen, hgo⟩ H
  simp only at hf hi hlen hgo H
  have ow := H.rd.one
  have owc := H.rd.cells
  have lw := H.rd.len
  by_cases h : i < b.length
  · obtain ⟨c, hc⟩ : ∃ c, b[i]? = some c := ⟨_, List.getElem?_eq_getElem h⟩
    obtain ⟨p, hp1, _⟩ := (R _ H.t).idx1 (bget hc) .i64
    have hp2 := (R _ H.t).ld1 hp1 (bget hc)
    have sob := (R _ H.t).sOk
    have d0 : decide (((i : Nat) : Int) < ((b.length : Nat) : Int)) = true := decide_eq_true (by omega)
    obtain ⟨y, hy, oy1, oy2, hyr⟩ := rdl_cutB (a := f) (j := i) H.t R hf hi
    have rs := rd_b2sK (hyr _ H.t)
    rw [drop_cons hc, lg_cons] at hgo
    by_cases hc10 : c = 10
    · have d1 : decide (((c.toNat : Nat) : Int) = 10) = true := by rw [hc10]; rfl
      rw [if_pos hc10] at hgo
      first | have f0 := Sat.pf (H) | have f0 := trivial
      first | have f1 := Sat.pf (H.t) | have f1 := trivial
      first | have f2 := Sat.pf (H.t.t) | have f2 := trivial
      first | have f3 := Sat.pf (H.t.t.t) | have f3 := trivial
      first | have f4 := Sat.pf (H.t.t.t.t) | have f4 := trivial
      first | have f5 := Sat.pf (H.t.t.t.t.t) | have f5 := trivial
      repeat' first
        | ((with_reducible show Need _); refine need_of ?_; (first | have f0 := Sat.pf (H) | have f0 := trivial); (first | have f1 := Sat.pf (H.t) | have f1 := trivial); (first | have f2 := Sat.pf (H.t.t) | have f2 := trivial); (first | have f3 := Sat.pf (H.t.t.t) | have f3 := trivial); (first | have f4 := Sat.pf (H.t.t.t.t) | have f4 := trivial); (first | have f5 := Sat.pf (H.t.t.t.t.t) | have f5 := trivial))
        | simp -implicitDefEqProofs (disch := first | omega | decide | exact rfl | assumption | exact Nat.le_of_ble_eq_true rfl | exact One.c | exact One.o) only [vsA, vsB, eq_self, if_true, if_false, implies_true, false_implies, evp, HX.ev, Nat.reduceAdd, HOp.looks, Nat.reduceEqDiff, overw, Nat.reduceBEq, ow, owc, len, one, cel, hp1, hp2, sob, d0, d1, hy, oy1, oy2, rs, vadd1, ub43, f0, f1, f2, f3, f4, f5]
        | (refine condK_cases (fun h => ?_) (fun h => ?_) <;> (try simp only [h]) <;> (try simp only [athA, ne_eq] at h) <;> (try (exfalso; omega)))
        | (refine guardK_cases (fun h => ?_) (fun h => ?_) <;> (try simp only [h]) <;> (try simp only [athA, ne_eq] at h) <;> (try (exfalso; omega)))
        | (clear H f0 f1 f2 f3 f4 f5; (with_reducible intro v2 hs H); (try simp only [setA, overw, Nat.reduceAdd] at H); refine need ?_)
        | refine opC_K ?_
        | ((with_reducible show opC (happend _ _ _ _ _) _); refine sl_append (by with_reducible first | exact H | exact H.p1 | exact H.p2 | exact H.p3 | exact H.p4 | exact H.p5) (by first | assumption | with_reducible first | exact f0.2.1 | exact f1.2.1 | exact f2.2.1 | exact f3.2.1 | exact f4.2.1 | exact f5.2.1 | exact va_takeS) (by first | exact roomFor_of (by omega) | exact roomFor_wide (by omega)) (by omega) ?_)
        | ((with_reducible show opC (happend _ _ _ _ _) _); refine sl_append0X H (by first | assumption | with_reducible first | exact f0.2.1 | exact f1.2.1 | exact f2.2.1 | exact f3.2.1 | exact f4.2.1 | exact f5.2.1 | exact va_takeS) (by first | exact roomFor_of (by omega) | exact roomFor_wide (by omega)) (by omega) ?_)
        | ((with_reducible show opC (happend _ _ _ _ _) _); refine sl_appendX (by with_reducible first | exact H | exact H.p1 | exact H.p2 | exact H.p3 | exact H.p4 | exact H.p5) (by first | assumption | with_reducible first | exact f0.2.1 | exact f1.2.1 | exact f2.2.1 | exact f3.2.1 | exact f4.2.1 | exact f5.2.1 | exact va_takeS) (by first | exact roomFor_of (by omega) | exact roomFor_wide (by omega)) (by omega) ?_)
        | ((with_reducible show opC (hbuildSlice _ _ _ _ _) _); refine sl_bslice1 H rfl (by first | exact rfl | (simp only [f0, f1, f2, f3, f4, f5]; done) | (simp only [onA, *]; done)) (by first | exact rfl | (simp only [f0, f1, f2, f3, f4, f5]; done) | (simp only [onA, *]; done)) ?_)
        | with_reducible intro hy

      refine ⟨(i + 1, i + 1, v2, ls ++ [(b.take i).drop f]), _, by simp only; omega, ⟨by simp only; omega, by simp only; omega, by simp only [List.length_append, List.length_singleton]; omega, ?_⟩, (by (repeat first | exact Less.nil | refine Less.undef _ ?_ | refine Less.keep _ ?_)), Weak.refl _, ?_⟩
      · rw [hgo]
        rw [List.drop_eq_nil_of_le (show ((b.take (i + 1)).length ≤ i + 1) by rw [List.length_take]; omega)]
        simp
      · simp only [List.length_append, List.length_singleton, List.map_append, List.map_cons, List.map_nil]
        exact H
    · have d1 : decide (((c.toNat : Nat) : Int) = 10) = false := decide_eq_false (fun h => hc10 (UInt8.toNat_inj.1 (by rw [show (10 : UInt8).toNat = 10 from rfl]; omega)))
      rw [if_neg hc10] at hgo
      first | have f0 := Sat.pf (H) | have f0 := trivial
      first | have f1 := Sat.pf (H.t) | have f1 := trivial
      first | have f2 := Sat.pf (H.t.t) | have f2 := trivial
      first | have f3 := Sat.pf (H.t.t.t) | have f3 := trivial
      first | have f4 := Sat.pf (H.t.t.t.t) | have f4 := trivial
      first | have f5 := Sat.pf (H.t.t.t.t.t) | have f5 := trivial
      repeat' first
        | ((with_reducible show Need _); refine need_of ?_; (first | have f0 := Sat.pf (H) | have f0 := trivial); (first | have f1 := Sat.pf (H.t) | have f1 := trivial); (first | have f2 := Sat.pf (H.t.t) | have f2 := trivial); (first | have f3 := Sat.pf (H.t.t.t) | have f3 := trivial); (first | have f4 := Sat.pf (H.t.t.t.t) | have f4 := trivial); (first | have f5 := Sat.pf (H.t.t.t.t.t) | have f5 := trivial))
        | simp -implicitDefEqProofs (disch := first | omega | decide | exact rfl | assumption | exact Nat.le_of_ble_eq_true rfl | exact One.c | exact One.o) only [vsA, vsB, eq_self, if_true, if_false, implies_true, false_implies, evp, HX.ev, Nat.reduceAdd, HOp.looks, Nat.reduceEqDiff, overw, Nat.reduceBEq, ow, owc, len, one, cel, hp1, hp2, sob, d0, d1, vadd1, ub43, f0, f1, f2, f3, f4, f5]
        | (refine condK_cases (fun h => ?_) (fun h => ?_) <;> (try simp only [h]) <;> (try simp only [athA, ne_eq] at h) <;> (try (exfalso; omega)))
        | (refine guardK_cases (fun h => ?_) (fun h => ?_) <;> (try simp only [h]) <;> (try simp only [athA, ne_eq] at h) <;> (try (exfalso; omega)))
        | (clear H f0 f1 f2 f3 f4 f5; (with_reducible intro v2 hs H); (try simp only [setA, overw, Nat.reduceAdd] at H); refine need ?_)
        | refine opC_K ?_
        | ((with_reducible show opC (happend _ _ _ _ _) _); refine sl_append (by with_reducible first | exact H | exact H.p1 | exact H.p2 | exact H.p3 | exact H.p4 | exact H.p5) (by first | assumption | with_reducible first | exact f0.2.1 | exact f1.2.1 | exact f2.2.1 | exact f3.2.1 | exact f4.2.1 | exact f5.2.1 | exact va_takeS) (by first | exact roomFor_of (by omega) | exact roomFor_wide (by omega)) (by omega) ?_)
        | ((with_reducible show opC (happend _ _ _ _ _) _); refine sl_append0X H (by first | assumption | with_reducible first | exact f0.2.1 | exact f1.2.1 | exact f2.2.1 | exact f3.2.1 | exact f4.2.1 | exact f5.2.1 | exact va_takeS) (by first | exact roomFor_of (by omega) | exact roomFor_wide (by omega)) (by omega) ?_)
        | ((with_reducible show opC (happend _ _ _ _ _) _); refine sl_appendX (by with_reducible first | exact H | exact H.p1 | exact H.p2 | exact H.p3 | exact H.p4 | exact H.p5) (by first | assumption | with_reducible first | exact f0.2.1 | exact f1.2.1 | exact f2.2.1 | exact f3.2.1 | exact f4.2.1 | exact f5.2.1 | exact va_takeS) (by first | exact roomFor_of (by omega) | exact roomFor_wide (by omega)) (by omega) ?_)
        | ((with_reducible show opC (hbuildSlice _ _ _ _ _) _); refine sl_bslice1 H rfl (by first | exact rfl | (simp only [f0, f1, f2, f3, f4, f5]; done) | (simp only [onA, *]; done)) (by first | exact rfl | (simp only [f0, f1, f2, f3, f4, f5]; done) | (simp only [onA, *]; done)) ?_)
        | with_reducible intro hy

      refine ⟨(i + 1, f, w, ls), _, by simp only; omega, ⟨by simp only; omega, by simp only; omega, by simp only; omega, ?_⟩, (by (repeat first | exact Less.nil | refine Less.undef _ ?_ | refine Less.keep _ ?_)), Weak.refl _, H⟩
      rw [hgo, take_snoc hc hf]
  · obtain rfl : i = b.length := by omega
    have d0 : decide (((b.length : Nat) : Int) < ((b.length : Nat) : Int)) = false := decide_eq_false (by omega)
    rw [List.drop_length, List.take_length] at hgo
    rw [lg_nil] at hgo
    simp only [List.append_nil] at hgo
    by_cases hfe : f = b.length
    · have d1 : decide (((f : Nat) : Int) = ((b.length : Nat) : Int)) = true := decide_eq_true (by omega)
      rw [hfe, List.drop_length] at hgo
      cases ls with
      | nil =>
        have e : linesF b = none := by unfold linesF; rw [hgo]
        rw [e]
        have d2 : decide (((0 : Nat) : Int) = 0) = true := by decide
        first | have f0 := Sat.pf (H) | have f0 := trivial
        first | have f1 := Sat.pf (H.t) | have f1 := trivial
        first | have f2 := Sat.pf (H.t.t) | have f2 := trivial
        first | have f3 := Sat.pf (H.t.t.t) | have f3 := trivial
        first | have f4 := Sat.pf (H.t.t.t.t) | have f4 := trivial
        first | have f5 := Sat.pf (H.t.t.t.t.t) | have f5 := trivial
        repeat' first
          | ((with_reducible show Need _); refine need_of ?_; (first | have f0 := Sat.pf (H) | have f0 := trivial); (first | have f1 := Sat.pf (H.t) | have f1 := trivial); (first | have f2 := Sat.pf (H.t.t) | have f2 := trivial); (first | have f3 := Sat.pf (H.t.t.t) | have f3 := trivial); (first | have f4 := Sat.pf (H.t.t.t.t) | have f4 := trivial); (first | have f5 := Sat.pf (H.t.t.t.t.t) | have f5 := trivial))
          | simp -implicitDefEqProofs (disch := first | omega | decide | exact rfl | assumption | exact Nat.le_of_ble_eq_true rfl | exact One.c | exact One.o) only [vsA, vsB, eq_self, if_true, if_false, implies_true, false_implies, evp, HX.ev, Nat.reduceAdd, HOp.looks, Nat.reduceEqDiff, overw, Nat.reduceBEq, ow, owc, len, one, cel, d0, d1, d2, ub43, f0, f1, f2, f3, f4, f5]
          | (refine condK_cases (fun h => ?_) (fun h => ?_) <;> (try simp only [h]) <;> (try simp only [athA, ne_eq] at h) <;> (try (exfalso; omega)))
          | (refine guardK_cases (fun h => ?_) (fun h => ?_) <;> (try simp only [h]) <;> (try simp only [athA, ne_eq] at h) <;> (try (exfalso; omega)))
          | (clear H f0 f1 f2 f3 f4 f5; (with_reducible intro v2 hs H); (try simp only [setA, overw, Nat.reduceAdd] at H); refine need ?_)
          | refine opC_K ?_
          | ((with_reducible show opC (happend _ _ _ _ _) _); refine sl_append (by with_reducible first | exact H | exact H.p1 | exact H.p2 | exact H.p3 | exact H.p4 | exact H.p5) (by first | assumption | with_reducible first | exact f0.2.1 | exact f1.2.1 | exact f2.2.1 | exact f3.2.1 | exact f4.2.1 | exact f5.2.1 | exact va_takeS) (by first | exact roomFor_of (by omega) | exact roomFor_wide (by omega)) (by omega) ?_)
          | ((with_reducible show opC (happend _ _ _ _ _) _); refine sl_append0X H (by first | assumption | with_reducible first | exact f0.2.1 | exact f1.2.1 | exact f2.2.1 | exact f3.2.1 | exact f4.2.1 | exact f5.2.1 | exact va_takeS) (by first | exact roomFor_of (by omega) | exact roomFor_wide (by omega)) (by omega) ?_)
          | ((with_reducible show opC (happend _ _ _ _ _) _); refine sl_appendX (by with_reducible first | exact H | exact H.p1 | exact H.p2 | exact H.p3 | exact H.p4 | exact H.p5) (by first | assumption | with_reducible first | exact f0.2.1 | exact f1.2.1 | exact f2.2.1 | exact f3.2.1 | exact f4.2.1 | exact f5.2.1 | exact va_takeS) (by first | exact roomFor_of (by omega) | exact roomFor_wide (by omega)) (by omega) ?_)
          | ((with_reducible show opC (hbuildSlice _ _ _ _ _) _); refine sl_bslice1 H rfl (by first | exact rfl | (simp only [f0, f1, f2, f3, f4, f5]; done) | (simp only [onA, *]; done)) (by first | exact rfl | (simp only [f0, f1, f2, f3, f4, f5]; done) | (simp only [onA, *]; done)) ?_)
          | with_reducible intro hy

        exact ⟨.nilSlice, rfl, H.t.own0⟩
      | cons l0 ls =>
        have d2 : decide (((ls.length + 1 : Nat) : Int) = 0) = false := decide_eq_false (by omega)
        obtain ⟨p, hp1, _⟩ := (H.rd).idx1 (sget (X := l0 :: ls) (i := 0) (c := l0) rfl) .i64
        have hp2 := H.rd.ld1 hp1 (sget (X := l0 :: ls) (i := 0) (c := l0) rfl)
        have hp1 : hindexAddr 1 w (.int .i64 0) = some p := hp1
        obtain ⟨y, hy, ry⟩ := H.rd.cut (Lo.some (lo := 1) (k := .i64)) Hi.none (by simp) (Nat.le_refl _)
        have Hy := H.cut (Lo.some (lo := 1) (k := .i64)) Hi.none (by simp) (Nat.le_refl _) hy
        have hy : hslice w (some (.int .i64 1)) none none = some y := hy
        have oy1 := ry.one
        have oy2 := ry.cells
        cases e3 : (l0 == [45, 45, 45]) with
        | true =>
          have e : linesF b = some ls := by unfold linesF; rw [hgo]; simp only; rw [if_pos (by simpa using e3)]
          rw [e]
          first | have f0 := Sat.pf (H) | have f0 := trivial
          first | have f1 := Sat.pf (H.t) | have f1 := trivial
          first | have f2 := Sat.pf (H.t.t) | have f2 := trivial
          first | have f3 := Sat.pf (H.t.t.t) | have f3 := trivial
          first | have f4 := Sat.pf (H.t.t.t.t) | have f4 := trivial
          first | have f5 := Sat.pf (H.t.t.t.t.t) | have f5 := trivial
          repeat' first
            | ((with_reducible show Need _); refine need_of ?_; (first | have f0 := Sat.pf (H) | have f0 := trivial); (first | have f1 := Sat.pf (H.t) | have f1 := trivial); (first | have f2 := Sat.pf (H.t.t) | have f2 := trivial); (first | have f3 := Sat.pf (H.t.t.t) | have f3 := trivial); (first | have f4 := Sat.pf (H.t.t.t.t) | have f4 := trivial); (first | have f5 := Sat.pf (H.t.t.t.t.t) | have f5 := trivial))
            | simp -implicitDefEqProofs (disch := first | omega | decide | exact rfl | assumption | exact Nat.le_of_ble_eq_true rfl | exact One.c | exact One.o) only [vsA, vsB, eq_self, if_true, if_false, implies_true, false_implies, evp, HX.ev, Nat.reduceAdd, HOp.looks, Nat.reduceEqDiff, overw, Nat.reduceBEq, ow, owc, len, one, cel, d0, d1, d2, hp1, hp2, e3, hy, oy1, oy2, Bool.not_true, Bool.not_false, ub43, f0, f1, f2, f3, f4, f5]
            | (refine condK_cases (fun h => ?_) (fun h => ?_) <;> (try simp only [h]) <;> (try simp only [athA, ne_eq] at h) <;> (try (exfalso; omega)))
            | (refine guardK_cases (fun h => ?_) (fun h => ?_) <;> (try simp only [h]) <;> (try simp only [athA, ne_eq] at h) <;> (try (exfalso; omega)))
            | (clear H f0 f1 f2 f3 f4 f5; (with_reducible intro v2 hs H); (try simp only [setA, overw, Nat.reduceAdd] at H); refine need ?_)
            | refine opC_K ?_
            | ((with_reducible show opC (happend _ _ _ _ _) _); refine sl_append (by with_reducible first | exact H | exact H.p1 | exact H.p2 | exact H.p3 | exact H.p4 | exact H.p5) (by first | assumption | with_reducible first | exact f0.2.1 | exact f1.2.1 | exact f2.2.1 | exact f3.2.1 | exact f4.2.1 | exact f5.2.1 | exact va_takeS) (by first | exact roomFor_of (by omega) | exact roomFor_wide (by omega)) (by omega) ?_)
            | ((with_reducible show opC (happend _ _ _ _ _) _); refine sl_append0X H (by first | assumption | with_reducible first | exact f0.2.1 | exact f1.2.1 | exact f2.2.1 | exact f3.2.1 | exact f4.2.1 | exact f5.2.1 | exact va_takeS) (by first | exact roomFor_of (by omega) | exact roomFor_wide (by omega)) (by omega) ?_)
            | ((with_reducible show opC (happend _ _ _ _ _) _); refine sl_appendX (by with_reducible first | exact H | exact H.p1 | exact H.p2 | exact H.p3 | exact H.p4 | exact H.p5) (by first | assumption | with_reducible first | exact f0.2.1 | exact f1.2.1 | exact f2.2.1 | exact f3.2.1 | exact f4.2.1 | exact f5.2.1 | exact va_takeS) (by first | exact roomFor_of (by omega) | exact roomFor_wide (by omega)) (by omega) ?_)
            | ((with_reducible show opC (hbuildSlice _ _ _ _ _) _); refine sl_bslice1 H rfl (by first | exact rfl | (simp only [f0, f1, f2, f3, f4, f5]; done) | (simp only [onA, *]; done)) (by first | exact rfl | (simp only [f0, f1, f2, f3, f4, f5]; done) | (simp only [onA, *]; done)) ?_)
            | with_reducible intro hy

          refine ⟨y, rfl, ?_⟩
          simp only [List.length_cons, Nat.add_sub_cancel, Nat.one_mul, List.map_cons, List.drop_succ_cons, List.drop_zero, Nat.mul_one] at Hy
          rw [List.take_of_length_le (by simp)] at Hy
          exact Hy
        | false =>
          have e : linesF b = none := by unfold linesF; rw [hgo]; simp only; rw [if_neg (by simpa using e3)]
          rw [e]
          first | have f0 := Sat.pf (H) | have f0 := trivial
          first | have f1 := Sat.pf (H.t) | have f1 := trivial
          first | have f2 := Sat.pf (H.t.t) | have f2 := trivial
          first | have f3 := Sat.pf (H.t.t.t) | have f3 := trivial
          first | have f4 := Sat.pf (H.t.t.t.t) | have f4 := trivial
          first | have f5 := Sat.pf (H.t.t.t.t.t) | have f5 := trivial
          repeat' first
            | ((with_reducible show Need _); refine need_of ?_; (first | have f0 := Sat.pf (H) | have f0 := trivial); (first | have f1 := Sat.pf (H.t) | have f1 := trivial); (first | have f2 := Sat.pf (H.t.t) | have f2 := trivial); (first | have f3 := Sat.pf (H.t.t.t) | have f3 := trivial); (first | have f4 := Sat.pf (H.t.t.t.t) | have f4 := trivial); (first | have f5 := Sat.pf (H.t.t.t.t.t) | have f5 := trivial))
            | simp -implicitDefEqProofs (disch := first | omega | decide | exact rfl | assumption | exact Nat.le_of_ble_eq_true rfl | exact One.c | exact One.o) only [vsA, vsB, eq_self, if_true, if_false, implies_true, false_implies, evp, HX.ev, Nat.reduceAdd, HOp.looks, Nat.reduceEqDiff, overw, Nat.reduceBEq, ow, owc, len, one, cel, d0, d1, d2, hp1, hp2, e3, Bool.not_true, Bool.not_false, ub43, f0, f1, f2, f3, f4, f5]
            | (refine condK_cases (fun h => ?_) (fun h => ?_) <;> (try simp only [h]) <;> (try simp only [athA, ne_eq] at h) <;> (try (exfalso; omega)))
            | (refine guardK_cases (fun h => ?_) (fun h => ?_) <;> (try simp only [h]) <;> (try simp only [athA, ne_eq] at h) <;> (try (exfalso; omega)))
            | (clear H f0 f1 f2 f3 f4 f5; (with_reducible intro v2 hs H); (try simp only [setA, overw, Nat.reduceAdd] at H); refine need ?_)
            | refine opC_K ?_
            | ((with_reducible show opC (happend _ _ _ _ _) _); refine sl_append (by with_reducible first | exact H | exact H.p1 | exact H.p2 | exact H.p3 | exact H.p4 | exact H.p5) (by first | assumption | with_reducible first | exact f0.2.1 | exact f1.2.1 | exact f2.2.1 | exact f3.2.1 | exact f4.2.1 | exact f5.2.1 | exact va_takeS) (by first | exact roomFor_of (by omega) | exact roomFor_wide (by omega)) (by omega) ?_)
            | ((with_reducible show opC (happend _ _ _ _ _) _); refine sl_append0X H (by first | assumption | with_reducible first | exact f0.2.1 | exact f1.2.1 | exact f2.2.1 | exact f3.2.1 | exact f4.2.1 | exact f5.2.1 | exact va_takeS) (by first | exact roomFor_of (by omega) | exact roomFor_wide (by omega)) (by omega) ?_)
            | ((with_reducible show opC (happend _ _ _ _ _) _); refine sl_appendX (by with_reducible first | exact H | exact H.p1 | exact H.p2 | exact H.p3 | exact H.p4 | exact H.p5) (by first | assumption | with_reducible first | exact f0.2.1 | exact f1.2.1 | exact f2.2.1 | exact f3.2.1 | exact f4.2.1 | exact f5.2.1 | exact va_takeS) (by first | exact roomFor_of (by omega) | exact roomFor_wide (by omega)) (by omega) ?_)
            | ((with_reducible show opC (hbuildSlice _ _ _ _ _) _); refine sl_bslice1 H rfl (by first | exact rfl | (simp only [f0, f1, f2, f3, f4, f5]; done) | (simp only [onA, *]; done)) (by first | exact rfl | (simp only [f0, f1, f2, f3, f4, f5]; done) | (simp only [onA, *]; done)) ?_)
            | with_reducible intro hy

          exact ⟨.nilSlice, rfl, H.t.own0⟩
    · have d1 : decide (((f : Nat) : Int) = ((b.length : Nat) : Int)) = false := decide_eq_false (by omega)
      have e : linesF b = none := by
        unfold linesF; rw [hgo]
        have : b.drop f ≠ [] := fun h => by have := congrArg List.length h; simp at this; omega
        cases hd : b.drop f with
        | nil => exact absurd hd this
        | cons x xs => cases ls <;> rfl
      rw [e]
      first | have f0 := Sat.pf (H) | have f0 := trivial
      first | have f1 := Sat.pf (H.t) | have f1 := trivial
      first | have f2 := Sat.pf (H.t.t) | have f2 := trivial
      first | have f3 := Sat.pf (H.t.t.t) | have f3 := trivial
      first | have f4 := Sat.pf (H.t.t.t.t) | have f4 := trivial
      first | have f5 := Sat.pf (H.t.t.t.t.t) | have f5 := trivial
      repeat' first
        | ((with_reducible show Need _); refine need_of ?_; (first | have f0 := Sat.pf (H) | have f0 := trivial); (first | have f1 := Sat.pf (H.t) | have f1 := trivial); (first | have f2 := Sat.pf (H.t.t) | have f2 := trivial); (first | have f3 := Sat.pf (H.t.t.t) | have f3 := trivial); (first | have f4 := Sat.pf (H.t.t.t.t) | have f4 := trivial); (first | have f5 := Sat.pf (H.t.t.t.t.t) | have f5 := trivial))
        | simp -implicitDefEqProofs (disch := first | omega | decide | exact rfl | assumption | exact Nat.le_of_ble_eq_true rfl | exact One.c | exact One.o) only [vsA, vsB, eq_self, if_true, if_false, implies_true, false_implies, evp, HX.ev, Nat.reduceAdd, HOp.looks, Nat.reduceEqDiff, overw, Nat.reduceBEq, ow, owc, len, one, cel, d0, d1, ub43, f0, f1, f2, f3, f4, f5]
        | (refine condK_cases (fun h => ?_) (fun h => ?_) <;> (try simp only [h]) <;> (try simp only [athA, ne_eq] at h) <;> (try (exfalso; omega)))
        | (refine guardK_cases (fun h => ?_) (fun h => ?_) <;> (try simp only [h]) <;> (try simp only [athA, ne_eq] at h) <;> (try (exfalso; omega)))
        | (clear H f0 f1 f2 f3 f4 f5; (with_reducible intro v2 hs H); (try simp only [setA, overw, Nat.reduceAdd] at H); refine need ?_)
        | refine opC_K ?_
        | ((with_reducible show opC (happend _ _ _ _ _) _); refine sl_append (by with_reducible first | exact H | exact H.p1 | exact H.p2 | exact H.p3 | exact H.p4 | exact H.p5) (by first | assumption | with_reducible first | exact f0.2.1 | exact f1.2.1 | exact f2.2.1 | exact f3.2.1 | exact f4.2.1 | exact f5.2.1 | exact va_takeS) (by first | exact roomFor_of (by omega) | exact roomFor_wide (by omega)) (by omega) ?_)
        | ((with_reducible show opC (happend _ _ _ _ _) _); refine sl_append0X H (by first | assumption | with_reducible first | exact f0.2.1 | exact f1.2.1 | exact f2.2.1 | exact f3.2.1 | exact f4.2.1 | exact f5.2.1 | exact va_takeS) (by first | exact roomFor_of (by omega) | exact roomFor_wide (by omega)) (by omega) ?_)
        | ((with_reducible show opC (happend _ _ _ _ _) _); refine sl_appendX (by with_reducible first | exact H | exact H.p1 | exact H.p2 | exact H.p3 | exact H.p4 | exact H.p5) (by first | assumption | with_reducible first | exact f0.2.1 | exact f1.2.1 | exact f2.2.1 | exact f3.2.1 | exact f4.2.1 | exact f5.2.1 | exact va_takeS) (by first | exact roomFor_of (by omega) | exact roomFor_wide (by omega)) (by omega) ?_)
        | ((with_reducible show opC (hbuildSlice _ _ _ _ _) _); refine sl_bslice1 H rfl (by first | exact rfl | (simp only [f0, f1, f2, f3, f4, f5]; done) | (simp only [onA, *]; done)) (by first | exact rfl | (simp only [f0, f1, f2, f3, f4, f5]; done) | (simp only [onA, *]; done)) ?_)
        | with_reducible intro hy

      exact ⟨.nilSlice, rfl, H.t.own0⟩
end A
end Go.Proofs.YteedmbmgemiheaaDoor
namespace Go.Proofs.YteedmbmgemiheaaDoor
open Go Go.HL Go.Shelf Y
namespace A
set_option maxRecDepth 100000
set_option maxHeartbeats 40000000
set_option linter.unusedSimpArgs false
attribute [local irreducible] pt My Ex Vw Gr GrK each grp exs Sat takeCells happend hbuildSlice hstore hbox hslice hmakeSlice hs2b hcopy HL.unit opC
theorem takeS {hs : HS} {b : List UInt8} : takeCells hs 1 (.str b) = some (b.length, bcells b) := va_takeS
theorem bc_app {a b : List UInt8} : bcells (a ++ b) = bcells a ++ bcells b := by simp [bcells]
theorem line_mem {α : Type} {f : α → List UInt8} {L : List α} {i : Nat} {s : α} (h : L[i]? = some s) : ((L.take i).flatMap f).length + (f s).length ≤ (L.flatMap f).length := by
  have e : L.flatMap f = (L.take i).flatMap f ++ (f s ++ (L.drop (i + 1)).flatMap f) := by
    conv => lhs; rw [← List.take_append_drop i L, List.flatMap_append]
    rw [List.drop_eq_getElem_cons (lt_of_get h), List.flatMap_cons]
    rw [List.getElem?_eq_getElem (lt_of_get h)] at h
    rw [Option.some.inj h]
  rw [e, List.length_append, List.length_append]; omega
theorem takeL_snoc {α : Type} {f : α → List UInt8} {L : List α} {i : Nat} {s : α} (h : L[i]? = some s) : (L.take (i + 1)).flatMap f = (L.take i).flatMap f ++ f s := by
  rw [List.take_add_one, h, List.flatMap_append]; simp
theorem List14 {hs : HS} {l : List SA} {v : HV} {L : List (List UInt8)} (H : Sat hs l) (R : ∀ hs, Sat hs l → Rd hs 1 v L.length (L.map HV.str)) (hX : (writeL L).length < 1099511627776) (hL : L.length < 1099511627776) :
    HC Tryd.prog 14 [v] hs fun r hs' => ∃ w, r = .tup [w, .int .i64 (if L.all plainB = true then 0 else 91)] ∧ Sat hs' (My 1 w (if L.all plainB = true then writeL L else []).length (bcells (if L.all plainB = true then writeL L else [])) :: l) := by
  have hmax : maxLen = 9223372036854775807 := rfl
  have one := (R _ H).one
  have cel := (R _ H).cells
  have len := (R _ H).len
  refine HC.wp mixed Tryd.func14 c14 ?_
  first | have f0 := Sat.pf (H) | have f0 := trivial
  first | have f1 := Sat.pf (H.t) | have f1 := trivial
  first | have f2 := Sat.pf (H.t.t) | have f2 := trivial
  first | have f3 := Sat.pf (H.t.t.t) | have f3 := trivial
  first | have f4 := Sat.pf (H.t.t.t.t) | have f4 := trivial
  first | have f5 := Sat.pf (H.t.t.t.t.t) | have f5 := trivial
  repeat' first
    | simp -implicitDefEqProofs (disch := first | omega | decide | exact rfl | assumption | exact Nat.le_of_ble_eq_true rfl | exact One.c | exact One.o) only [vsA, vsB, eq_self, if_true, if_false, implies_true, false_implies, evp, HX.ev, Nat.reduceAdd, HOp.looks, Nat.reduceEqDiff, overw, Nat.reduceBEq, h14, one, cel, len, ub14, f0, f1, f2, f3, f4, f5, frame0, List.replicate, Nat.sub]

  refine HW.loopA mixed (fun i : Nat => (v :: .undef :: .undef :: .undef :: .undef :: .undef :: .undef :: .undef :: .undef :: v :: .int .i64 (L.length : Nat) :: .int .i64 (i : Nat) :: .undef :: .undef :: .undef :: .undef :: .undef :: .undef :: .undef :: .undef :: .undef :: .undef :: .undef :: .undef :: .undef :: .undef :: .undef :: .undef :: .undef :: .undef :: .undef :: .undef :: .undef :: .undef :: .undef :: .undef :: .undef :: [])) (fun _ => l) (fun i => L.length - i) (fun i => i ≤ L.length ∧ (L.take i).all plainB = true) 0 ⟨Nat.zero_le _, rfl⟩ (by (repeat first | exact Less.nil | refine Less.undef _ ?_ | refine Less.keep _ ?_)) H ?_
  clear H
  rintro i hs ⟨hi, ha⟩ H
  by_cases h : i < L.length
  · obtain ⟨s, hsx⟩ : ∃ s, L[i]? = some s := ⟨_, List.getElem?_eq_getElem h⟩
    have hlm := line_mem (f := lineL) hsx
    have hll : (lineL s).length = s.length + 3 := by simp [lineL]
    have hwl : (writeL L).length = 4 + (L.flatMap lineL).length := by unfold writeL; rw [List.length_append]; rfl
    obtain ⟨p, hp1, _⟩ := (R _ H).idx1 (sget hsx) .i64
    have hp2 := (R _ H).ld1 hp1 (sget hsx)
    have so := (R _ H).sOk
    have d0 : decide (((i : Nat) : Int) < ((L.length : Nat) : Int)) = true := decide_eq_true (by omega)
    have hpl := plain33 (hs := hs) s (by omega)
    cases e : plainB s with
    | true =>
      rw [e] at hpl
      first | have f0 := Sat.pf (H) | have f0 := trivial
      first | have f1 := Sat.pf (H.t) | have f1 := trivial
      first | have f2 := Sat.pf (H.t.t) | have f2 := trivial
      first | have f3 := Sat.pf (H.t.t.t) | have f3 := trivial
      first | have f4 := Sat.pf (H.t.t.t.t) | have f4 := trivial
      first | have f5 := Sat.pf (H.t.t.t.t.t) | have f5 := trivial
      repeat' first
        | simp -implicitDefEqProofs (disch := first | omega | decide | exact rfl | assumption | exact Nat.le_of_ble_eq_true rfl | exact One.c | exact One.o) only [vsA, vsB, eq_self, if_true, if_false, implies_true, false_implies, evp, HX.ev, Nat.reduceAdd, HOp.looks, Nat.reduceEqDiff, overw, Nat.reduceBEq, one, cel, len, hp1, hp2, so, d0, vadd1, ub14, f0, f1, f2, f3, f4, f5]
        | ((with_reducible show actK _ (HAct.call (HX.cst (HV.func (Fn.func 33) _ _)) _) _ _ _ _ _); refine vcall_of ok33 rfl hpl ?_; rintro _ _ ⟨rfl, rfl⟩)

      refine ⟨i + 1, _, by omega, ⟨by omega, ?_⟩, (by (repeat first | exact Less.nil | refine Less.undef _ ?_ | refine Less.keep _ ?_)), Weak.refl _, H⟩
      rw [List.take_add_one, hsx, List.all_append, ha]; simp [e]
    | false =>
      rw [e] at hpl
      have hall : L.all plainB = false := by
        cases q : L.all plainB with
        | false => rfl
        | true =>
          have := List.all_eq_true.1 q s (List.mem_of_getElem? hsx)
          rw [e] at this; cases this
      rw [hall]
      first | have f0 := Sat.pf (H) | have f0 := trivial
      first | have f1 := Sat.pf (H.t) | have f1 := trivial
      first | have f2 := Sat.pf (H.t.t) | have f2 := trivial
      first | have f3 := Sat.pf (H.t.t.t) | have f3 := trivial
      first | have f4 := Sat.pf (H.t.t.t.t) | have f4 := trivial
      first | have f5 := Sat.pf (H.t.t.t.t.t) | have f5 := trivial
      repeat' first
        | simp -implicitDefEqProofs (disch := first | omega | decide | exact rfl | assumption | exact Nat.le_of_ble_eq_true rfl | exact One.c | exact One.o) only [vsA, vsB, eq_self, if_true, if_false, implies_true, false_implies, evp, HX.ev, Nat.reduceAdd, HOp.looks, Nat.reduceEqDiff, overw, Nat.reduceBEq, one, cel, len, hp1, hp2, so, d0, vadd1, ub14, f0, f1, f2, f3, f4, f5]
        | ((with_reducible show actK _ (HAct.call (HX.cst (HV.func (Fn.func 33) _ _)) _) _ _ _ _ _); refine vcall_of ok33 rfl hpl ?_; rintro _ _ ⟨rfl, rfl⟩)

      exact ⟨.nilSlice, rfl, H.own0⟩
  · obtain rfl : i = L.length := by omega
    rw [List.take_length] at ha
    rw [ha]
    have d0 : decide (((L.length : Nat) : Int) < ((L.length : Nat) : Int)) = false := decide_eq_false (by omega)
    have hm := True.intro
    first | have f0 := Sat.pf (H) | have f0 := trivial
    first | have f1 := Sat.pf (H.t) | have f1 := trivial
    first | have f2 := Sat.pf (H.t.t) | have f2 := trivial
    first | have f3 := Sat.pf (H.t.t.t) | have f3 := trivial
    first | have f4 := Sat.pf (H.t.t.t.t) | have f4 := trivial
    first | have f5 := Sat.pf (H.t.t.t.t.t) | have f5 := trivial
    repeat' first
      | ((with_reducible show Need _); refine need_of ?_; (first | have f0 := Sat.pf (H) | have f0 := trivial); (first | have f1 := Sat.pf (H.t) | have f1 := trivial); (first | have f2 := Sat.pf (H.t.t) | have f2 := trivial); (first | have f3 := Sat.pf (H.t.t.t) | have f3 := trivial); (first | have f4 := Sat.pf (H.t.t.t.t) | have f4 := trivial); (first | have f5 := Sat.pf (H.t.t.t.t.t) | have f5 := trivial))
      | simp -implicitDefEqProofs (disch := first | omega | decide | exact rfl | assumption | exact Nat.le_of_ble_eq_true rfl | exact One.c | exact One.o) only [vsA, vsB, eq_self, if_true, if_false, implies_true, false_implies, evp, HX.ev, Nat.reduceAdd, HOp.looks, Nat.reduceEqDiff, overw, Nat.reduceBEq, one, cel, len, d0, hm, ub14, f0, f1, f2, f3, f4, f5]
      | refine opC_K ?_
      | ((with_reducible show opC (hbuildSlice _ _ _ _ _) _); refine sl_bsliceKM H (by decide) rfl rfl (by decide) rfl rfl ?_; clear H f0 f1 f2 f3 f4 f5; intro y hs H hm; refine need ?_)

    refine HW.loopA mixed (fun t : Nat × HV => (.undef :: .undef :: .undef :: .undef :: .undef :: .undef :: t.2 :: .undef :: .undef :: .undef :: .undef :: .undef :: .undef :: .undef :: .undef :: .undef :: .undef :: .undef :: .undef :: .undef :: .undef :: v :: .int .i64 (L.length : Nat) :: .int .i64 (t.1 : Nat) :: .undef :: .undef :: .undef :: .undef :: .undef :: .undef :: .undef :: .undef :: .undef :: .undef :: .undef :: .undef :: .undef :: [])) (fun t => My 1 t.2 (head9 ++ (L.take t.1).flatMap lineL).length (bcells (head9 ++ (L.take t.1).flatMap lineL)) :: l) (fun t => L.length - t.1) (fun t => t.1 ≤ L.length) (0, y) (Nat.zero_le _) (by (repeat first | exact Less.nil | refine Less.undef _ ?_ | refine Less.keep _ ?_)) H ?_
    clear H
    rintro ⟨j, w⟩ hs hj H
    simp only at hj H
    by_cases h : j < L.length
    · obtain ⟨s, hsx⟩ : ∃ s, L[j]? = some s := ⟨_, List.getElem?_eq_getElem h⟩
      have hlm := line_mem (f := lineL) hsx
      have hll : (lineL s).length = s.length + 3 := by simp [lineL]
      have hwl : (writeL L).length = 4 + (L.flatMap lineL).length := by unfold writeL; rw [List.length_append]; rfl
      obtain ⟨X, hXx⟩ : ∃ X, X = head9 ++ (L.take j).flatMap lineL := ⟨_, rfl⟩
      have hXl : X.length = 4 + ((L.take j).flatMap lineL).length := by rw [hXx, List.length_append]; rfl
      rw [← hXx] at H
      obtain ⟨p, hp1, _⟩ := (R _ H.t).idx1 (sget hsx) .i64
      have hp2 := (R _ H.t).ld1 hp1 (sget hsx)
      have so := (R _ H.t).sOk
      have d0 : decide (((j : Nat) : Int) < ((L.length : Nat) : Int)) = true := decide_eq_true (by omega)
      first | have f0 := Sat.pf (H) | have f0 := trivial
      first | have f1 := Sat.pf (H.t) | have f1 := trivial
      first | have f2 := Sat.pf (H.t.t) | have f2 := trivial
      first | have f3 := Sat.pf (H.t.t.t) | have f3 := trivial
      first | have f4 := Sat.pf (H.t.t.t.t) | have f4 := trivial
      first | have f5 := Sat.pf (H.t.t.t.t.t) | have f5 := trivial
      repeat' first
        | ((with_reducible show Need _); refine need_of ?_; (first | have f0 := Sat.pf (H) | have f0 := trivial); (first | have f1 := Sat.pf (H.t) | have f1 := trivial); (first | have f2 := Sat.pf (H.t.t) | have f2 := trivial); (first | have f3 := Sat.pf (H.t.t.t) | have f3 := trivial); (first | have f4 := Sat.pf (H.t.t.t.t) | have f4 := trivial); (first | have f5 := Sat.pf (H.t.t.t.t.t) | have f5 := trivial))
        | simp -implicitDefEqProofs (disch := first | omega | decide | exact rfl | assumption | exact Nat.le_of_ble_eq_true rfl | exact One.c | exact One.o) only [vsA, vsB, eq_self, if_true, if_false, implies_true, false_implies, evp, HX.ev, Nat.reduceAdd, HOp.looks, Nat.reduceEqDiff, overw, Nat.reduceBEq, one, cel, len, hp1, hp2, so, d0, vadd1, ub14, f0, f1, f2, f3, f4, f5]
        | (clear H f0 f1 f2 f3 f4 f5; (with_reducible intro v2 hs H); (try simp only [setA, overw, Nat.reduceAdd] at H); refine need ?_)
        | refine opC_K ?_
        | ((with_reducible show opC (happend _ _ _ _ _) _); refine sl_append (n := X.length) (xs := bcells X) (m := 2) (ns := bcells [45, 32]) (by with_reducible first | exact H | exact H.p1 | exact H.p2 | exact H.p3 | exact H.p4 | exact H.p5) (takeS (b := [45, 32])) (by first | exact roomFor_of (by omega) | exact roomFor_wide (by omega)) (by omega) ?_; clear H f0 f1 f2 f3 f4 f5; intro v3 hs H; refine need ?_)
        | ((with_reducible show opC (happend _ _ _ _ _) _); refine sl_append (n := X.length + 2) (m := s.length) (ns := bcells s) (by with_reducible first | exact H | exact H.p1 | exact H.p2 | exact H.p3 | exact H.p4 | exact H.p5) takeS (by first | exact roomFor_of (by omega) | exact roomFor_wide (by omega)) (by omega) ?_; clear H f0 f1 f2 f3 f4 f5; intro v4 hs H; refine need ?_)
        | ((with_reducible show opC (happend _ _ _ _ _) _); refine sl_append (n := X.length + 2 + s.length) (m := 1) (ns := bcells [10]) (by with_reducible first | exact H | exact H.p1 | exact H.p2 | exact H.p3 | exact H.p4 | exact H.p5) (by first | assumption | with_reducible first | exact f0.2.1 | exact f1.2.1 | exact f2.2.1 | exact f3.2.1 | exact f4.2.1 | exact f5.2.1 | exact va_takeS) (by first | exact roomFor_of (by omega) | exact roomFor_wide (by omega)) (by omega) ?_; clear H f0 f1 f2 f3 f4 f5; intro v5 hs H; refine need ?_)
        | ((with_reducible show opC (hbuildSlice _ _ _ _ _) _); refine sl_bslice1 H rfl (by first | exact rfl | (simp only [f0, f1, f2, f3, f4, f5]; done) | (simp only [onA, *]; done)) (by first | exact rfl | (simp only [f0, f1, f2, f3, f4, f5]; done) | (simp only [onA, *]; done)) ?_)
        | with_reducible intro hy

      refine ⟨(j + 1, v5), _, by simp only; omega, by simp only; omega, (by (repeat first | exact Less.nil | refine Less.undef _ ?_ | refine Less.keep _ ?_)), Weak.refl _, ?_⟩
      have e : bcells (X ++ lineL s) = bcells X ++ bcells [45, 32] ++ bcells s ++ bcells [10] := by simp [bcells, lineL]
      simp only [takeL_snoc hsx, ← List.append_assoc, ← hXx]
      rw [e, List.length_append, hll, show X.length + (s.length + 3) = X.length + 2 + s.length + 1 by omega]
      exact H
    · obtain rfl : j = L.length := by omega
      rw [List.take_length] at H
      have d0 : decide (((L.length : Nat) : Int) < ((L.length : Nat) : Int)) = false := decide_eq_false (by omega)
      first | have f0 := Sat.pf (H) | have f0 := trivial
      first | have f1 := Sat.pf (H.t) | have f1 := trivial
      first | have f2 := Sat.pf (H.t.t) | have f2 := trivial
      first | have f3 := Sat.pf (H.t.t.t) | have f3 := trivial
      first | have f4 := Sat.pf (H.t.t.t.t) | have f4 := trivial
      first | have f5 := Sat.pf (H.t.t.t.t.t) | have f5 := trivial
      repeat' first
        | simp -implicitDefEqProofs (disch := first | omega | decide | exact rfl | assumption | exact Nat.le_of_ble_eq_true rfl | exact One.c | exact One.o) only [vsA, vsB, eq_self, if_true, if_false, implies_true, false_implies, evp, HX.ev, Nat.reduceAdd, HOp.looks, Nat.reduceEqDiff, overw, Nat.reduceBEq, d0, ub14, f0, f1, f2, f3, f4, f5]

      exact ⟨w, rfl, H⟩
theorem lines_len {b : List UInt8} {ls : List (List UInt8)} (h : linesF b = some ls) : (ls.flatMap fun l => l ++ [10]).length ≤ b.length := by
  obtain ⟨rfl, _⟩ := linesF_iff.1 h
  rw [List.length_append]; omega
theorem lines_write {ls : List (List UInt8)} (h : ls.all (fun s => decide (2 ≤ s.length)) = true) : ((ls.map (·.drop 2)).flatMap lineL).length = (ls.flatMap fun l => l ++ [10]).length := by
  induction ls with
  | nil => rfl
  | cons s ls ih =>
    rw [List.all_cons, Bool.and_eq_true] at h
    have h1 := of_decide_eq_true h.1
    rw [List.map_cons, List.flatMap_cons, List.flatMap_cons, List.length_append, List.length_append, ih h.2]
    simp [lineL]; omega
theorem ls_few {ls : List (List UInt8)} : ls.length ≤ (ls.flatMap fun l => l ++ [10]).length := by
  induction ls with
  | nil => simp
  | cons s ls ih => rw [List.flatMap_cons, List.length_append, List.length_append, List.length_cons]; simp only [List.length_singleton]; omega
theorem readList23 {hs : HS} {l : List SA} {bv : HV} {b : List UInt8} (H : Sat hs l) (R : Rdl l bv b.length (bcells b)) (hb : b.length < 1073741824) :
    HC Tryd.prog 23 [bv] hs fun v hs' => ∃ w, v = .tup [w, .int .i64 (okI (refL b).isSome)] ∧ Sat hs' (My 1 w ((refL b).getD []).length (((refL b).getD []).map HV.str) :: l) := by
  have hmax : maxLen = 9223372036854775807 := rfl
  have one := (R _ H).one
  have cel := (R _ H).cells
  refine HC.wp mixed Tryd.func23 c23 ?_
  cases hln : linesF b with
  | none =>
    have e : refL b = none := by unfold refL; rw [hln]
    rw [e]
    first | have f0 := Sat.pf (H) | have f0 := trivial
    first | have f1 := Sat.pf (H.t) | have f1 := trivial
    first | have f2 := Sat.pf (H.t.t) | have f2 := trivial
    first | have f3 := Sat.pf (H.t.t.t) | have f3 := trivial
    first | have f4 := Sat.pf (H.t.t.t.t) | have f4 := trivial
    first | have f5 := Sat.pf (H.t.t.t.t.t) | have f5 := trivial
    repeat' first
      | ((with_reducible show Need _); refine need_of ?_; (first | have f0 := Sat.pf (H) | have f0 := trivial); (first | have f1 := Sat.pf (H.t) | have f1 := trivial); (first | have f2 := Sat.pf (H.t.t) | have f2 := trivial); (first | have f3 := Sat.pf (H.t.t.t) | have f3 := trivial); (first | have f4 := Sat.pf (H.t.t.t.t) | have f4 := trivial); (first | have f5 := Sat.pf (H.t.t.t.t.t) | have f5 := trivial))
      | simp -implicitDefEqProofs (disch := first | omega | decide | exact rfl | assumption | exact Nat.le_of_ble_eq_true rfl | exact One.c | exact One.o) only [vsA, vsB, eq_self, if_true, if_false, implies_true, false_implies, evp, HX.ev, Nat.reduceAdd, HOp.looks, Nat.reduceEqDiff, overw, Nat.reduceBEq, h23, one, cel, ub23, f0, f1, f2, f3, f4, f5, frame0, List.replicate, Nat.sub]
      | ((with_reducible show actK _ (HAct.call (HX.cst (HV.func (Fn.func 43) _ _)) _) _ _ _ _ _); refine vcall_of ok43 rfl (lines43 H R hb) ?_;  clear H f0 f1 f2 f3 f4 f5; intro v hs h; rw [hln] at h; obtain ⟨w, rfl, H⟩ := h; simp only [Option.getD_none, Option.isSome_none] at H ⊢; refine need ?_)

    exact ⟨.nilSlice, rfl, H.t.own0⟩
  | some ls =>
    have hl1 := lines_len hln
    have hl2 := ls_few (ls := ls)
    have lw := True.intro
    have ow := True.intro
    have owc := True.intro
    first | have f0 := Sat.pf (H) | have f0 := trivial
    first | have f1 := Sat.pf (H.t) | have f1 := trivial
    first | have f2 := Sat.pf (H.t.t) | have f2 := trivial
    first | have f3 := Sat.pf (H.t.t.t) | have f3 := trivial
    first | have f4 := Sat.pf (H.t.t.t.t) | have f4 := trivial
    first | have f5 := Sat.pf (H.t.t.t.t.t) | have f5 := trivial
    repeat' first
      | ((with_reducible show Need _); refine need_of ?_; (first | have f0 := Sat.pf (H) | have f0 := trivial); (first | have f1 := Sat.pf (H.t) | have f1 := trivial); (first | have f2 := Sat.pf (H.t.t) | have f2 := trivial); (first | have f3 := Sat.pf (H.t.t.t) | have f3 := trivial); (first | have f4 := Sat.pf (H.t.t.t.t) | have f4 := trivial); (first | have f5 := Sat.pf (H.t.t.t.t.t) | have f5 := trivial))
      | simp -implicitDefEqProofs (disch := first | omega | decide | exact rfl | assumption | exact Nat.le_of_ble_eq_true rfl | exact One.c | exact One.o) only [vsA, vsB, eq_self, if_true, if_false, implies_true, false_implies, evp, HX.ev, Nat.reduceAdd, HOp.looks, Nat.reduceEqDiff, overw, Nat.reduceBEq, h23, one, cel, lw, ow, owc, ub23, f0, f1, f2, f3, f4, f5, frame0, List.replicate, Nat.sub]
      | ((with_reducible show actK _ (HAct.call (HX.cst (HV.func (Fn.func 43) _ _)) _) _ _ _ _ _); refine vcall_of ok43 rfl (lines43 H R hb) ?_;  clear H f0 f1 f2 f3 f4 f5; intro v hs h; rw [hln] at h; obtain ⟨w, rfl, H⟩ := h; simp only [Option.getD_some, Option.isSome_some] at H ⊢; have lw := H.rd.len; have ow := H.rd.one; have owc := H.rd.cells; refine need ?_)

    refine HW.loopA mixed (fun t : Nat × HV => (bv :: .undef :: .undef :: .undef :: .undef :: .undef :: t.2 :: .undef :: .undef :: .undef :: .undef :: .undef :: .undef :: .undef :: .undef :: .undef :: .undef :: .undef :: w :: .int .i64 (ls.length : Nat) :: .int .i64 (t.1 : Nat) :: .undef :: .undef :: .undef :: .undef :: .undef :: .undef :: .undef :: .undef :: .undef :: .undef :: .undef :: .undef :: .undef :: .undef :: .undef :: .undef :: .undef :: .undef :: .undef :: .undef :: .undef :: .undef :: .undef :: .undef :: .undef :: .undef :: [])) (fun t => My 1 t.2 t.1 (((ls.take t.1).map (·.drop 2)).map HV.str) :: My 1 w ls.length (ls.map HV.str) :: l) (fun t => ls.length - t.1) (fun t => t.1 ≤ ls.length ∧ (ls.take t.1).all (fun s => decide (2 ≤ s.length)) = true) (0, .nilSlice) ⟨Nat.zero_le _, rfl⟩ (by (repeat first | exact Less.nil | refine Less.undef _ ?_ | refine Less.keep _ ?_)) H.own0 ?_
    clear H
    rintro ⟨i, w2⟩ hs ⟨hi, ha⟩ H
    simp only at hi ha H
    have ow2 := H.rd.one
    have owc2 := H.rd.cells
    by_cases h : i < ls.length
    · obtain ⟨s, hsx⟩ : ∃ s, ls[i]? = some s := ⟨_, List.getElem?_eq_getElem h⟩
      obtain ⟨p, hp1, _⟩ := (H.t.rd).idx1 (sget hsx) .i64
      have hp2 := (H.t.rd).ld1 hp1 (sget hsx)
      have so := H.t.rd.sOk
      have d0 : decide (((i : Nat) : Int) < ((ls.length : Nat) : Int)) = true := decide_eq_true (by omega)
      by_cases h2 : s.length < 2
      · have d1 : decide (((s.length : Nat) : Int) < 2) = true := decide_eq_true (by omega)
        have e : refL b = none := by
          unfold refL; rw [hln]; simp only
          rw [if_neg]
          rintro ⟨hh, _⟩
          have := of_decide_eq_true (List.all_eq_true.1 hh s (List.mem_of_getElem? hsx))
          omega
        rw [e]
        first | have f0 := Sat.pf (H) | have f0 := trivial
        first | have f1 := Sat.pf (H.t) | have f1 := trivial
        first | have f2 := Sat.pf (H.t.t) | have f2 := trivial
        first | have f3 := Sat.pf (H.t.t.t) | have f3 := trivial
        first | have f4 := Sat.pf (H.t.t.t.t) | have f4 := trivial
        first | have f5 := Sat.pf (H.t.t.t.t.t) | have f5 := trivial
        repeat' first
          | simp -implicitDefEqProofs (disch := first | omega | decide | exact rfl | assumption | exact Nat.le_of_ble_eq_true rfl | exact One.c | exact One.o) only [vsA, vsB, eq_self, if_true, if_false, implies_true, false_implies, evp, HX.ev, Nat.reduceAdd, HOp.looks, Nat.reduceEqDiff, overw, Nat.reduceBEq, ow2, owc2, hp1, hp2, so, d0, d1, vadd1, ub23, f0, f1, f2, f3, f4, f5]

        exact ⟨.nilSlice, rfl, H.t.t.own0⟩
      · have d1 : decide (((s.length : Nat) : Int) < 2) = false := decide_eq_false (by omega)
        have ess : hsliceStr (.str s) (some (.int .i64 2)) none = some (.str (s.drop 2)) := vss_lo (b := s) (lo := 2) (j := .i64) (by omega)
        first | have f0 := Sat.pf (H) | have f0 := trivial
        first | have f1 := Sat.pf (H.t) | have f1 := trivial
        first | have f2 := Sat.pf (H.t.t) | have f2 := trivial
        first | have f3 := Sat.pf (H.t.t.t) | have f3 := trivial
        first | have f4 := Sat.pf (H.t.t.t.t) | have f4 := trivial
        first | have f5 := Sat.pf (H.t.t.t.t.t) | have f5 := trivial
        repeat' first
          | ((with_reducible show Need _); refine need_of ?_; (first | have f0 := Sat.pf (H) | have f0 := trivial); (first | have f1 := Sat.pf (H.t) | have f1 := trivial); (first | have f2 := Sat.pf (H.t.t) | have f2 := trivial); (first | have f3 := Sat.pf (H.t.t.t) | have f3 := trivial); (first | have f4 := Sat.pf (H.t.t.t.t) | have f4 := trivial); (first | have f5 := Sat.pf (H.t.t.t.t.t) | have f5 := trivial))
          | simp -implicitDefEqProofs (disch := first | omega | decide | exact rfl | assumption | exact Nat.le_of_ble_eq_true rfl | exact One.c | exact One.o) only [vsA, vsB, eq_self, if_true, if_false, implies_true, false_implies, evp, HX.ev, Nat.reduceAdd, HOp.looks, Nat.reduceEqDiff, overw, Nat.reduceBEq, ow2, owc2, hp1, hp2, so, d0, d1, ess, vadd1, ub23, f0, f1, f2, f3, f4, f5]
          | (clear H f0 f1 f2 f3 f4 f5; (with_reducible intro v2 hs H); (try simp only [setA, overw, Nat.reduceAdd] at H); refine need ?_)
          | refine opC_K ?_
          | ((with_reducible show opC (happend _ _ _ _ _) _); refine sl_append (by with_reducible first | exact H | exact H.p1 | exact H.p2 | exact H.p3 | exact H.p4 | exact H.p5) (by first | assumption | with_reducible first | exact f0.2.1 | exact f1.2.1 | exact f2.2.1 | exact f3.2.1 | exact f4.2.1 | exact f5.2.1 | exact va_takeS) (by first | exact roomFor_of (by omega) | exact roomFor_wide (by omega)) (by omega) ?_)
          | ((with_reducible show opC (hbuildSlice _ _ _ _ _) _); refine sl_bslice1 H rfl (by first | exact rfl | (simp only [f0, f1, f2, f3, f4, f5]; done) | (simp only [onA, *]; done)) (by first | exact rfl | (simp only [f0, f1, f2, f3, f4, f5]; done) | (simp only [onA, *]; done)) ?_)
          | with_reducible intro hy

        refine ⟨(i + 1, v2), _, by simp only; omega, ⟨by simp only; omega, ?_⟩, (by (repeat first | exact Less.nil | refine Less.undef _ ?_ | refine Less.keep _ ?_)), Weak.refl _, ?_⟩
        · simp only
          rw [List.take_add_one, hsx, List.all_append, ha]; simp; omega
        · simp only [List.take_add_one, hsx, List.map_append, Option.toList_some, List.map_cons, List.map_nil]
          exact H
    · obtain rfl : i = ls.length := by omega
      rw [List.take_length] at ha H
      obtain ⟨O, hO⟩ : ∃ O, O = ls.map (·.drop 2) := ⟨_, rfl⟩
      have hOl : O.length = ls.length := by rw [hO, List.length_map]
      rw [← hO, ← hOl] at H
      have hwl := lines_write ha
      rw [← hO] at hwl
      have hwX : (writeL O).length = 4 + (O.flatMap lineL).length := by unfold writeL; rw [List.length_append]; rfl
      have d0 : decide (((ls.length : Nat) : Int) < ((ls.length : Nat) : Int)) = false := decide_eq_false (by omega)
      have hL14 := fun hs (h : Sat hs _) => List14 (hs := hs) (l := My 1 w2 O.length (O.map HV.str) :: My 1 w O.length (ls.map HV.str) :: l) (v := w2) (L := O) h (fun _ h => h.rd) (by omega) (by omega)
      cases hp : O.all plainB with
      | false =>
        have e : refL b = none := by
          unfold refL; rw [hln]; simp only
          rw [if_neg]
          rintro ⟨_, hh, _⟩
          rw [← hO, hp] at hh; cases hh
        rw [e]
        rw [hp] at hL14
        simp only [Bool.false_eq_true, if_false] at hL14
        first | have f0 := Sat.pf (H) | have f0 := trivial
        first | have f1 := Sat.pf (H.t) | have f1 := trivial
        first | have f2 := Sat.pf (H.t.t) | have f2 := trivial
        first | have f3 := Sat.pf (H.t.t.t) | have f3 := trivial
        first | have f4 := Sat.pf (H.t.t.t.t) | have f4 := trivial
        first | have f5 := Sat.pf (H.t.t.t.t.t) | have f5 := trivial
        repeat' first
          | ((with_reducible show Need _); refine need_of ?_; (first | have f0 := Sat.pf (H) | have f0 := trivial); (first | have f1 := Sat.pf (H.t) | have f1 := trivial); (first | have f2 := Sat.pf (H.t.t) | have f2 := trivial); (first | have f3 := Sat.pf (H.t.t.t) | have f3 := trivial); (first | have f4 := Sat.pf (H.t.t.t.t) | have f4 := trivial); (first | have f5 := Sat.pf (H.t.t.t.t.t) | have f5 := trivial))
          | simp -implicitDefEqProofs (disch := first | omega | decide | exact rfl | assumption | exact Nat.le_of_ble_eq_true rfl | exact One.c | exact One.o) only [vsA, vsB, eq_self, if_true, if_false, implies_true, false_implies, evp, HX.ev, Nat.reduceAdd, HOp.looks, Nat.reduceEqDiff, overw, Nat.reduceBEq, ow2, owc2, d0, ub23, f0, f1, f2, f3, f4, f5]
          | (refine guardK_cases (fun h => ?_) (fun h => ?_) <;> (try simp only [h]) <;> (try simp only [athA, ne_eq] at h) <;> (try (exfalso; omega)))
          | ((with_reducible show actK _ (HAct.call (HX.cst (HV.func (Fn.func 14) _ _)) _) _ _ _ _ _); refine vcall_of ok14 rfl (hL14 _ H) ?_;  clear H f0 f1 f2 f3 f4 f5; rintro v hs ⟨w3, rfl, H⟩; refine need ?_)

        exact ⟨.nilSlice, rfl, H.t.t.t.own0⟩
      | true =>
        rw [hp] at hL14
        simp only [if_true] at hL14
        have o3 := True.intro
        have c3 := True.intro
        cases hq : (writeL O == b) with
        | false =>
          have e : refL b = none := by
            unfold refL; rw [hln]; simp only
            rw [if_neg]
            rintro ⟨_, _, hh⟩
            rw [← hO] at hh; rw [hh] at hq; simp at hq
          rw [e]
          first | have f0 := Sat.pf (H) | have f0 := trivial
          first | have f1 := Sat.pf (H.t) | have f1 := trivial
          first | have f2 := Sat.pf (H.t.t) | have f2 := trivial
          first | have f3 := Sat.pf (H.t.t.t) | have f3 := trivial
          first | have f4 := Sat.pf (H.t.t.t.t) | have f4 := trivial
          first | have f5 := Sat.pf (H.t.t.t.t.t) | have f5 := trivial
          repeat' first
            | ((with_reducible show Need _); refine need_of ?_; (first | have f0 := Sat.pf (H) | have f0 := trivial); (first | have f1 := Sat.pf (H.t) | have f1 := trivial); (first | have f2 := Sat.pf (H.t.t) | have f2 := trivial); (first | have f3 := Sat.pf (H.t.t.t) | have f3 := trivial); (first | have f4 := Sat.pf (H.t.t.t.t) | have f4 := trivial); (first | have f5 := Sat.pf (H.t.t.t.t.t) | have f5 := trivial))
            | simp -implicitDefEqProofs (disch := first | omega | decide | exact rfl | assumption | exact Nat.le_of_ble_eq_true rfl | exact One.c | exact One.o) only [vsA, vsB, eq_self, if_true, if_false, implies_true, false_implies, evp, HX.ev, Nat.reduceAdd, HOp.looks, Nat.reduceEqDiff, overw, Nat.reduceBEq, ow2, owc2, d0, one, cel, o3, c3, Bool.not_false, Bool.not_true, ub23, f0, f1, f2, f3, f4, f5]
            | ((with_reducible show actK _ (HAct.call (HX.cst (HV.func (Fn.func 14) _ _)) _) _ _ _ _ _); refine vcall_of ok14 rfl (hL14 _ H) ?_;  clear H f0 f1 f2 f3 f4 f5; rintro v hs ⟨w3, rfl, H⟩; have o3 := H.rd.one; have c3 := H.rd.cells; refine need ?_)
            | ((with_reducible show actK _ (HAct.call (HX.cst (HV.func (Fn.func 44) _ _)) _) _ _ _ _ _); refine vcall_of ok44 rfl (same44 H.rd (R _ H.t.t.t) (by omega) (by omega)) ?_;  (rw [hq]; rintro _ _ ⟨rfl, rfl⟩))

          exact ⟨.nilSlice, rfl, H.t.t.t.own0⟩
        | true =>
          have e : refL b = some O := by
            unfold refL; rw [hln]; simp only
            rw [← hO, if_pos ⟨ha, hp, by simpa using hq⟩]
          rw [e]
          first | have f0 := Sat.pf (H) | have f0 := trivial
          first | have f1 := Sat.pf (H.t) | have f1 := trivial
          first | have f2 := Sat.pf (H.t.t) | have f2 := trivial
          first | have f3 := Sat.pf (H.t.t.t) | have f3 := trivial
          first | have f4 := Sat.pf (H.t.t.t.t) | have f4 := trivial
          first | have f5 := Sat.pf (H.t.t.t.t.t) | have f5 := trivial
          repeat' first
            | ((with_reducible show Need _); refine need_of ?_; (first | have f0 := Sat.pf (H) | have f0 := trivial); (first | have f1 := Sat.pf (H.t) | have f1 := trivial); (first | have f2 := Sat.pf (H.t.t) | have f2 := trivial); (first | have f3 := Sat.pf (H.t.t.t) | have f3 := trivial); (first | have f4 := Sat.pf (H.t.t.t.t) | have f4 := trivial); (first | have f5 := Sat.pf (H.t.t.t.t.t) | have f5 := trivial))
            | simp -implicitDefEqProofs (disch := first | omega | decide | exact rfl | assumption | exact Nat.le_of_ble_eq_true rfl | exact One.c | exact One.o) only [vsA, vsB, eq_self, if_true, if_false, implies_true, false_implies, evp, HX.ev, Nat.reduceAdd, HOp.looks, Nat.reduceEqDiff, overw, Nat.reduceBEq, ow2, owc2, d0, one, cel, o3, c3, Bool.not_false, Bool.not_true, ub23, f0, f1, f2, f3, f4, f5]
            | ((with_reducible show actK _ (HAct.call (HX.cst (HV.func (Fn.func 14) _ _)) _) _ _ _ _ _); refine vcall_of ok14 rfl (hL14 _ H) ?_;  clear H f0 f1 f2 f3 f4 f5; rintro v hs ⟨w3, rfl, H⟩; have o3 := H.rd.one; have c3 := H.rd.cells; refine need ?_)
            | ((with_reducible show actK _ (HAct.call (HX.cst (HV.func (Fn.func 44) _ _)) _) _ _ _ _ _); refine vcall_of ok44 rfl (same44 H.rd (R _ H.t.t.t) (by omega) (by omega)) ?_;  (rw [hq]; rintro _ _ ⟨rfl, rfl⟩))

          exact ⟨w2, rfl, H.t.d1⟩
end A
end Go.Proofs.YteedmbmgemiheaaDoor
namespace Go.Proofs.YteedmbmgemiheaaDoor
open Go Go.HL Go.Shelf Y
namespace A
set_option maxRecDepth 100000
set_option maxHeartbeats 40000000
set_option linter.unusedSimpArgs false
attribute [local irreducible] pt My Ex Vw Gr GrK each grp exs Sat takeCells happend hbuildSlice hstore hbox hslice hmakeSlice hs2b hcopy HL.unit opC
theorem dictOk_cons {out : List Pr} {p : Pr} {D : List Pr} : dictOk out (p :: D) = (rightB p.1 && !(hasB out p.1) && plainB p.2 && decide (out.length < 256) && dictOk (out ++ [p]) D) := rfl
theorem dictOk_app : ∀ {E F out : List Pr}, dictOk out (E ++ F) = (dictOk out E && dictOk (out ++ E) F)
  | [], F, out => by simp [dictOk]
  | p :: E, F, out => by
    rw [List.cons_append, dictOk_cons, dictOk_cons, dictOk_app (E := E) (F := F)]
    simp [Bool.and_assoc]
theorem dictOk_one {out : List Pr} {p : Pr} : dictOk out [p] = (rightB p.1 && !(hasB out p.1) && plainB p.2 && decide (out.length < 256)) := by
  unfold dictOk; simp [dictOk]
theorem dict_bad {D : List Pr} {i : Nat} {p : Pr} (h : D[i]? = some p) (hb : (rightB p.1 && !(hasB (D.take i) p.1) && plainB p.2) = false) : dictB D = false := by
  unfold dictB
  have e : D = D.take i ++ ([p] ++ D.drop (i + 1)) := by
    conv => lhs; rw [← List.take_append_drop i D]
    rw [List.drop_eq_getElem_cons (lt_of_get h)]
    rw [List.getElem?_eq_getElem (lt_of_get h)] at h
    rw [Option.some.inj h]; rfl
  have e2 : dictOk [] D = false := by
    rw [e, dictOk_app, dictOk_app, dictOk_one, List.nil_append, hb]; simp
  rw [e2]; simp
theorem dict_snoc {D : List Pr} {i : Nat} {p : Pr} (h : D[i]? = some p) (hi : i < 256) (ha : dictOk [] (D.take i) = true) (hb : (rightB p.1 && !(hasB (D.take i) p.1) && plainB p.2) = true) : dictOk [] (D.take (i + 1)) = true := by
  rw [List.take_add_one, h, Option.toList_some, dictOk_app, ha, dictOk_one, List.nil_append, hb]
  have : (D.take i).length = i := by rw [List.length_take]; have := lt_of_get h; omega
  simp [this, hi]
theorem dict_none (D : List Pr) (h : 256 < D.length) : dictB D = false := by
  unfold dictB
  rw [decide_eq_false (by omega)]; rfl
def dE (D : List Pr) (code : Int) : Prop := (dictB D = true ∧ code = 0) ∨ (dictB D = false ∧ code ≠ 0)
def dX (D : List Pr) : List UInt8 := if dictB D = true then writeD D else []
theorem dX_no {D : List Pr} (h : dictB D = false) : dX D = [] := by unfold dX; rw [if_neg (by rw [h]; simp)]
theorem Dict20 {hs : HS} {l : List SA} {v : HV} {D : List Pr} (H : Sat hs l) (R : ∀ hs, Sat hs l → Rd hs 2 v D.length (D.flatMap prC)) (hX : (writeD D).length < 1099511627776) (hL : D.length < 1099511627776) :
    HC Tryd.prog 20 [v] hs fun r hs' => ∃ w code, r = .tup [w, .int .i64 code] ∧ dE D code ∧ Sat hs' (My 1 w (dX D).length (bcells (dX D)) :: l) := by
  have hmax : maxLen = 9223372036854775807 := rfl
  have one := (R _ H).one
  have cel := (R _ H).cells
  have len := (R _ H).len
  refine HC.wp mixed Tryd.func20 c20 ?_
  by_cases hbig : 256 < D.length
  · have d0 : decide ((256 : Int) < ((D.length : Nat) : Int)) = true := decide_eq_true (by omega)
    have hno := dict_none D hbig
    first | have f0 := Sat.pf (H) | have f0 := trivial
    first | have f1 := Sat.pf (H.t) | have f1 := trivial
    first | have f2 := Sat.pf (H.t.t) | have f2 := trivial
    first | have f3 := Sat.pf (H.t.t.t) | have f3 := trivial
    first | have f4 := Sat.pf (H.t.t.t.t) | have f4 := trivial
    first | have f5 := Sat.pf (H.t.t.t.t.t) | have f5 := trivial
    first | have f6 := Sat.pf (H.t.t.t.t.t.t) | have f6 := trivial
    first | have f7 := Sat.pf (H.t.t.t.t.t.t.t) | have f7 := trivial
    repeat' first
      | simp -implicitDefEqProofs (disch := first | omega | decide | exact rfl | assumption | exact Nat.le_of_ble_eq_true rfl | exact One.c | exact One.o) only [vsA, vsB, eq_self, if_true, if_false, implies_true, false_implies, evp, HX.ev, Nat.reduceAdd, HOp.looks, Nat.reduceEqDiff, overw, Nat.reduceBEq, h20, one, cel, len, d0, ub20, f0, f1, f2, f3, f4, f5, f6, f7, frame0, List.replicate, Nat.sub]

    exact ⟨.nilSlice, 1, rfl, .inr ⟨hno, by decide⟩, by rw [dX_no hno]; exact H.own0⟩
  have d0 : decide ((256 : Int) < ((D.length : Nat) : Int)) = false := decide_eq_false (by omega)
  have hm := True.intro
  first | have f0 := Sat.pf (H) | have f0 := trivial
  first | have f1 := Sat.pf (H.t) | have f1 := trivial
  first | have f2 := Sat.pf (H.t.t) | have f2 := trivial
  first | have f3 := Sat.pf (H.t.t.t) | have f3 := trivial
  first | have f4 := Sat.pf (H.t.t.t.t) | have f4 := trivial
  first | have f5 := Sat.pf (H.t.t.t.t.t) | have f5 := trivial
  first | have f6 := Sat.pf (H.t.t.t.t.t.t) | have f6 := trivial
  first | have f7 := Sat.pf (H.t.t.t.t.t.t.t) | have f7 := trivial
  repeat' first
    | ((with_reducible show Need _); refine need_of ?_; (first | have f0 := Sat.pf (H) | have f0 := trivial); (first | have f1 := Sat.pf (H.t) | have f1 := trivial); (first | have f2 := Sat.pf (H.t.t) | have f2 := trivial); (first | have f3 := Sat.pf (H.t.t.t) | have f3 := trivial); (first | have f4 := Sat.pf (H.t.t.t.t) | have f4 := trivial); (first | have f5 := Sat.pf (H.t.t.t.t.t) | have f5 := trivial); (first | have f6 := Sat.pf (H.t.t.t.t.t.t) | have f6 := trivial); (first | have f7 := Sat.pf (H.t.t.t.t.t.t.t) | have f7 := trivial))
    | simp -implicitDefEqProofs (disch := first | omega | decide | exact rfl | assumption | exact Nat.le_of_ble_eq_true rfl | exact One.c | exact One.o) only [vsA, vsB, eq_self, if_true, if_false, implies_true, false_implies, evp, HX.ev, Nat.reduceAdd, HOp.looks, Nat.reduceEqDiff, overw, Nat.reduceBEq, h20, one, cel, len, d0, hm, ub20, f0, f1, f2, f3, f4, f5, f6, f7, frame0, List.replicate, Nat.sub]
    | refine opC_K ?_
    | ((with_reducible show opC (hbuildSlice _ _ _ _ _) _); refine sl_bsliceKM H (by decide) rfl rfl (by decide) rfl rfl ?_; clear H f0 f1 f2 f3 f4 f5 f6 f7; intro y hs H hm; refine need ?_)

  refine HW.loopA mixed (fun t : Nat × HV => (v :: .undef :: .undef :: .undef :: t.2 :: .undef :: .undef :: .undef :: .undef :: .undef :: .undef :: .undef :: .undef :: .undef :: v :: .int .i64 (D.length : Nat) :: .int .i64 (t.1 : Nat) :: .undef :: .undef :: .undef :: .undef :: .undef :: .undef :: .undef :: .undef :: .undef :: .undef :: .undef :: .undef :: .undef :: .undef :: .undef :: .undef :: .undef :: .undef :: .undef :: .undef :: .undef :: .undef :: .undef :: .undef :: .undef :: .undef :: .undef :: .undef :: .undef :: .undef :: .undef :: .undef :: .undef :: .undef :: .undef :: .undef :: .undef :: .undef :: .undef :: .undef :: .undef :: [])) (fun t => My 1 t.2 (head9 ++ (D.take t.1).flatMap lineD).length (bcells (head9 ++ (D.take t.1).flatMap lineD)) :: l) (fun t => D.length - t.1) (fun t => t.1 ≤ D.length ∧ dictOk [] (D.take t.1) = true) (0, y) ⟨Nat.zero_le _, rfl⟩ (by (repeat first | exact Less.nil | refine Less.undef _ ?_ | refine Less.keep _ ?_)) H ?_
  clear H
  rintro ⟨i, w⟩ hs ⟨hi, ha⟩ H
  simp only at hi ha H
  have hwX : (writeD D).length = 4 + (D.flatMap lineD).length := by unfold writeD; rw [List.length_append]; rfl
  by_cases h : i < D.length
  · obtain ⟨p, hp⟩ : ∃ p, D[i]? = some p := ⟨_, List.getElem?_eq_getElem h⟩
    have hlm := line_mem (f := lineD) hp
    have hll : (lineD p).length = p.1.length + p.2.length + 3 := by simp [lineD]; omega
    obtain ⟨X, hXx⟩ : ∃ X, X = head9 ++ (D.take i).flatMap lineD := ⟨_, rfl⟩
    have hXl : X.length = 4 + ((D.take i).flatMap lineD).length := by rw [hXx, List.length_append]; rfl
    rw [← hXx] at H
    obtain ⟨hh, oo, hix, _, hld⟩ := (R _ H.t).idxF (s := 2) (fun _ => rfl) rfl hp .i64
    unfold prC at hld
    have so := (R _ H.t).sOk
    have d1 : decide (((i : Nat) : Int) < ((D.length : Nat) : Int)) = true := decide_eq_true (by omega)
    obtain ⟨z, hz, rz⟩ := (R _ H.t).cut (lo := 0) (hi := i) Lo.none (Hi.some (k := .i64)) (Nat.zero_le _) (by omega)
    have oz1 := rz.one
    have oz2 := rz.cells
    have lz := rz.len
    rw [Nat.sub_zero] at lz
    have rzz : ∀ hs, Sat hs l → Rd hs 2 z (D.take i).length ((D.take i).flatMap prC) := fun hs H => by
      obtain ⟨z2, hz2, rz2⟩ := (R _ H).cut (lo := 0) (hi := i) Lo.none (Hi.some (k := .i64)) (Nat.zero_le _) (by omega)
      rw [hz] at hz2; cases hz2
      rw [Nat.sub_zero, Nat.zero_mul, List.drop_zero] at rz2
      have e : (D.take i).flatMap prC = (D.flatMap prC).take (i * 2) := by
        have h1 : (D.flatMap prC) = (D.take i).flatMap prC ++ (D.drop i).flatMap prC := by rw [← List.flatMap_append, List.take_append_drop]
        have h2 : ((D.take i).flatMap prC).length = i * 2 := by rw [flat_len (s := 2) (fun _ => rfl), List.length_take, Nat.min_eq_left (by omega)]
        rw [h1, ← h2, List.take_left]
      rw [e, List.length_take, Nat.min_eq_left (by omega)]
      exact rz2
    have hk := fun hs => key39 (hs := hs) p.1 (by omega)
    cases er : rightB p.1 with
    | false =>
      have hno := dict_bad hp (by rw [er]; rfl)
      simp only [er] at hk
      first | have f0 := Sat.pf (H) | have f0 := trivial
      first | have f1 := Sat.pf (H.t) | have f1 := trivial
      first | have f2 := Sat.pf (H.t.t) | have f2 := trivial
      first | have f3 := Sat.pf (H.t.t.t) | have f3 := trivial
      first | have f4 := Sat.pf (H.t.t.t.t) | have f4 := trivial
      first | have f5 := Sat.pf (H.t.t.t.t.t) | have f5 := trivial
      first | have f6 := Sat.pf (H.t.t.t.t.t.t) | have f6 := trivial
      first | have f7 := Sat.pf (H.t.t.t.t.t.t.t) | have f7 := trivial
      repeat' first
        | ((with_reducible show Need _); refine need_of ?_; (first | have f0 := Sat.pf (H) | have f0 := trivial); (first | have f1 := Sat.pf (H.t) | have f1 := trivial); (first | have f2 := Sat.pf (H.t.t) | have f2 := trivial); (first | have f3 := Sat.pf (H.t.t.t) | have f3 := trivial); (first | have f4 := Sat.pf (H.t.t.t.t) | have f4 := trivial); (first | have f5 := Sat.pf (H.t.t.t.t.t) | have f5 := trivial); (first | have f6 := Sat.pf (H.t.t.t.t.t.t) | have f6 := trivial); (first | have f7 := Sat.pf (H.t.t.t.t.t.t.t) | have f7 := trivial))
        | simp -implicitDefEqProofs (disch := first | omega | decide | exact rfl | assumption | exact Nat.le_of_ble_eq_true rfl | exact One.c | exact One.o) only [vsA, vsB, eq_self, if_true, if_false, implies_true, false_implies, evp, HX.ev, Nat.reduceAdd, HOp.looks, Nat.reduceEqDiff, overw, Nat.reduceBEq, one, cel, len, hix, hld, so, d1, vadd1, va_ldA, va_loadA, ub20, f0, f1, f2, f3, f4, f5, f6, f7]
        | (clear H f0 f1 f2 f3 f4 f5 f6 f7; (with_reducible intro v2 hs H); (try simp only [setA, overw, Nat.reduceAdd] at H); refine need ?_)
        | ((with_reducible show actK _ (HAct.call (HX.cst (HV.func (Fn.func 39) _ _)) _) _ _ _ _ _); refine vcall_of ok39 rfl (hk _) ?_; rintro _ _ ⟨rfl, rfl⟩)
        | refine opC_K ?_
        | ((with_reducible show opC (unit (hstore _ _ _ _)) _); refine sl_storeN (by with_reducible first | exact H | exact H.p1 | exact H.p2 | exact H.p3 | exact H.p4 | exact H.p5 | exact H.p6 | exact H.p7) rfl (Nat.le_of_ble_eq_true rfl) (by first | exact rfl | (simp only [f0, f1, f2, f3, f4, f5, f6, f7]; done) | (simp only [onA, *]; done)) ?_)
        | ((with_reducible show opC (hbox _ _) _); refine sl_boxA H (by first | exact rfl | (simp only [f0, f1, f2, f3, f4, f5, f6, f7]; done) | (simp only [onA, *]; done)) ?_)

      exact ⟨.nilSlice, 90, rfl, .inr ⟨hno, by decide⟩, by rw [dX_no hno]; exact H.t.t.own0⟩
    | true =>
      simp only [er] at hk
      first | have f0 := Sat.pf (H) | have f0 := trivial
      first | have f1 := Sat.pf (H.t) | have f1 := trivial
      first | have f2 := Sat.pf (H.t.t) | have f2 := trivial
      first | have f3 := Sat.pf (H.t.t.t) | have f3 := trivial
      first | have f4 := Sat.pf (H.t.t.t.t) | have f4 := trivial
      first | have f5 := Sat.pf (H.t.t.t.t.t) | have f5 := trivial
      first | have f6 := Sat.pf (H.t.t.t.t.t.t) | have f6 := trivial
      first | have f7 := Sat.pf (H.t.t.t.t.t.t.t) | have f7 := trivial
      repeat' first
        | ((with_reducible show Need _); refine need_of ?_; (first | have f0 := Sat.pf (H) | have f0 := trivial); (first | have f1 := Sat.pf (H.t) | have f1 := trivial); (first | have f2 := Sat.pf (H.t.t) | have f2 := trivial); (first | have f3 := Sat.pf (H.t.t.t) | have f3 := trivial); (first | have f4 := Sat.pf (H.t.t.t.t) | have f4 := trivial); (first | have f5 := Sat.pf (H.t.t.t.t.t) | have f5 := trivial); (first | have f6 := Sat.pf (H.t.t.t.t.t.t) | have f6 := trivial); (first | have f7 := Sat.pf (H.t.t.t.t.t.t.t) | have f7 := trivial); (first | have so := (R _ (by with_reducible first | exact H.t | exact H.t.t | exact H.t.t.t | exact H.t.t.t.t | exact H.t.t.t.t.t | exact H.t.t.t.t.t.t | exact H.t.t.t.t.t.t.t | exact H.t.t.t.t.t.t.t.t)).sOk | skip))
        | simp -implicitDefEqProofs (disch := first | omega | decide | exact rfl | assumption | exact Nat.le_of_ble_eq_true rfl | exact One.c | exact One.o) only [vsA, vsB, eq_self, if_true, if_false, implies_true, false_implies, evp, HX.ev, Nat.reduceAdd, HOp.looks, Nat.reduceEqDiff, overw, Nat.reduceBEq, one, cel, len, hix, hld, so, d1, hz, oz1, oz2, lz, vadd1, va_ldA, va_loadA, ub20, f0, f1, f2, f3, f4, f5, f6, f7]
        | (clear H f0 f1 f2 f3 f4 f5 f6 f7; (with_reducible intro v2 hs H); (try simp only [setA, overw, Nat.reduceAdd] at H); refine need ?_)
        | ((with_reducible show actK _ (HAct.call (HX.cst (HV.func (Fn.func 39) _ _)) _) _ _ _ _ _); refine vcall_of ok39 rfl (hk _) ?_; rintro _ _ ⟨rfl, rfl⟩)
        | refine opC_K ?_
        | ((with_reducible show opC (hbox _ _) _); refine sl_boxA (cells := [.str [], .str []]) H (by first | exact rfl | (simp only [f0, f1, f2, f3, f4, f5, f6, f7]; done) | (simp only [onA, *]; done)) ?_; clear H f0 f1 f2 f3 f4 f5 f6 f7; intro q hs H; refine need ?_)
        | ((with_reducible show opC (unit (hstore _ _ _ _)) _); refine sl_storeN (by with_reducible first | exact H | exact H.p1 | exact H.p2 | exact H.p3 | exact H.p4 | exact H.p5 | exact H.p6 | exact H.p7) rfl (Nat.le_of_ble_eq_true rfl) (by first | exact rfl | (simp only [f0, f1, f2, f3, f4, f5, f6, f7]; done) | (simp only [onA, *]; done)) ?_)

      refine HW.loopA mixed (fun j : Nat => (v :: .undef :: .undef :: .undef :: w :: .int .i64 (i : Nat) :: .ptr q 0 :: .undef :: .undef :: .undef :: .undef :: .undef :: .undef :: .undef :: v :: .int .i64 (D.length : Nat) :: .int .i64 (i : Nat) :: .undef :: .undef :: .undef :: .undef :: .undef :: .undef :: .undef :: .undef :: .undef :: .undef :: z :: .int .i64 (i : Nat) :: .int .i64 (j : Nat) :: .undef :: .undef :: .undef :: .undef :: .undef :: .undef :: .undef :: .undef :: .undef :: .undef :: .undef :: .undef :: .undef :: .undef :: .undef :: .undef :: .undef :: .undef :: .undef :: .undef :: .undef :: .undef :: .undef :: .undef :: .undef :: .undef :: .undef :: .undef :: [])) (fun _ => pt q (.cells 1 [.str p.1, .str p.2] false false []) :: My 1 w X.length (bcells X) :: l) (fun j => i - j) (fun j => j ≤ i ∧ hasB ((D.take i).take j) p.1 = false) 0 ⟨Nat.zero_le _, rfl⟩ (by (repeat first | exact Less.nil | refine Less.undef _ ?_ | refine Less.keep _ ?_)) H ?_
      clear H
      rintro j hs ⟨hj, hno⟩ H
      by_cases hji : j < i
      · obtain ⟨g, hg⟩ : ∃ g, (D.take i)[j]? = some g := ⟨_, List.getElem?_eq_getElem (by rw [List.length_take]; omega)⟩
        obtain ⟨h3, o3, hix3, _, hld3⟩ := (rzz _ H.t.t).idxF (s := 2) (fun _ => rfl) rfl hg .i64
        unfold prC at hld3
        have soz := (rzz _ H.t.t).sOk
        have d2 : decide (((j : Nat) : Int) < ((i : Nat) : Int)) = true := decide_eq_true (by omega)
        cases eg : (g.1 == p.1) with
        | true =>
          have hbad := dict_bad hp (by rw [er, hasB_true hg eg]; rfl)
          first | have f0 := Sat.pf (H) | have f0 := trivial
          first | have f1 := Sat.pf (H.t) | have f1 := trivial
          first | have f2 := Sat.pf (H.t.t) | have f2 := trivial
          first | have f3 := Sat.pf (H.t.t.t) | have f3 := trivial
          first | have f4 := Sat.pf (H.t.t.t.t) | have f4 := trivial
          first | have f5 := Sat.pf (H.t.t.t.t.t) | have f5 := trivial
          first | have f6 := Sat.pf (H.t.t.t.t.t.t) | have f6 := trivial
          first | have f7 := Sat.pf (H.t.t.t.t.t.t.t) | have f7 := trivial
          repeat' first
            | ((with_reducible show Need _); refine need_of ?_; (first | have f0 := Sat.pf (H) | have f0 := trivial); (first | have f1 := Sat.pf (H.t) | have f1 := trivial); (first | have f2 := Sat.pf (H.t.t) | have f2 := trivial); (first | have f3 := Sat.pf (H.t.t.t) | have f3 := trivial); (first | have f4 := Sat.pf (H.t.t.t.t) | have f4 := trivial); (first | have f5 := Sat.pf (H.t.t.t.t.t) | have f5 := trivial); (first | have f6 := Sat.pf (H.t.t.t.t.t.t) | have f6 := trivial); (first | have f7 := Sat.pf (H.t.t.t.t.t.t.t) | have f7 := trivial))
            | simp -implicitDefEqProofs (disch := first | omega | decide | exact rfl | assumption | exact Nat.le_of_ble_eq_true rfl | exact One.c | exact One.o) only [vsA, vsB, eq_self, if_true, if_false, implies_true, false_implies, evp, HX.ev, Nat.reduceAdd, HOp.looks, Nat.reduceEqDiff, overw, Nat.reduceBEq, hix3, hld3, soz, d2, eg, vadd1, va_ldA, va_loadA, ub20, f0, f1, f2, f3, f4, f5, f6, f7]
            | (clear H f0 f1 f2 f3 f4 f5 f6 f7; (with_reducible intro v2 hs H); (try simp only [setA, overw, Nat.reduceAdd] at H); refine need ?_)
            | refine opC_K ?_
            | ((with_reducible show opC (unit (hstore _ _ _ _)) _); refine sl_storeN (by with_reducible first | exact H | exact H.p1 | exact H.p2 | exact H.p3 | exact H.p4 | exact H.p5 | exact H.p6 | exact H.p7) rfl (Nat.le_of_ble_eq_true rfl) (by first | exact rfl | (simp only [f0, f1, f2, f3, f4, f5, f6, f7]; done) | (simp only [onA, *]; done)) ?_)
            | ((with_reducible show opC (hbox _ _) _); refine sl_boxA H (by first | exact rfl | (simp only [f0, f1, f2, f3, f4, f5, f6, f7]; done) | (simp only [onA, *]; done)) ?_)

          exact ⟨.nilSlice, 90, rfl, .inr ⟨hbad, by decide⟩, by rw [dX_no hbad]; exact H.t.t.t.own0⟩
        | false =>
          first | have f0 := Sat.pf (H) | have f0 := trivial
          first | have f1 := Sat.pf (H.t) | have f1 := trivial
          first | have f2 := Sat.pf (H.t.t) | have f2 := trivial
          first | have f3 := Sat.pf (H.t.t.t) | have f3 := trivial
          first | have f4 := Sat.pf (H.t.t.t.t) | have f4 := trivial
          first | have f5 := Sat.pf (H.t.t.t.t.t) | have f5 := trivial
          first | have f6 := Sat.pf (H.t.t.t.t.t.t) | have f6 := trivial
          first | have f7 := Sat.pf (H.t.t.t.t.t.t.t) | have f7 := trivial
          repeat' first
            | ((with_reducible show Need _); refine need_of ?_; (first | have f0 := Sat.pf (H) | have f0 := trivial); (first | have f1 := Sat.pf (H.t) | have f1 := trivial); (first | have f2 := Sat.pf (H.t.t) | have f2 := trivial); (first | have f3 := Sat.pf (H.t.t.t) | have f3 := trivial); (first | have f4 := Sat.pf (H.t.t.t.t) | have f4 := trivial); (first | have f5 := Sat.pf (H.t.t.t.t.t) | have f5 := trivial); (first | have f6 := Sat.pf (H.t.t.t.t.t.t) | have f6 := trivial); (first | have f7 := Sat.pf (H.t.t.t.t.t.t.t) | have f7 := trivial))
            | simp -implicitDefEqProofs (disch := first | omega | decide | exact rfl | assumption | exact Nat.le_of_ble_eq_true rfl | exact One.c | exact One.o) only [vsA, vsB, eq_self, if_true, if_false, implies_true, false_implies, evp, HX.ev, Nat.reduceAdd, HOp.looks, Nat.reduceEqDiff, overw, Nat.reduceBEq, hix3, hld3, soz, d2, eg, vadd1, va_ldA, va_loadA, ub20, f0, f1, f2, f3, f4, f5, f6, f7]
            | (clear H f0 f1 f2 f3 f4 f5 f6 f7; (with_reducible intro v2 hs H); (try simp only [setA, overw, Nat.reduceAdd] at H); refine need ?_)
            | refine opC_K ?_
            | ((with_reducible show opC (unit (hstore _ _ _ _)) _); refine sl_storeN (by with_reducible first | exact H | exact H.p1 | exact H.p2 | exact H.p3 | exact H.p4 | exact H.p5 | exact H.p6 | exact H.p7) rfl (Nat.le_of_ble_eq_true rfl) (by first | exact rfl | (simp only [f0, f1, f2, f3, f4, f5, f6, f7]; done) | (simp only [onA, *]; done)) ?_)
            | ((with_reducible show opC (hbox _ _) _); refine sl_boxA H (by first | exact rfl | (simp only [f0, f1, f2, f3, f4, f5, f6, f7]; done) | (simp only [onA, *]; done)) ?_)

          exact ⟨j + 1, _, by omega, ⟨by omega, hasB_snoc hg eg hno⟩, (by (repeat first | exact Less.nil | refine Less.undef _ ?_ | refine Less.keep _ ?_)), Weak.refl _, H.t⟩
      · obtain rfl : j = i := by omega
        have d2 : decide (((j : Nat) : Int) < ((j : Nat) : Int)) = false := decide_eq_false (by omega)
        rw [List.take_of_length_le (by rw [List.length_take]; omega)] at hno
        have hpl := fun hs => plain33 (hs := hs) p.2 (by omega)
        cases ep : plainB p.2 with
        | false =>
          have hbad := dict_bad hp (by rw [er, hno, ep]; rfl)
          simp only [ep] at hpl
          first | have f0 := Sat.pf (H) | have f0 := trivial
          first | have f1 := Sat.pf (H.t) | have f1 := trivial
          first | have f2 := Sat.pf (H.t.t) | have f2 := trivial
          first | have f3 := Sat.pf (H.t.t.t) | have f3 := trivial
          first | have f4 := Sat.pf (H.t.t.t.t) | have f4 := trivial
          first | have f5 := Sat.pf (H.t.t.t.t.t) | have f5 := trivial
          first | have f6 := Sat.pf (H.t.t.t.t.t.t) | have f6 := trivial
          first | have f7 := Sat.pf (H.t.t.t.t.t.t.t) | have f7 := trivial
          repeat' first
            | simp -implicitDefEqProofs (disch := first | omega | decide | exact rfl | assumption | exact Nat.le_of_ble_eq_true rfl | exact One.c | exact One.o) only [vsA, vsB, eq_self, if_true, if_false, implies_true, false_implies, evp, HX.ev, Nat.reduceAdd, HOp.looks, Nat.reduceEqDiff, overw, Nat.reduceBEq, d2, vadd1, va_ldA, va_loadA, ub20, f0, f1, f2, f3, f4, f5, f6, f7]
            | ((with_reducible show actK _ (HAct.call (HX.cst (HV.func (Fn.func 33) _ _)) _) _ _ _ _ _); refine vcall_of ok33 rfl (hpl _) ?_; rintro _ _ ⟨rfl, rfl⟩)

          exact ⟨.nilSlice, 91, rfl, .inr ⟨hbad, by decide⟩, by rw [dX_no hbad]; exact H.t.t.own0⟩
        | true =>
          simp only [ep] at hpl
          first | have f0 := Sat.pf (H) | have f0 := trivial
          first | have f1 := Sat.pf (H.t) | have f1 := trivial
          first | have f2 := Sat.pf (H.t.t) | have f2 := trivial
          first | have f3 := Sat.pf (H.t.t.t) | have f3 := trivial
          first | have f4 := Sat.pf (H.t.t.t.t) | have f4 := trivial
          first | have f5 := Sat.pf (H.t.t.t.t.t) | have f5 := trivial
          first | have f6 := Sat.pf (H.t.t.t.t.t.t) | have f6 := trivial
          first | have f7 := Sat.pf (H.t.t.t.t.t.t.t) | have f7 := trivial
          repeat' first
            | ((with_reducible show Need _); refine need_of ?_; (first | have f0 := Sat.pf (H) | have f0 := trivial); (first | have f1 := Sat.pf (H.t) | have f1 := trivial); (first | have f2 := Sat.pf (H.t.t) | have f2 := trivial); (first | have f3 := Sat.pf (H.t.t.t) | have f3 := trivial); (first | have f4 := Sat.pf (H.t.t.t.t) | have f4 := trivial); (first | have f5 := Sat.pf (H.t.t.t.t.t) | have f5 := trivial); (first | have f6 := Sat.pf (H.t.t.t.t.t.t) | have f6 := trivial); (first | have f7 := Sat.pf (H.t.t.t.t.t.t.t) | have f7 := trivial))
            | simp -implicitDefEqProofs (disch := first | omega | decide | exact rfl | assumption | exact Nat.le_of_ble_eq_true rfl | exact One.c | exact One.o) only [vsA, vsB, eq_self, if_true, if_false, implies_true, false_implies, evp, HX.ev, Nat.reduceAdd, HOp.looks, Nat.reduceEqDiff, overw, Nat.reduceBEq, d2, vadd1, va_ldA, va_loadA, ub20, f0, f1, f2, f3, f4, f5, f6, f7]
            | (clear H f0 f1 f2 f3 f4 f5 f6 f7; (with_reducible intro v2 hs H); (try simp only [setA, overw, Nat.reduceAdd] at H); refine need ?_)
            | ((with_reducible show actK _ (HAct.call (HX.cst (HV.func (Fn.func 33) _ _)) _) _ _ _ _ _); refine vcall_of ok33 rfl (hpl _) ?_; rintro _ _ ⟨rfl, rfl⟩)
            | refine opC_K ?_
            | ((with_reducible show opC (happend _ _ _ _ _) _); refine sl_append (n := X.length) (xs := bcells X) (m := p.1.length) (ns := bcells p.1) (by with_reducible first | exact H | exact H.p1 | exact H.p2 | exact H.p3 | exact H.p4 | exact H.p5 | exact H.p6 | exact H.p7) takeS (by first | exact roomFor_of (by omega) | exact roomFor_wide (by omega)) (by omega) ?_; clear H f0 f1 f2 f3 f4 f5 f6 f7; intro v3 hs H; refine need ?_)
            | ((with_reducible show opC (happend _ _ _ _ _) _); refine sl_append (n := X.length + p.1.length) (m := 2) (ns := bcells [58, 32]) (by with_reducible first | exact H | exact H.p1 | exact H.p2 | exact H.p3 | exact H.p4 | exact H.p5 | exact H.p6 | exact H.p7) (takeS (b := [58, 32])) (by first | exact roomFor_of (by omega) | exact roomFor_wide (by omega)) (by omega) ?_; clear H f0 f1 f2 f3 f4 f5 f6 f7; intro v4 hs H; refine need ?_)
            | ((with_reducible show opC (happend _ _ _ _ _) _); refine sl_append (n := X.length + p.1.length + 2) (m := p.2.length) (ns := bcells p.2) (by with_reducible first | exact H | exact H.p1 | exact H.p2 | exact H.p3 | exact H.p4 | exact H.p5 | exact H.p6 | exact H.p7) takeS (by first | exact roomFor_of (by omega) | exact roomFor_wide (by omega)) (by omega) ?_; clear H f0 f1 f2 f3 f4 f5 f6 f7; intro v5 hs H; refine need ?_)
            | ((with_reducible show opC (happend _ _ _ _ _) _); refine sl_append (n := X.length + p.1.length + 2 + p.2.length) (m := 1) (ns := bcells [10]) (by with_reducible first | exact H | exact H.p1 | exact H.p2 | exact H.p3 | exact H.p4 | exact H.p5 | exact H.p6 | exact H.p7) (by first | assumption | with_reducible first | exact f0.2.1 | exact f1.2.1 | exact f2.2.1 | exact f3.2.1 | exact f4.2.1 | exact f5.2.1 | exact f6.2.1 | exact f7.2.1 | exact va_takeS) (by first | exact roomFor_of (by omega) | exact roomFor_wide (by omega)) (by omega) ?_; clear H f0 f1 f2 f3 f4 f5 f6 f7; intro v6 hs H; refine need ?_)
            | ((with_reducible show opC (hbuildSlice _ _ _ _ _) _); refine sl_bslice1 H rfl (by first | exact rfl | (simp only [f0, f1, f2, f3, f4, f5, f6, f7]; done) | (simp only [onA, *]; done)) (by first | exact rfl | (simp only [f0, f1, f2, f3, f4, f5, f6, f7]; done) | (simp only [onA, *]; done)) ?_)
            | with_reducible intro hy

          refine ⟨(j + 1, v6), _, by simp only; omega, ⟨by simp only; omega, dict_snoc hp (by omega) ha (by rw [er, hno, ep]; rfl)⟩, (by (repeat first | exact Less.nil | refine Less.undef _ ?_ | refine Less.keep _ ?_)), Weak.refl _, ?_⟩
          have e : bcells (X ++ lineD p) = bcells X ++ bcells p.1 ++ bcells [58, 32] ++ bcells p.2 ++ bcells [10] := by simp [bcells, lineD]
          simp only [takeL_snoc hp, ← List.append_assoc, ← hXx]
          rw [e, List.length_append, hll, show X.length + (p.1.length + p.2.length + 3) = X.length + p.1.length + 2 + p.2.length + 1 by omega]
          exact H.d1
  · obtain rfl : i = D.length := by omega
    rw [List.take_length] at ha H
    have hyes : dictB D = true := by unfold dictB; rw [ha, decide_eq_true (by omega)]; rfl
    have d1 : decide (((D.length : Nat) : Int) < ((D.length : Nat) : Int)) = false := decide_eq_false (by omega)
    first | have f0 := Sat.pf (H) | have f0 := trivial
    first | have f1 := Sat.pf (H.t) | have f1 := trivial
    first | have f2 := Sat.pf (H.t.t) | have f2 := trivial
    first | have f3 := Sat.pf (H.t.t.t) | have f3 := trivial
    first | have f4 := Sat.pf (H.t.t.t.t) | have f4 := trivial
    first | have f5 := Sat.pf (H.t.t.t.t.t) | have f5 := trivial
    first | have f6 := Sat.pf (H.t.t.t.t.t.t) | have f6 := trivial
    first | have f7 := Sat.pf (H.t.t.t.t.t.t.t) | have f7 := trivial
    repeat' first
      | simp -implicitDefEqProofs (disch := first | omega | decide | exact rfl | assumption | exact Nat.le_of_ble_eq_true rfl | exact One.c | exact One.o) only [vsA, vsB, eq_self, if_true, if_false, implies_true, false_implies, evp, HX.ev, Nat.reduceAdd, HOp.looks, Nat.reduceEqDiff, overw, Nat.reduceBEq, d1, ub20, f0, f1, f2, f3, f4, f5, f6, f7]

    exact ⟨w, 0, rfl, .inl ⟨hyes, rfl⟩, by unfold dX; rw [if_pos hyes]; exact H⟩
end A
end Go.Proofs.YteedmbmgemiheaaDoor
namespace Go.Proofs.YteedmbmgemiheaaDoor
open Go Go.HL Go.Shelf Y
namespace A
set_option maxRecDepth 100000
set_option maxHeartbeats 40000000
set_option linter.unusedSimpArgs false
attribute [local irreducible] pt My Ex Vw Gr GrK each grp exs Sat takeCells happend hbuildSlice hstore hbox hslice hmakeSlice hs2b hcopy HL.unit opC
theorem colon_le (s : List UInt8) : colon s ≤ s.length := by
  unfold colon; exact (List.takeWhile_prefix _).length_le
theorem colon_all {s : List UInt8} {k : Nat} (ha : (s.take k).all (· != 58) = true) (hk : k ≤ s.length) : k ≤ colon s := by
  have : ∀ (s : List UInt8) (k : Nat), (s.take k).all (· != 58) = true → k ≤ s.length → k ≤ colon s := by
    intro s
    induction s with
    | nil => intro k _ h; simp at h; omega
    | cons x s ih =>
      intro k ha hk
      cases k with
      | zero => omega
      | succ k =>
        rw [List.take_succ_cons, List.all_cons, Bool.and_eq_true] at ha
        have h1 := ih k ha.2 (by simpa using hk)
        unfold colon at h1 ⊢
        rw [List.takeWhile_cons, if_pos ha.1, List.length_cons]
        omega
  exact this s k ha hk
theorem colon_at {s : List UInt8} {k : Nat} (ha : (s.take k).all (· != 58) = true) (h : s[k]? = some 58) : k = colon s := by
  have h1 := colon_all ha (by have := lt_of_get h; omega)
  have h2 : s = s.take k ++ 58 :: s.drop (k + 1) := by
    have hl := lt_of_get h
    conv => lhs; rw [← List.take_append_drop k s]
    rw [List.drop_eq_getElem_cons hl]
    rw [List.getElem?_eq_getElem hl] at h
    rw [Option.some.inj h]
  have h3 := colon_of (a := s.take k) (b := s.drop (k + 1)) (fun hm => by
    have := List.all_eq_true.1 ha 58 hm
    simp at this)
  rw [← h2, List.length_take] at h3
  have := lt_of_get h
  omega
theorem lineD_len {s : List UInt8} (h : colon s + 2 ≤ s.length) : (lineD (pairF s)).length = s.length + 1 := by
  unfold lineD pairF
  simp only [List.length_append, List.length_cons, List.length_take, List.length_drop, List.length_nil]
  omega
theorem lines_writeD {ls : List (List UInt8)} (h : ls.all (fun s => decide (colon s + 2 ≤ s.length)) = true) : ((ls.map pairF).flatMap lineD).length = (ls.flatMap fun l => l ++ [10]).length := by
  induction ls with
  | nil => rfl
  | cons s ls ih =>
    rw [List.all_cons, Bool.and_eq_true] at h
    have h1 := of_decide_eq_true h.1
    rw [List.map_cons, List.flatMap_cons, List.flatMap_cons, List.length_append, List.length_append, ih h.2, lineD_len h1]
    simp
theorem dE_no {D : List Pr} {code : Int} (h : dE D code) (hp : dictB D = false) : decide (code = 0) = false := by
  rcases h with h | h
  · rw [hp] at h; cases h.1
  · exact decide_eq_false h.2
theorem dE_yes {D : List Pr} {code : Int} (h : dE D code) (hp : dictB D = true) : code = 0 := by
  rcases h with h | h
  · exact h.2
  · rw [hp] at h; cases h.1
theorem readDict24 {hs : HS} {l : List SA} {bv : HV} {b : List UInt8} (H : Sat hs l) (R : Rdl l bv b.length (bcells b)) (hb : b.length < 1073741824) :
    HC Tryd.prog 24 [bv] hs fun v hs' => ∃ w, v = .tup [w, .int .i64 (okI (refD b).isSome)] ∧ Sat hs' (My 2 w ((refD b).getD []).length (((refD b).getD []).flatMap prC) :: l) := by
  have hmax : maxLen = 9223372036854775807 := rfl
  have one := (R _ H).one
  have cel := (R _ H).cells
  refine HC.wp mixed Tryd.func24 c24 ?_
  cases hln : linesF b with
  | none =>
    have e : refD b = none := by unfold refD; rw [hln]
    rw [e]
    first | have f0 := Sat.pf (H) | have f0 := trivial
    first | have f1 := Sat.pf (H.t) | have f1 := trivial
    first | have f2 := Sat.pf (H.t.t) | have f2 := trivial
    first | have f3 := Sat.pf (H.t.t.t) | have f3 := trivial
    first | have f4 := Sat.pf (H.t.t.t.t) | have f4 := trivial
    first | have f5 := Sat.pf (H.t.t.t.t.t) | have f5 := trivial
    first | have f6 := Sat.pf (H.t.t.t.t.t.t) | have f6 := trivial
    first | have f7 := Sat.pf (H.t.t.t.t.t.t.t) | have f7 := trivial
    repeat' first
      | ((with_reducible show Need _); refine need_of ?_; (first | have f0 := Sat.pf (H) | have f0 := trivial); (first | have f1 := Sat.pf (H.t) | have f1 := trivial); (first | have f2 := Sat.pf (H.t.t) | have f2 := trivial); (first | have f3 := Sat.pf (H.t.t.t) | have f3 := trivial); (first | have f4 := Sat.pf (H.t.t.t.t) | have f4 := trivial); (first | have f5 := Sat.pf (H.t.t.t.t.t) | have f5 := trivial); (first | have f6 := Sat.pf (H.t.t.t.t.t.t) | have f6 := trivial); (first | have f7 := Sat.pf (H.t.t.t.t.t.t.t) | have f7 := trivial))
      | simp -implicitDefEqProofs (disch := first | omega | decide | exact rfl | assumption | exact Nat.le_of_ble_eq_true rfl | exact One.c | exact One.o) only [vsA, vsB, eq_self, if_true, if_false, implies_true, false_implies, evp, HX.ev, Nat.reduceAdd, HOp.looks, Nat.reduceEqDiff, overw, Nat.reduceBEq, h24, one, cel, ub24, f0, f1, f2, f3, f4, f5, f6, f7, frame0, List.replicate, Nat.sub]
      | ((with_reducible show actK _ (HAct.call (HX.cst (HV.func (Fn.func 43) _ _)) _) _ _ _ _ _); refine vcall_of ok43 rfl (lines43 H R hb) ?_;  clear H f0 f1 f2 f3 f4 f5 f6 f7; intro v hs h; rw [hln] at h; obtain ⟨w, rfl, H⟩ := h; simp only [Option.getD_none, Option.isSome_none] at H ⊢; refine need ?_)

    exact ⟨.nilSlice, rfl, H.t.own0⟩
  | some ls =>
    have hl1 := lines_len hln
    have hl2 := ls_few (ls := ls)
    have lw := True.intro
    have ow := True.intro
    have owc := True.intro
    by_cases hbig : 256 < ls.length
    · have d0 : decide ((256 : Int) < ((ls.length : Nat) : Int)) = true := decide_eq_true (by omega)
      have e : refD b = none := by
        unfold refD; rw [hln]; simp only
        rw [if_neg (fun h => by omega)]
      rw [e]
      first | have f0 := Sat.pf (H) | have f0 := trivial
      first | have f1 := Sat.pf (H.t) | have f1 := trivial
      first | have f2 := Sat.pf (H.t.t) | have f2 := trivial
      first | have f3 := Sat.pf (H.t.t.t) | have f3 := trivial
      first | have f4 := Sat.pf (H.t.t.t.t) | have f4 := trivial
      first | have f5 := Sat.pf (H.t.t.t.t.t) | have f5 := trivial
      first | have f6 := Sat.pf (H.t.t.t.t.t.t) | have f6 := trivial
      first | have f7 := Sat.pf (H.t.t.t.t.t.t.t) | have f7 := trivial
      repeat' first
        | ((with_reducible show Need _); refine need_of ?_; (first | have f0 := Sat.pf (H) | have f0 := trivial); (first | have f1 := Sat.pf (H.t) | have f1 := trivial); (first | have f2 := Sat.pf (H.t.t) | have f2 := trivial); (first | have f3 := Sat.pf (H.t.t.t) | have f3 := trivial); (first | have f4 := Sat.pf (H.t.t.t.t) | have f4 := trivial); (first | have f5 := Sat.pf (H.t.t.t.t.t) | have f5 := trivial); (first | have f6 := Sat.pf (H.t.t.t.t.t.t) | have f6 := trivial); (first | have f7 := Sat.pf (H.t.t.t.t.t.t.t) | have f7 := trivial))
        | simp -implicitDefEqProofs (disch := first | omega | decide | exact rfl | assumption | exact Nat.le_of_ble_eq_true rfl | exact One.c | exact One.o) only [vsA, vsB, eq_self, if_true, if_false, implies_true, false_implies, evp, HX.ev, Nat.reduceAdd, HOp.looks, Nat.reduceEqDiff, overw, Nat.reduceBEq, h24, one, cel, lw, ow, owc, d0, ub24, f0, f1, f2, f3, f4, f5, f6, f7, frame0, List.replicate, Nat.sub]
        | ((with_reducible show actK _ (HAct.call (HX.cst (HV.func (Fn.func 43) _ _)) _) _ _ _ _ _); refine vcall_of ok43 rfl (lines43 H R hb) ?_;  clear H f0 f1 f2 f3 f4 f5 f6 f7; intro v hs h; rw [hln] at h; obtain ⟨w, rfl, H⟩ := h; simp only [Option.getD_some, Option.isSome_some] at H ⊢; have lw := H.rd.len; have ow := H.rd.one; have owc := H.rd.cells; refine need ?_)

      exact ⟨.nilSlice, rfl, H.t.own0⟩
    have d0 : decide ((256 : Int) < ((ls.length : Nat) : Int)) = false := decide_eq_false (by omega)
    first | have f0 := Sat.pf (H) | have f0 := trivial
    first | have f1 := Sat.pf (H.t) | have f1 := trivial
    first | have f2 := Sat.pf (H.t.t) | have f2 := trivial
    first | have f3 := Sat.pf (H.t.t.t) | have f3 := trivial
    first | have f4 := Sat.pf (H.t.t.t.t) | have f4 := trivial
    first | have f5 := Sat.pf (H.t.t.t.t.t) | have f5 := trivial
    first | have f6 := Sat.pf (H.t.t.t.t.t.t) | have f6 := trivial
    first | have f7 := Sat.pf (H.t.t.t.t.t.t.t) | have f7 := trivial
    repeat' first
      | ((with_reducible show Need _); refine need_of ?_; (first | have f0 := Sat.pf (H) | have f0 := trivial); (first | have f1 := Sat.pf (H.t) | have f1 := trivial); (first | have f2 := Sat.pf (H.t.t) | have f2 := trivial); (first | have f3 := Sat.pf (H.t.t.t) | have f3 := trivial); (first | have f4 := Sat.pf (H.t.t.t.t) | have f4 := trivial); (first | have f5 := Sat.pf (H.t.t.t.t.t) | have f5 := trivial); (first | have f6 := Sat.pf (H.t.t.t.t.t.t) | have f6 := trivial); (first | have f7 := Sat.pf (H.t.t.t.t.t.t.t) | have f7 := trivial))
      | simp -implicitDefEqProofs (disch := first | omega | decide | exact rfl | assumption | exact Nat.le_of_ble_eq_true rfl | exact One.c | exact One.o) only [vsA, vsB, eq_self, if_true, if_false, implies_true, false_implies, evp, HX.ev, Nat.reduceAdd, HOp.looks, Nat.reduceEqDiff, overw, Nat.reduceBEq, h24, one, cel, lw, ow, owc, d0, ub24, f0, f1, f2, f3, f4, f5, f6, f7, frame0, List.replicate, Nat.sub]
      | ((with_reducible show actK _ (HAct.call (HX.cst (HV.func (Fn.func 43) _ _)) _) _ _ _ _ _); refine vcall_of ok43 rfl (lines43 H R hb) ?_;  clear H f0 f1 f2 f3 f4 f5 f6 f7; intro v hs h; rw [hln] at h; obtain ⟨w, rfl, H⟩ := h; simp only [Option.getD_some, Option.isSome_some] at H ⊢; have lw := H.rd.len; have ow := H.rd.one; have owc := H.rd.cells; refine need ?_)

    refine HW.loopA mixed (fun t : Nat × HV => (bv :: .undef :: .undef :: .undef :: .undef :: .undef :: t.2 :: .undef :: .undef :: .undef :: .undef :: .undef :: .undef :: .undef :: .undef :: .undef :: .undef :: .undef :: .undef :: .undef :: .undef :: .undef :: .undef :: .undef :: w :: .int .i64 (ls.length : Nat) :: .int .i64 (t.1 : Nat) :: .undef :: .undef :: .undef :: .undef :: .undef :: .undef :: .undef :: .undef :: .undef :: .undef :: .undef :: .undef :: .undef :: .undef :: .undef :: .undef :: .undef :: .undef :: .undef :: .undef :: .undef :: .undef :: .undef :: .undef :: .undef :: .undef :: .undef :: .undef :: .undef :: .undef :: .undef :: .undef :: .undef :: .undef :: .undef :: .undef :: .undef :: .undef :: .undef :: .undef :: .undef :: .undef :: .undef :: .undef :: .undef :: .undef :: [])) (fun t => My 2 t.2 t.1 (((ls.take t.1).map pairF).flatMap prC) :: My 1 w ls.length (ls.map HV.str) :: l) (fun t => ls.length - t.1) (fun t => t.1 ≤ ls.length ∧ (ls.take t.1).all (fun s => decide (colon s + 2 ≤ s.length)) = true) (0, .nilSlice) ⟨Nat.zero_le _, rfl⟩ (by (repeat first | exact Less.nil | refine Less.undef _ ?_ | refine Less.keep _ ?_)) H.own0 ?_
    clear H
    rintro ⟨i, w2⟩ hs ⟨hi, ha⟩ H
    simp only at hi ha H
    have ow2 := H.rd.one
    have owc2 := H.rd.cells
    by_cases h : i < ls.length
    · obtain ⟨s, hsx⟩ : ∃ s, ls[i]? = some s := ⟨_, List.getElem?_eq_getElem h⟩
      have hsl := line_mem (f := fun l : List UInt8 => l ++ [10]) hsx
      simp only [List.length_append, List.length_singleton] at hsl
      obtain ⟨p, hp1, _⟩ := (H.t.rd).idx1 (sget hsx) .i64
      have hp2 := (H.t.rd).ld1 hp1 (sget hsx)
      have so := H.t.rd.sOk
      have d1 : decide (((i : Nat) : Int) < ((ls.length : Nat) : Int)) = true := decide_eq_true (by omega)
      first | have f0 := Sat.pf (H) | have f0 := trivial
      first | have f1 := Sat.pf (H.t) | have f1 := trivial
      first | have f2 := Sat.pf (H.t.t) | have f2 := trivial
      first | have f3 := Sat.pf (H.t.t.t) | have f3 := trivial
      first | have f4 := Sat.pf (H.t.t.t.t) | have f4 := trivial
      first | have f5 := Sat.pf (H.t.t.t.t.t) | have f5 := trivial
      first | have f6 := Sat.pf (H.t.t.t.t.t.t) | have f6 := trivial
      first | have f7 := Sat.pf (H.t.t.t.t.t.t.t) | have f7 := trivial
      repeat' first
        | simp -implicitDefEqProofs (disch := first | omega | decide | exact rfl | assumption | exact Nat.le_of_ble_eq_true rfl | exact One.c | exact One.o) only [vsA, vsB, eq_self, if_true, if_false, implies_true, false_implies, evp, HX.ev, Nat.reduceAdd, HOp.looks, Nat.reduceEqDiff, overw, Nat.reduceBEq, ow2, owc2, hp1, hp2, so, d1, vadd1, ub24, f0, f1, f2, f3, f4, f5, f6, f7]

      refine HW.loopA mixed (fun k : Nat => (bv :: .undef :: .undef :: .undef :: .undef :: .undef :: w2 :: .undef :: .str s :: .int .i64 (k : Nat) :: .undef :: .undef :: .undef :: .undef :: .undef :: .undef :: .undef :: .undef :: .undef :: .undef :: .undef :: .undef :: .undef :: .undef :: w :: .int .i64 (ls.length : Nat) :: .int .i64 (i : Nat) :: .undef :: .undef :: .undef :: .undef :: .undef :: .undef :: .undef :: .undef :: .undef :: .undef :: .undef :: .undef :: .undef :: .undef :: .undef :: .undef :: .undef :: .undef :: .undef :: .undef :: .undef :: .undef :: .undef :: .undef :: .undef :: .undef :: .undef :: .undef :: .undef :: .undef :: .undef :: .undef :: .undef :: .undef :: .undef :: .undef :: .undef :: .undef :: .undef :: .undef :: .undef :: .undef :: .undef :: .undef :: .undef :: .undef :: [])) (fun _ => My 2 w2 i (((ls.take i).map pairF).flatMap prC) :: My 1 w ls.length (ls.map HV.str) :: l) (fun k => s.length - k) (fun k => k ≤ s.length ∧ (s.take k).all (· != 58) = true) 0 ⟨Nat.zero_le _, rfl⟩ (by (repeat first | exact Less.nil | refine Less.undef _ ?_ | refine Less.keep _ ?_)) H ?_
      clear H
      rintro k hs ⟨hk, hno⟩ H
      have hcase : (∃ c, s[k]? = some c ∧ c ≠ 58) ∨ (k = colon s ∧ ((decide (((k : Nat) : Int) < ((s.length : Nat) : Int)) = true ∧ hindexStr (.str s) (.int .i64 (k : Nat)) = some (.int .u8 58)) ∨ (decide (((k : Nat) : Int) < ((s.length : Nat) : Int)) = false ∧ True))) := by
        by_cases hkl : k < s.length
        · obtain ⟨c, hc⟩ : ∃ c, s[k]? = some c := ⟨_, List.getElem?_eq_getElem hkl⟩
          by_cases h58 : c = 58
          · subst h58
            exact .inr ⟨colon_at hno hc, .inl ⟨decide_eq_true (by omega), vidxStr_some (k := .i64) hc⟩⟩
          · exact .inl ⟨c, hc, h58⟩
        · obtain rfl : k = s.length := by omega
          have := colon_all hno (Nat.le_refl _)
          have := colon_le s
          exact .inr ⟨by omega, .inr ⟨decide_eq_false (by omega), trivial⟩⟩
      rcases hcase with ⟨c, hc, h58⟩ | ⟨hkc, hcase⟩
      · have hkl := lt_of_get hc
        have dk : decide (((k : Nat) : Int) < ((s.length : Nat) : Int)) = true := decide_eq_true (by omega)
        have ix := vidxStr_some (k := .i64) hc
        have d58 : decide (((c.toNat : Nat) : Int) = 58) = false := decide_eq_false (fun h => h58 (UInt8.toNat_inj.1 (by rw [show (58 : UInt8).toNat = 58 from rfl]; omega)))
        first | have f0 := Sat.pf (H) | have f0 := trivial
        first | have f1 := Sat.pf (H.t) | have f1 := trivial
        first | have f2 := Sat.pf (H.t.t) | have f2 := trivial
        first | have f3 := Sat.pf (H.t.t.t) | have f3 := trivial
        first | have f4 := Sat.pf (H.t.t.t.t) | have f4 := trivial
        first | have f5 := Sat.pf (H.t.t.t.t.t) | have f5 := trivial
        first | have f6 := Sat.pf (H.t.t.t.t.t.t) | have f6 := trivial
        first | have f7 := Sat.pf (H.t.t.t.t.t.t.t) | have f7 := trivial
        repeat' first
          | simp -implicitDefEqProofs (disch := first | omega | decide | exact rfl | assumption | exact Nat.le_of_ble_eq_true rfl | exact One.c | exact One.o) only [vsA, vsB, eq_self, if_true, if_false, implies_true, false_implies, evp, HX.ev, Nat.reduceAdd, HOp.looks, Nat.reduceEqDiff, overw, Nat.reduceBEq, dk, ix, d58, vadd1, ub24, f0, f1, f2, f3, f4, f5, f6, f7]

        exact ⟨k + 1, _, by omega, ⟨by omega, by rw [List.take_add_one, hc, List.all_append, hno]; simp [h58]⟩, (by (repeat first | exact Less.nil | refine Less.undef _ ?_ | refine Less.keep _ ?_)), Weak.refl _, H⟩
      · have ow2 := H.rd.one
        have owc2 := H.rd.cells
        have vk : hbin .add none (.int .i64 (k : Nat)) (.int .i64 2) = some (.int .i64 ((k + 2 : Nat) : Int)) := va_a2 (by omega)
        by_cases hshort : s.length < k + 2
        · have d2 : decide (((s.length : Nat) : Int) < ((k + 2 : Nat) : Int)) = true := decide_eq_true (by omega)
          have e : refD b = none := by
            unfold refD; rw [hln]; simp only
            rw [if_neg]
            rintro ⟨_, hh, _⟩
            have := of_decide_eq_true (List.all_eq_true.1 hh s (List.mem_of_getElem? hsx))
            omega
          rw [e]
          rcases hcase with ⟨dk, ix⟩ | ⟨dk, ix⟩
          all_goals
            first | have f0 := Sat.pf (H) | have f0 := trivial
            first | have f1 := Sat.pf (H.t) | have f1 := trivial
            first | have f2 := Sat.pf (H.t.t) | have f2 := trivial
            first | have f3 := Sat.pf (H.t.t.t) | have f3 := trivial
            first | have f4 := Sat.pf (H.t.t.t.t) | have f4 := trivial
            first | have f5 := Sat.pf (H.t.t.t.t.t) | have f5 := trivial
            first | have f6 := Sat.pf (H.t.t.t.t.t.t) | have f6 := trivial
            first | have f7 := Sat.pf (H.t.t.t.t.t.t.t) | have f7 := trivial
            repeat' first
              | simp -implicitDefEqProofs (disch := first | omega | decide | exact rfl | assumption | exact Nat.le_of_ble_eq_true rfl | exact One.c | exact One.o) only [vsA, vsB, eq_self, if_true, if_false, implies_true, false_implies, evp, HX.ev, Nat.reduceAdd, HOp.looks, Nat.reduceEqDiff, overw, Nat.reduceBEq, dk, ix, vk, d2, ub24, f0, f1, f2, f3, f4, f5, f6, f7]

            exact ⟨.nilSlice, rfl, H.t.t.own0⟩
        · have d2 : decide (((s.length : Nat) : Int) < ((k + 2 : Nat) : Int)) = false := decide_eq_false (by omega)
          have e1 := vss_hi (b := s) (hi := k) (j := .i64) (by omega)
          have e2 := vss_lo (b := s) (lo := k + 2) (j := .i64) (by omega)
          have fill2 : hfill [.str [], .str []] [(0, 2, .agg [.str (s.take k), .str (s.drop (k + 2))])] = some [.str (s.take k), .str (s.drop (k + 2))] := rfl
          rcases hcase with ⟨dk, ix⟩ | ⟨dk, ix⟩
          all_goals
            first | have f0 := Sat.pf (H) | have f0 := trivial
            first | have f1 := Sat.pf (H.t) | have f1 := trivial
            first | have f2 := Sat.pf (H.t.t) | have f2 := trivial
            first | have f3 := Sat.pf (H.t.t.t) | have f3 := trivial
            first | have f4 := Sat.pf (H.t.t.t.t) | have f4 := trivial
            first | have f5 := Sat.pf (H.t.t.t.t.t) | have f5 := trivial
            first | have f6 := Sat.pf (H.t.t.t.t.t.t) | have f6 := trivial
            first | have f7 := Sat.pf (H.t.t.t.t.t.t.t) | have f7 := trivial
            repeat' first
              | ((with_reducible show Need _); refine need_of ?_; (first | have f0 := Sat.pf (H) | have f0 := trivial); (first | have f1 := Sat.pf (H.t) | have f1 := trivial); (first | have f2 := Sat.pf (H.t.t) | have f2 := trivial); (first | have f3 := Sat.pf (H.t.t.t) | have f3 := trivial); (first | have f4 := Sat.pf (H.t.t.t.t) | have f4 := trivial); (first | have f5 := Sat.pf (H.t.t.t.t.t) | have f5 := trivial); (first | have f6 := Sat.pf (H.t.t.t.t.t.t) | have f6 := trivial); (first | have f7 := Sat.pf (H.t.t.t.t.t.t.t) | have f7 := trivial))
              | simp -implicitDefEqProofs (disch := first | omega | decide | exact rfl | assumption | exact Nat.le_of_ble_eq_true rfl | exact One.c | exact One.o) only [vsA, vsB, eq_self, if_true, if_false, implies_true, false_implies, evp, HX.ev, Nat.reduceAdd, HOp.looks, Nat.reduceEqDiff, overw, Nat.reduceBEq, dk, ix, vk, d2, e1, e2, fill2, ow2, owc2, vadd1, ub24, f0, f1, f2, f3, f4, f5, f6, f7]
              | refine opC_K ?_
              | ((with_reducible show opC (hbuildSlice _ _ _ _ _) _); refine sl_bslice H rfl rfl (by omega) fill2 rfl ?_; clear H f0 f1 f2 f3 f4 f5 f6 f7; intro y hs H hy; have T := hy.take; refine need ?_)
              | ((with_reducible show opC (happend _ _ _ _ _) _); refine sl_append (n := i) (xs := ((ls.take i).map pairF).flatMap prC) (by with_reducible first | exact H | exact H.p1 | exact H.p2 | exact H.p3 | exact H.p4 | exact H.p5 | exact H.p6 | exact H.p7) T (by first | exact roomFor_of (by omega) | exact roomFor_wide (by omega)) (by omega) ?_; clear H f0 f1 f2 f3 f4 f5 f6 f7; intro v3 hs H; refine need ?_)

            refine ⟨(i + 1, v3), _, by simp only; omega, ⟨by simp only; omega, ?_⟩, (by (repeat first | exact Less.nil | refine Less.undef _ ?_ | refine Less.keep _ ?_)), Weak.refl _, ?_⟩
            · simp only
              rw [List.take_add_one, hsx, List.all_append, ha]; simp; omega
            · simp only [List.take_add_one, hsx, List.map_append, Option.toList_some, List.map_cons, List.map_nil, List.flatMap_append, List.flatMap_singleton]
              rw [show prC (pairF s) = [.str (s.take k), .str (s.drop (k + 2))] by unfold pairF prC; rw [hkc]]
              exact H
    · obtain rfl : i = ls.length := by omega
      rw [List.take_length] at ha H
      obtain ⟨O, hO⟩ : ∃ O, O = ls.map pairF := ⟨_, rfl⟩
      have hOl : O.length = ls.length := by rw [hO, List.length_map]
      rw [← hO, ← hOl] at H
      have hwl := lines_writeD ha
      rw [← hO] at hwl
      have hwX : (writeD O).length = 4 + (O.flatMap lineD).length := by unfold writeD; rw [List.length_append]; rfl
      have d1 : decide (((ls.length : Nat) : Int) < ((ls.length : Nat) : Int)) = false := decide_eq_false (by omega)
      have hD := fun hs (h : Sat hs _) => Dict20 (hs := hs) (l := My 2 w2 O.length (O.flatMap prC) :: My 1 w O.length (ls.map HV.str) :: l) (v := w2) (D := O) h (fun _ h => h.rd) (by omega) (by omega)
      have hdB : dictB O = dictOk [] O := by unfold dictB; rw [decide_eq_true (by omega)]; rfl
      cases hp : dictB O with
      | false =>
        have e : refD b = none := by
          unfold refD; rw [hln]; simp only
          rw [if_neg]
          rintro ⟨_, _, hh, _⟩
          rw [← hO, ← hdB, hp] at hh; cases hh
        rw [e]
        have hcd := True.intro
        first | have f0 := Sat.pf (H) | have f0 := trivial
        first | have f1 := Sat.pf (H.t) | have f1 := trivial
        first | have f2 := Sat.pf (H.t.t) | have f2 := trivial
        first | have f3 := Sat.pf (H.t.t.t) | have f3 := trivial
        first | have f4 := Sat.pf (H.t.t.t.t) | have f4 := trivial
        first | have f5 := Sat.pf (H.t.t.t.t.t) | have f5 := trivial
        first | have f6 := Sat.pf (H.t.t.t.t.t.t) | have f6 := trivial
        first | have f7 := Sat.pf (H.t.t.t.t.t.t.t) | have f7 := trivial
        repeat' first
          | ((with_reducible show Need _); refine need_of ?_; (first | have f0 := Sat.pf (H) | have f0 := trivial); (first | have f1 := Sat.pf (H.t) | have f1 := trivial); (first | have f2 := Sat.pf (H.t.t) | have f2 := trivial); (first | have f3 := Sat.pf (H.t.t.t) | have f3 := trivial); (first | have f4 := Sat.pf (H.t.t.t.t) | have f4 := trivial); (first | have f5 := Sat.pf (H.t.t.t.t.t) | have f5 := trivial); (first | have f6 := Sat.pf (H.t.t.t.t.t.t) | have f6 := trivial); (first | have f7 := Sat.pf (H.t.t.t.t.t.t.t) | have f7 := trivial))
          | simp -implicitDefEqProofs (disch := first | omega | decide | exact rfl | assumption | exact Nat.le_of_ble_eq_true rfl | exact One.c | exact One.o) only [vsA, vsB, eq_self, if_true, if_false, implies_true, false_implies, evp, HX.ev, Nat.reduceAdd, HOp.looks, Nat.reduceEqDiff, overw, Nat.reduceBEq, ow2, owc2, d1, hcd, ub24, f0, f1, f2, f3, f4, f5, f6, f7]
          | ((with_reducible show actK _ (HAct.call (HX.cst (HV.func (Fn.func 20) _ _)) _) _ _ _ _ _); refine vcall_of ok20 rfl (hD _ H) ?_;  clear H f0 f1 f2 f3 f4 f5 f6 f7; rintro v hs ⟨w3, code, rfl, hcd, H⟩; have hcd : decide (code = 0) = false := dE_no hcd hp; refine need ?_)

        exact ⟨.nilSlice, rfl, H.t.t.t.own0⟩
      | true =>
        have hdx : dX O = writeD O := by unfold dX; rw [if_pos hp]
        simp only [hdx] at hD
        have o3 := True.intro
        have c3 := True.intro
        cases hq : (writeD O == b) with
        | false =>
          have e : refD b = none := by
            unfold refD; rw [hln]; simp only
            rw [if_neg]
            rintro ⟨_, _, _, hh⟩
            rw [← hO] at hh; rw [hh] at hq; simp at hq
          rw [e]
          first | have f0 := Sat.pf (H) | have f0 := trivial
          first | have f1 := Sat.pf (H.t) | have f1 := trivial
          first | have f2 := Sat.pf (H.t.t) | have f2 := trivial
          first | have f3 := Sat.pf (H.t.t.t) | have f3 := trivial
          first | have f4 := Sat.pf (H.t.t.t.t) | have f4 := trivial
          first | have f5 := Sat.pf (H.t.t.t.t.t) | have f5 := trivial
          first | have f6 := Sat.pf (H.t.t.t.t.t.t) | have f6 := trivial
          first | have f7 := Sat.pf (H.t.t.t.t.t.t.t) | have f7 := trivial
          repeat' first
            | ((with_reducible show Need _); refine need_of ?_; (first | have f0 := Sat.pf (H) | have f0 := trivial); (first | have f1 := Sat.pf (H.t) | have f1 := trivial); (first | have f2 := Sat.pf (H.t.t) | have f2 := trivial); (first | have f3 := Sat.pf (H.t.t.t) | have f3 := trivial); (first | have f4 := Sat.pf (H.t.t.t.t) | have f4 := trivial); (first | have f5 := Sat.pf (H.t.t.t.t.t) | have f5 := trivial); (first | have f6 := Sat.pf (H.t.t.t.t.t.t) | have f6 := trivial); (first | have f7 := Sat.pf (H.t.t.t.t.t.t.t) | have f7 := trivial))
            | simp -implicitDefEqProofs (disch := first | omega | decide | exact rfl | assumption | exact Nat.le_of_ble_eq_true rfl | exact One.c | exact One.o) only [vsA, vsB, eq_self, if_true, if_false, implies_true, false_implies, evp, HX.ev, Nat.reduceAdd, HOp.looks, Nat.reduceEqDiff, overw, Nat.reduceBEq, ow2, owc2, d1, one, cel, o3, c3, Bool.not_false, Bool.not_true, ub24, f0, f1, f2, f3, f4, f5, f6, f7]
            | ((with_reducible show actK _ (HAct.call (HX.cst (HV.func (Fn.func 20) _ _)) _) _ _ _ _ _); refine vcall_of ok20 rfl (hD _ H) ?_;  clear H f0 f1 f2 f3 f4 f5 f6 f7; rintro v hs ⟨w3, code, rfl, hcd, H⟩; obtain rfl := dE_yes hcd hp; have o3 := H.rd.one; have c3 := H.rd.cells; refine need ?_)
            | ((with_reducible show actK _ (HAct.call (HX.cst (HV.func (Fn.func 44) _ _)) _) _ _ _ _ _); refine vcall_of ok44 rfl (same44 H.rd (R _ H.t.t.t) (by omega) (by omega)) ?_;  (rw [hq]; rintro _ _ ⟨rfl, rfl⟩))

          exact ⟨.nilSlice, rfl, H.t.t.t.own0⟩
        | true =>
          have e : refD b = some O := by
            unfold refD; rw [hln]; simp only
            rw [← hO, if_pos ⟨by omega, ha, by rw [← hdB]; exact hp, by simpa using hq⟩]
          rw [e]
          first | have f0 := Sat.pf (H) | have f0 := trivial
          first | have f1 := Sat.pf (H.t) | have f1 := trivial
          first | have f2 := Sat.pf (H.t.t) | have f2 := trivial
          first | have f3 := Sat.pf (H.t.t.t) | have f3 := trivial
          first | have f4 := Sat.pf (H.t.t.t.t) | have f4 := trivial
          first | have f5 := Sat.pf (H.t.t.t.t.t) | have f5 := trivial
          first | have f6 := Sat.pf (H.t.t.t.t.t.t) | have f6 := trivial
          first | have f7 := Sat.pf (H.t.t.t.t.t.t.t) | have f7 := trivial
          repeat' first
            | ((with_reducible show Need _); refine need_of ?_; (first | have f0 := Sat.pf (H) | have f0 := trivial); (first | have f1 := Sat.pf (H.t) | have f1 := trivial); (first | have f2 := Sat.pf (H.t.t) | have f2 := trivial); (first | have f3 := Sat.pf (H.t.t.t) | have f3 := trivial); (first | have f4 := Sat.pf (H.t.t.t.t) | have f4 := trivial); (first | have f5 := Sat.pf (H.t.t.t.t.t) | have f5 := trivial); (first | have f6 := Sat.pf (H.t.t.t.t.t.t) | have f6 := trivial); (first | have f7 := Sat.pf (H.t.t.t.t.t.t.t) | have f7 := trivial))
            | simp -implicitDefEqProofs (disch := first | omega | decide | exact rfl | assumption | exact Nat.le_of_ble_eq_true rfl | exact One.c | exact One.o) only [vsA, vsB, eq_self, if_true, if_false, implies_true, false_implies, evp, HX.ev, Nat.reduceAdd, HOp.looks, Nat.reduceEqDiff, overw, Nat.reduceBEq, ow2, owc2, d1, one, cel, o3, c3, Bool.not_false, Bool.not_true, ub24, f0, f1, f2, f3, f4, f5, f6, f7]
            | ((with_reducible show actK _ (HAct.call (HX.cst (HV.func (Fn.func 20) _ _)) _) _ _ _ _ _); refine vcall_of ok20 rfl (hD _ H) ?_;  clear H f0 f1 f2 f3 f4 f5 f6 f7; rintro v hs ⟨w3, code, rfl, hcd, H⟩; obtain rfl := dE_yes hcd hp; have o3 := H.rd.one; have c3 := H.rd.cells; refine need ?_)
            | ((with_reducible show actK _ (HAct.call (HX.cst (HV.func (Fn.func 44) _ _)) _) _ _ _ _ _); refine vcall_of ok44 rfl (same44 H.rd (R _ H.t.t.t) (by omega) (by omega)) ?_;  (rw [hq]; rintro _ _ ⟨rfl, rfl⟩))

          exact ⟨w2, rfl, H.t.d1⟩
end A
end Go.Proofs.YteedmbmgemiheaaDoor
/- The functions, turned (written by program, each checked by the kernel). -/
namespace Go.Proofs.YteedmbmgemiheaaDoor
open Go Go.HL
namespace S
/-- stint/stintlaw09.shown -/
def h9 : HFn :=
  ⟨79, [(.tmp 0)],
    (.seq (.region [
      ⟨(some 0), (.op (.mv (.cst (.bool false)))), none⟩] [])
    (.seq (.region [
      ⟨(some 10), (.op (.bslice 1 2 [(.str []), (.str [])] [(0, 1, (.cst (.str [100, 101, 102, 97, 117, 108, 116]))), (1, 1, (.cst (.str [97])))])), none⟩,
      ⟨(some 11), (.call (.cst (.func (.func 27) [] [])) [(.tmp 10)]), none⟩,
      ⟨(some 9), (.op (.mv (.tmp 11))), none⟩,
      ⟨(some 12), (.op (.ext 0 (.tmp 9))), none⟩,
      ⟨(some 13), (.op (.ext 1 (.tmp 9))), none⟩,
      ⟨(some 1), (.op (.mv (.tmp 12))), none⟩,
      ⟨(some 2), (.op (.mv (.tmp 13))), none⟩] [])
    (.seq (.region [
      ⟨(some 15), (.op (.build [(.str []), (.str [])] [(0, 1, (.cst (.str [110, 97, 109, 101]))), (1, 1, (.cst (.str [97, 58, 98])))])), none⟩,
      ⟨(some 16), (.op (.bslice 2 1 [(.str []), (.str [])] [(0, 2, (.tmp 15))])), none⟩,
      ⟨(some 17), (.call (.cst (.func (.func 29) [] [])) [(.tmp 16)]), none⟩,
      ⟨(some 14), (.op (.mv (.tmp 17))), none⟩,
      ⟨(some 18), (.op (.ext 0 (.tmp 14))), none⟩,
      ⟨(some 19), (.op (.ext 1 (.tmp 14))), none⟩,
      ⟨(some 3), (.op (.mv (.tmp 18))), none⟩,
      ⟨(some 4), (.op (.mv (.tmp 19))), none⟩] [])
    (.seq (.region [
      ⟨(some 21), (.op (.bslice 1 8 [(.int .u8 0), (.int .u8 0), (.int .u8 0), (.int .u8 0), (.int .u8 0), (.int .u8 0), (.int .u8 0), (.int .u8 0)] [(0, 1, (.cst (.int .u8 45))), (1, 1, (.cst (.int .u8 45))), (2, 1, (.cst (.int .u8 45))), (3, 1, (.cst (.int .u8 10))), (4, 1, (.cst (.int .u8 45))), (5, 1, (.cst (.int .u8 32))), (6, 1, (.cst (.int .u8 97))), (7, 1, (.cst (.int .u8 10)))])), none⟩,
      ⟨(some 22), (.op (.mark (.tmp 21))), none⟩,
      ⟨(some 23), (.call (.cst (.func (.func 15) [] [])) [(.tmp 22)]), none⟩,
      ⟨(some 20), (.op (.mv (.tmp 23))), none⟩,
      ⟨(some 24), (.op (.ext 0 (.tmp 20))), none⟩,
      ⟨(some 25), (.op (.ext 1 (.tmp 20))), none⟩,
      ⟨(some 5), (.op (.mv (.tmp 24))), none⟩,
      ⟨(some 6), (.op (.mv (.tmp 25))), none⟩] [])
    (.seq (.region [
      ⟨(some 27), (.op (.bslice 1 9 [(.int .u8 0), (.int .u8 0), (.int .u8 0), (.int .u8 0), (.int .u8 0), (.int .u8 0), (.int .u8 0), (.int .u8 0), (.int .u8 0)] [(0, 1, (.cst (.int .u8 45))), (1, 1, (.cst (.int .u8 45))), (2, 1, (.cst (.int .u8 45))), (3, 1, (.cst (.int .u8 10))), (4, 1, (.cst (.int .u8 107))), (5, 1, (.cst (.int .u8 58))), (6, 1, (.cst (.int .u8 32))), (7, 1, (.cst (.int .u8 118))), (8, 1, (.cst (.int .u8 10)))])), none⟩,
      ⟨(some 28), (.op (.mark (.tmp 27))), none⟩,
      ⟨(some 29), (.call (.cst (.func (.func 21) [] [])) [(.tmp 28)]), none⟩,
      ⟨(some 26), (.op (.mv (.tmp 29))), none⟩,
      ⟨(some 30), (.op (.ext 0 (.tmp 26))), none⟩,
      ⟨(some 31), (.op (.ext 1 (.tmp 26))), none⟩,
      ⟨(some 7), (.op (.mv (.tmp 30))), none⟩,
      ⟨(some 8), (.op (.mv (.tmp 31))), none⟩] [])
    (.seq (.region [
      ⟨(some 32), (.op (.mv (.tmp 1))), none⟩,
      ⟨(some 33), (.op (.b2s (.tmp 32))), none⟩,
      ⟨(some 34), (.op (.bin .eql (some .str) (.tmp 33) (.cst (.str [45, 45, 45, 10, 45, 32, 100, 101, 102, 97, 117, 108, 116, 10, 45, 32, 97, 10])))), none⟩,
      ⟨(some 35), (.op (.mv (.tmp 34))), none⟩,
      ⟨(some 36), (.op (.mv (.tmp 3))), (some (35, true))⟩,
      ⟨(some 37), (.op (.b2s (.tmp 36))), (some (35, true))⟩,
      ⟨(some 38), (.op (.bin .eql (some .str) (.tmp 37) (.cst (.str [45, 45, 45, 10, 110, 97, 109, 101, 58, 32, 97, 58, 98, 10])))), (some (35, true))⟩,
      ⟨(some 39), (.op (.pick (.tmp 35) (.tmp 38) (.cst (.bool false)))), none⟩,
      ⟨(some 40), (.op (.mv (.tmp 39))), none⟩,
      ⟨(some 41), (.op (.mv (.tmp 5))), (some (40, true))⟩,
      ⟨(some 42), (.op (.len .slice (.tmp 41))), (some (40, true))⟩,
      ⟨(some 43), (.op (.bin .eql (some .int) (.tmp 42) (.cst (.int .i64 1)))), (some (40, true))⟩,
      ⟨(some 44), (.op (.pick (.tmp 40) (.tmp 43) (.cst (.bool false)))), none⟩,
      ⟨(some 45), (.op (.mv (.tmp 44))), none⟩,
      ⟨(some 46), (.op (.mv (.tmp 5))), (some (45, true))⟩,
      ⟨(some 47), (.op (.idxS 1 (.tmp 46) (.cst (.int .i64 0)))), (some (45, true))⟩,
      ⟨(some 48), (.op (.load none (.tmp 47))), (some (45, true))⟩,
      ⟨(some 49), (.op (.bin .eql (some .str) (.tmp 48) (.cst (.str [97])))), (some (45, true))⟩,
      ⟨(some 50), (.op (.pick (.tmp 45) (.tmp 49) (.cst (.bool false)))), none⟩,
      ⟨(some 51), (.op (.mv (.tmp 50))), none⟩,
      ⟨(some 52), (.op (.mv (.tmp 7))), (some (51, true))⟩,
      ⟨(some 53), (.op (.len .slice (.tmp 52))), (some (51, true))⟩,
      ⟨(some 54), (.op (.bin .eql (some .int) (.tmp 53) (.cst (.int .i64 1)))), (some (51, true))⟩,
      ⟨(some 55), (.op (.pick (.tmp 51) (.tmp 54) (.cst (.bool false)))), none⟩,
      ⟨(some 56), (.op (.mv (.tmp 55))), none⟩,
      ⟨(some 57), (.op (.mv (.tmp 7))), (some (56, true))⟩,
      ⟨(some 58), (.op (.idxS 2 (.tmp 57) (.cst (.int .i64 0)))), (some (56, true))⟩,
      ⟨(some 59), (.op (.load (some 2) (.tmp 58))), (some (56, true))⟩,
      ⟨(some 60), (.op (.build [(.str []), (.str [])] [(0, 1, (.cst (.str [107]))), (1, 1, (.cst (.str [118])))])), (some (56, true))⟩,
      ⟨(some 61), (.op (.bin .eql (some (.struct [(0, none, .str), (1, none, .str)])) (.tmp 59) (.tmp 60))), (some (56, true))⟩,
      ⟨(some 62), (.op (.pick (.tmp 56) (.tmp 61) (.cst (.bool false)))), none⟩,
      ⟨(some 63), (.op (.mv (.tmp 62))), none⟩,
      ⟨(some 64), (.op (.mv (.tmp 2))), (some (63, true))⟩,
      ⟨(some 65), (.op (.bin .eql (some .int) (.tmp 64) (.cst (.int .i64 0)))), (some (63, true))⟩,
      ⟨(some 66), (.op (.pick (.tmp 63) (.tmp 65) (.cst (.bool false)))), none⟩,
      ⟨(some 67), (.op (.mv (.tmp 66))), none⟩,
      ⟨(some 68), (.op (.mv (.tmp 4))), (some (67, true))⟩,
      ⟨(some 69), (.op (.bin .eql (some .int) (.tmp 68) (.cst (.int .i64 0)))), (some (67, true))⟩,
      ⟨(some 70), (.op (.pick (.tmp 67) (.tmp 69) (.cst (.bool false)))), none⟩,
      ⟨(some 71), (.op (.mv (.tmp 70))), none⟩,
      ⟨(some 72), (.op (.mv (.tmp 6))), (some (71, true))⟩,
      ⟨(some 73), (.op (.bin .eql (some .int) (.tmp 72) (.cst (.int .i64 0)))), (some (71, true))⟩,
      ⟨(some 74), (.op (.pick (.tmp 71) (.tmp 73) (.cst (.bool false)))), none⟩,
      ⟨(some 75), (.op (.mv (.tmp 74))), none⟩,
      ⟨(some 76), (.op (.mv (.tmp 8))), (some (75, true))⟩,
      ⟨(some 77), (.op (.bin .eql (some .int) (.tmp 76) (.cst (.int .i64 0)))), (some (75, true))⟩,
      ⟨(some 78), (.op (.pick (.tmp 75) (.tmp 77) (.cst (.bool false)))), none⟩,
      ⟨(some 0), (.op (.mv (.tmp 78))), none⟩] [])
    .ret))))))⟩
theorem c9 : cFn Tryd.prog [] Tryd.f9 = some h9 := by kernel_rfl
/-- stint/yaml.ReadList -/
def h15 : HFn :=
  ⟨55, [(.tmp 2), (.tmp 3)],
    (.seq (.region [
      ⟨(some 2), (.op (.mv (.cst .nilSlice))), none⟩,
      ⟨(some 3), (.op (.mv (.cst (.int .i64 0)))), none⟩] [])
    (.scope
      (.seq (.region [
        ⟨(some 14), (.op (.mv (.tmp 0))), none⟩,
        ⟨(some 15), (.op (.b2s (.tmp 14))), none⟩,
        ⟨(some 16), (.call (.cst (.func (.func 34) [] [])) [(.tmp 15), (.cst (.str [45, 45, 45, 10]))]), none⟩,
        ⟨(some 13), (.op (.mv (.tmp 16))), none⟩,
        ⟨(some 17), (.op (.ext 0 (.tmp 13))), none⟩,
        ⟨(some 18), (.op (.ext 1 (.tmp 13))), none⟩,
        ⟨(some 4), (.op (.mv (.tmp 17))), none⟩,
        ⟨(some 5), (.op (.mv (.tmp 18))), none⟩] [])
      (.seq (.region [
        ⟨(some 6), (.op (.mv (.cst .nilSlice))), none⟩] [])
      (.seq .lab
      (.seq (.block 0
        (.loop
          (.seq (.seq (.region [
            ⟨(some 19), (.op (.mv (.tmp 5))), none⟩,
            ⟨(some 20), (.op (.mv (.tmp 19))), none⟩,
            ⟨(some 21), (.op (.mv (.tmp 4))), (some (20, true))⟩,
            ⟨(some 22), (.op (.bin .neq (some .str) (.tmp 21) (.cst (.str [])))), (some (20, true))⟩,
            ⟨(some 23), (.op (.pick (.tmp 20) (.tmp 22) (.cst (.bool false)))), none⟩] [])
          (.cond (.tmp 23)
            .skip
            (.exit 0)))
          (.block 1
            (.seq (.region [
              ⟨(some 25), (.op (.mv (.tmp 4))), none⟩,
              ⟨(some 26), (.call (.cst (.func (.func 35) [] [])) [(.tmp 25)]), none⟩,
              ⟨(some 24), (.op (.mv (.tmp 26))), none⟩,
              ⟨(some 27), (.op (.ext 0 (.tmp 24))), none⟩,
              ⟨(some 28), (.op (.ext 1 (.tmp 24))), none⟩,
              ⟨(some 29), (.op (.ext 2 (.tmp 24))), none⟩,
              ⟨(some 7), (.op (.mv (.tmp 27))), none⟩,
              ⟨(some 8), (.op (.mv (.tmp 28))), none⟩,
              ⟨(some 9), (.op (.mv (.tmp 29))), none⟩] [])
            (.seq (.seq (.region [
              ⟨(some 30), (.op (.mv (.tmp 9))), none⟩,
              ⟨(some 31), (.op (.un .not (.tmp 30))), none⟩,
              ⟨(some 32), (.op (.mv (.tmp 7))), none⟩,
              ⟨(some 33), (.call (.cst (.func (.func 36) [] [])) [(.tmp 32), (.cst (.str [45, 32]))]), none⟩,
              ⟨(some 34), (.op (.un .not (.tmp 33))), none⟩,
              ⟨(some 35), (.op (.bslice 1 2 [(.bool false), (.bool false)] [(0, 1, (.tmp 31)), (1, 1, (.tmp 34))])), none⟩,
              ⟨(some 36), (.op (.len .slice (.tmp 35))), none⟩,
              ⟨(some 37), (.op (.mv (.cst (.int .i64 0)))), none⟩] [])
            (.block 2
              (.loop
                (.seq (.region [
                  ⟨(some 38), (.op (.bin .lss none (.tmp 37) (.tmp 36))), none⟩] [])
                (.seq (.cond (.tmp 38)
                  .skip
                  (.exit 2))
                (.seq (.block 3
                  (.seq (.region [
                    ⟨(some 39), (.op (.idxS 1 (.tmp 35) (.tmp 37))), none⟩,
                    ⟨(some 40), (.op (.load none (.tmp 39))), none⟩,
                    ⟨(some 11), (.op (.mv (.tmp 40))), none⟩] [])
                  (.seq (.region [
                    ⟨(some 41), (.op (.mv (.tmp 11))), none⟩] [])
                  (.cond (.tmp 41)
                    (.seq (.region [
                      ⟨(some 5), (.op (.mv (.cst (.bool false)))), none⟩] [])
                    (.exit 0))
                    .skip))))
                (.region [
                  ⟨(some 42), (.op (.bin .add none (.tmp 37) (.cst (.int .i64 1)))), none⟩,
                  ⟨(some 37), (.op (.mv (.tmp 42))), none⟩] [])))))))
            (.seq (.region [
              ⟨(some 43), (.op (.mv (.tmp 7))), none⟩,
              ⟨(some 44), (.op (.sliceStr (.tmp 43) (some (.cst (.int .i64 2))) none)), none⟩,
              ⟨(some 12), (.op (.mv (.tmp 44))), none⟩] [])
            (.seq (.region [
              ⟨(some 45), (.op (.mv (.tmp 12))), none⟩,
              ⟨(some 46), (.call (.cst (.func (.func 37) [] [])) [(.tmp 45)]), none⟩,
              ⟨(some 5), (.op (.mv (.tmp 46))), none⟩] [])
            (.seq (.region [
              ⟨(some 47), (.op (.mv (.tmp 6))), none⟩,
              ⟨(some 48), (.op (.mv (.tmp 12))), none⟩,
              ⟨(some 49), (.op (.bslice 1 1 [(.str [])] [(0, 1, (.tmp 48))])), none⟩,
              ⟨(some 50), (.op (.append 1 16 (.tmp 47) (.tmp 49))), none⟩,
              ⟨(some 6), (.op (.mv (.tmp 50))), none⟩] [])
            (.region [
              ⟨(some 51), (.op (.mv (.tmp 8))), none⟩,
              ⟨(some 4), (.op (.mv (.tmp 51))), none⟩] []))))))))))
      (.seq (.seq (.region [
        ⟨(some 52), (.op (.mv (.tmp 5))), none⟩,
        ⟨(some 53), (.op (.un .not (.tmp 52))), none⟩] [])
      (.cond (.tmp 53)
        (.seq (.region [
          ⟨(some 2), (.op (.mv (.cst .nilSlice))), none⟩,
          ⟨(some 3), (.op (.mv (.cst (.int .i64 92)))), none⟩] [])
        .ret)
        .skip))
      (.seq (.region [
        ⟨(some 54), (.op (.mv (.tmp 6))), none⟩,
        ⟨(some 2), (.op (.mv (.tmp 54))), none⟩,
        ⟨(some 3), (.op (.mv (.cst (.int .i64 0)))), none⟩] [])
      .ret))))))))⟩
theorem c15 : cFn Tryd.prog [] Tryd.f15 = some h15 := by kernel_rfl
/-- stint/yaml.ReadDict -/
def h21 : HFn :=
  ⟨69, [(.tmp 2), (.tmp 3)],
    (.seq (.region [
      ⟨(some 2), (.op (.mv (.cst .nilSlice))), none⟩,
      ⟨(some 3), (.op (.mv (.cst (.int .i64 0)))), none⟩] [])
    (.seq (.region [
      ⟨(some 14), (.op (.mv (.tmp 0))), none⟩,
      ⟨(some 15), (.op (.b2s (.tmp 14))), none⟩,
      ⟨(some 16), (.call (.cst (.func (.func 34) [] [])) [(.tmp 15), (.cst (.str [45, 45, 45, 10]))]), none⟩,
      ⟨(some 13), (.op (.mv (.tmp 16))), none⟩,
      ⟨(some 17), (.op (.ext 0 (.tmp 13))), none⟩,
      ⟨(some 18), (.op (.ext 1 (.tmp 13))), none⟩,
      ⟨(some 4), (.op (.mv (.tmp 17))), none⟩,
      ⟨(some 5), (.op (.mv (.tmp 18))), none⟩] [])
    (.seq (.region [
      ⟨(some 6), (.op (.mv (.cst .nilSlice))), none⟩] [])
    (.seq (.block 0
      (.loop
        (.seq (.seq (.region [
          ⟨(some 19), (.op (.mv (.tmp 5))), none⟩,
          ⟨(some 20), (.op (.mv (.tmp 19))), none⟩,
          ⟨(some 21), (.op (.mv (.tmp 4))), (some (20, true))⟩,
          ⟨(some 22), (.op (.bin .neq (some .str) (.tmp 21) (.cst (.str [])))), (some (20, true))⟩,
          ⟨(some 23), (.op (.pick (.tmp 20) (.tmp 22) (.cst (.bool false)))), none⟩] [])
        (.cond (.tmp 23)
          .skip
          (.exit 0)))
        (.block 1
          (.seq (.region [
            ⟨(some 25), (.op (.mv (.tmp 4))), none⟩,
            ⟨(some 26), (.call (.cst (.func (.func 35) [] [])) [(.tmp 25)]), none⟩,
            ⟨(some 24), (.op (.mv (.tmp 26))), none⟩,
            ⟨(some 27), (.op (.ext 0 (.tmp 24))), none⟩,
            ⟨(some 28), (.op (.ext 1 (.tmp 24))), none⟩,
            ⟨(some 29), (.op (.ext 2 (.tmp 24))), none⟩,
            ⟨(some 7), (.op (.mv (.tmp 27))), none⟩,
            ⟨(some 8), (.op (.mv (.tmp 28))), none⟩,
            ⟨(some 9), (.op (.mv (.tmp 29))), none⟩] [])
          (.seq (.region [
            ⟨(some 31), (.op (.mv (.tmp 7))), none⟩,
            ⟨(some 32), (.call (.cst (.func (.func 40) [] [])) [(.tmp 31), (.cst (.str [58, 32]))]), none⟩,
            ⟨(some 30), (.op (.mv (.tmp 32))), none⟩,
            ⟨(some 33), (.op (.ext 0 (.tmp 30))), none⟩,
            ⟨(some 34), (.op (.ext 1 (.tmp 30))), none⟩,
            ⟨(some 35), (.op (.ext 2 (.tmp 30))), none⟩,
            ⟨(some 10), (.op (.mv (.tmp 33))), none⟩,
            ⟨(some 11), (.op (.mv (.tmp 34))), none⟩,
            ⟨(some 12), (.op (.mv (.tmp 35))), none⟩] [])
          (.seq (.region [
            ⟨(some 36), (.op (.mv (.tmp 9))), none⟩,
            ⟨(some 37), (.op (.mv (.tmp 36))), none⟩,
            ⟨(some 38), (.op (.mv (.tmp 12))), (some (37, true))⟩,
            ⟨(some 39), (.op (.pick (.tmp 37) (.tmp 38) (.cst (.bool false)))), none⟩,
            ⟨(some 40), (.op (.mv (.tmp 39))), none⟩,
            ⟨(some 41), (.op (.mv (.tmp 10))), (some (40, true))⟩,
            ⟨(some 42), (.call (.cst (.func (.func 41) [] [])) [(.tmp 41)]), (some (40, true))⟩,
            ⟨(some 43), (.op (.pick (.tmp 40) (.tmp 42) (.cst (.bool false)))), none⟩,
            ⟨(some 44), (.op (.mv (.tmp 43))), none⟩,
            ⟨(some 45), (.op (.mv (.tmp 11))), (some (44, true))⟩,
            ⟨(some 46), (.call (.cst (.func (.func 37) [] [])) [(.tmp 45)]), (some (44, true))⟩,
            ⟨(some 47), (.op (.pick (.tmp 44) (.tmp 46) (.cst (.bool false)))), none⟩,
            ⟨(some 48), (.op (.mv (.tmp 47))), none⟩,
            ⟨(some 49), (.op (.mv (.tmp 6))), (some (48, true))⟩,
            ⟨(some 50), (.op (.mv (.tmp 10))), (some (48, true))⟩,
            ⟨(some 51), (.call (.cst (.func (.func 42) [] [])) [(.tmp 49), (.tmp 50)]), (some (48, true))⟩,
            ⟨(some 52), (.op (.un .not (.tmp 51))), (some (48, true))⟩,
            ⟨(some 53), (.op (.pick (.tmp 48) (.tmp 52) (.cst (.bool false)))), none⟩,
            ⟨(some 54), (.op (.mv (.tmp 53))), none⟩,
            ⟨(some 55), (.op (.mv (.tmp 6))), (some (54, true))⟩,
            ⟨(some 56), (.op (.len .slice (.tmp 55))), (some (54, true))⟩,
            ⟨(some 57), (.op (.bin .lss none (.tmp 56) (.cst (.int .i64 256)))), (some (54, true))⟩,
            ⟨(some 58), (.op (.pick (.tmp 54) (.tmp 57) (.cst (.bool false)))), none⟩,
            ⟨(some 5), (.op (.mv (.tmp 58))), none⟩] [])
          (.seq (.region [
            ⟨(some 59), (.op (.mv (.tmp 6))), none⟩,
            ⟨(some 60), (.op (.mv (.tmp 10))), none⟩,
            ⟨(some 61), (.op (.mv (.tmp 11))), none⟩,
            ⟨(some 62), (.op (.build [(.str []), (.str [])] [(0, 1, (.tmp 60)), (1, 1, (.tmp 61))])), none⟩,
            ⟨(some 63), (.op (.bslice 2 1 [(.str []), (.str [])] [(0, 2, (.tmp 62))])), none⟩,
            ⟨(some 64), (.op (.append 2 32 (.tmp 59) (.tmp 63))), none⟩,
            ⟨(some 6), (.op (.mv (.tmp 64))), none⟩] [])
          (.region [
            ⟨(some 65), (.op (.mv (.tmp 8))), none⟩,
            ⟨(some 4), (.op (.mv (.tmp 65))), none⟩] [])))))))))
    (.seq (.seq (.region [
      ⟨(some 66), (.op (.mv (.tmp 5))), none⟩,
      ⟨(some 67), (.op (.un .not (.tmp 66))), none⟩] [])
    (.cond (.tmp 67)
      (.seq (.region [
        ⟨(some 2), (.op (.mv (.cst .nilSlice))), none⟩,
        ⟨(some 3), (.op (.mv (.cst (.int .i64 92)))), none⟩] [])
      .ret)
      .skip))
    (.seq (.region [
      ⟨(some 68), (.op (.mv (.tmp 6))), none⟩,
      ⟨(some 2), (.op (.mv (.tmp 68))), none⟩,
      ⟨(some 3), (.op (.mv (.cst (.int .i64 0)))), none⟩] [])
    .ret))))))⟩
theorem c21 : cFn Tryd.prog [] Tryd.f21 = some h21 := by kernel_rfl
/-- stint/yaml.List -/
def h27 : HFn :=
  ⟨22, [(.tmp 2), (.tmp 3)],
    (.seq (.region [
      ⟨(some 2), (.op (.mv (.cst .nilSlice))), none⟩,
      ⟨(some 3), (.op (.mv (.cst (.int .i64 0)))), none⟩] [])
    (.seq (.region [
      ⟨(some 4), (.op (.box (.cst (.agg [.nilSlice, (.int .i64 0), (.int .i8 0)])))), none⟩] [])
    (.seq (.region [
      ⟨(some 7), (.call (.cst (.func (.func 46) [] [])) [(.tmp 4), (.cst (.str [45, 45, 45, 10]))]), none⟩] [])
    (.seq (.seq (.region [
      ⟨(some 8), (.op (.mv (.tmp 0))), none⟩,
      ⟨(some 9), (.op (.len .slice (.tmp 8))), none⟩,
      ⟨(some 10), (.op (.mv (.cst (.int .i64 0)))), none⟩] [])
    (.block 0
      (.loop
        (.seq (.region [
          ⟨(some 11), (.op (.bin .lss none (.tmp 10) (.tmp 9))), none⟩] [])
        (.seq (.cond (.tmp 11)
          .skip
          (.exit 0))
        (.seq (.block 1
          (.seq (.region [
            ⟨(some 12), (.op (.idxS 1 (.tmp 8) (.tmp 10))), none⟩,
            ⟨(some 13), (.op (.load none (.tmp 12))), none⟩,
            ⟨(some 6), (.op (.mv (.tmp 13))), none⟩] [])
          (.seq (.seq (.region [
            ⟨(some 14), (.op (.mv (.tmp 6))), none⟩,
            ⟨(some 15), (.call (.cst (.func (.func 37) [] [])) [(.tmp 14)]), none⟩,
            ⟨(some 16), (.op (.un .not (.tmp 15))), none⟩] [])
          (.cond (.tmp 16)
            (.seq (.region [
              ⟨(some 2), (.op (.mv (.cst .nilSlice))), none⟩,
              ⟨(some 3), (.op (.mv (.cst (.int .i64 91)))), none⟩] [])
            .ret)
            .skip))
          (.region [
            ⟨(some 17), (.op (.mv (.tmp 6))), none⟩,
            ⟨(some 18), (.op (.bslice 1 2 [(.str []), (.str [])] [(0, 1, (.cst (.str [45, 32]))), (1, 1, (.tmp 17))])), none⟩,
            ⟨(some 19), (.call (.cst (.func (.func 47) [] [])) [(.tmp 4), (.tmp 18)]), none⟩] []))))
        (.region [
          ⟨(some 20), (.op (.bin .add none (.tmp 10) (.cst (.int .i64 1)))), none⟩,
          ⟨(some 10), (.op (.mv (.tmp 20))), none⟩] [])))))))
    (.seq (.region [
      ⟨(some 21), (.call (.cst (.func (.func 48) [] [])) [(.tmp 4)]), none⟩,
      ⟨(some 2), (.op (.mv (.tmp 21))), none⟩,
      ⟨(some 3), (.op (.mv (.cst (.int .i64 0)))), none⟩] [])
    .ret)))))⟩
theorem c27 : cFn Tryd.prog [] Tryd.f27 = some h27 := by kernel_rfl
/-- stint/yaml.Dict -/
def h29 : HFn :=
  ⟨42, [(.tmp 2), (.tmp 3)],
    (.seq (.region [
      ⟨(some 2), (.op (.mv (.cst .nilSlice))), none⟩,
      ⟨(some 3), (.op (.mv (.cst (.int .i64 0)))), none⟩] [])
    (.seq (.seq (.region [
      ⟨(some 7), (.op (.mv (.tmp 0))), none⟩,
      ⟨(some 8), (.op (.len .slice (.tmp 7))), none⟩,
      ⟨(some 9), (.op (.bin .gtr none (.tmp 8) (.cst (.int .i64 256)))), none⟩] [])
    (.cond (.tmp 9)
      (.seq (.region [
        ⟨(some 2), (.op (.mv (.cst .nilSlice))), none⟩,
        ⟨(some 3), (.op (.mv (.cst (.int .i64 1)))), none⟩] [])
      .ret)
      .skip))
    (.seq (.region [
      ⟨(some 4), (.op (.box (.cst (.agg [.nilSlice, (.int .i64 0), (.int .i8 0)])))), none⟩] [])
    (.seq (.region [
      ⟨(some 10), (.call (.cst (.func (.func 46) [] [])) [(.tmp 4), (.cst (.str [45, 45, 45, 10]))]), none⟩] [])
    (.seq (.seq (.region [
      ⟨(some 11), (.op (.mv (.tmp 0))), none⟩,
      ⟨(some 12), (.op (.len .slice (.tmp 11))), none⟩,
      ⟨(some 13), (.op (.mv (.cst (.int .i64 0)))), none⟩] [])
    (.block 0
      (.loop
        (.seq (.region [
          ⟨(some 14), (.op (.bin .lss none (.tmp 13) (.tmp 12))), none⟩] [])
        (.seq (.cond (.tmp 14)
          .skip
          (.exit 0))
        (.seq (.block 1
          (.seq (.region [
            ⟨(some 15), (.op (.mv (.tmp 13))), none⟩,
            ⟨(some 16), (.op (.idxS 2 (.tmp 11) (.tmp 13))), none⟩,
            ⟨(some 17), (.op (.load (some 2) (.tmp 16))), none⟩,
            ⟨(some 6), (.op (.box (.cst (.agg [(.str []), (.str [])])))), none⟩,
            ⟨(some 5), (.op (.mv (.tmp 15))), none⟩,
            ⟨none, (.op (.store 2 (.tmp 6) (.tmp 17))), none⟩] [])
          (.seq (.seq (.draw [
            ⟨(some 18), (.op (.faddr 0 (.tmp 6))), none⟩,
            ⟨(some 19), (.op (.load none (.tmp 18))), none⟩,
            ⟨(some 20), (.call (.cst (.func (.func 41) [] [])) [(.tmp 19)]), none⟩,
            ⟨(some 21), (.op (.un .not (.tmp 20))), none⟩,
            ⟨(some 22), (.op (.mv (.tmp 21))), none⟩,
            ⟨(some 23), (.op (.mv (.tmp 0))), (some (22, false))⟩,
            ⟨(some 24), (.op (.mv (.tmp 5))), (some (22, false))⟩,
            ⟨(some 25), (.op (.sliceSl 2 (.tmp 23) none (some (.tmp 24)) none)), (some (22, false))⟩,
            ⟨(some 26), (.op (.faddr 0 (.tmp 6))), (some (22, false))⟩,
            ⟨(some 27), (.op (.load none (.tmp 26))), (some (22, false))⟩,
            ⟨(some 28), (.call (.cst (.func (.func 42) [] [])) [(.tmp 25), (.tmp 27)]), (some (22, false))⟩,
            ⟨(some 29), (.op (.pick (.tmp 22) (.cst (.bool true)) (.tmp 28))), none⟩] [0, 1, 2, 3, 4, 5, 6, 7, 8, 9, 10, 11] [[], [], [1], [], [], [], [], [], [], [], [7, 1, 9], []] [])
          (.cond (.tmp 29)
            (.seq (.region [
              ⟨(some 2), (.op (.mv (.cst .nilSlice))), none⟩,
              ⟨(some 3), (.op (.mv (.cst (.int .i64 90)))), none⟩] [])
            .ret)
            .skip))
          (.seq (.seq (.region [
            ⟨(some 30), (.op (.faddr 1 (.tmp 6))), none⟩,
            ⟨(some 31), (.op (.load none (.tmp 30))), none⟩,
            ⟨(some 32), (.call (.cst (.func (.func 37) [] [])) [(.tmp 31)]), none⟩,
            ⟨(some 33), (.op (.un .not (.tmp 32))), none⟩] [])
          (.cond (.tmp 33)
            (.seq (.region [
              ⟨(some 2), (.op (.mv (.cst .nilSlice))), none⟩,
              ⟨(some 3), (.op (.mv (.cst (.int .i64 91)))), none⟩] [])
            .ret)
            .skip))
          (.region [
            ⟨(some 34), (.op (.faddr 0 (.tmp 6))), none⟩,
            ⟨(some 35), (.op (.load none (.tmp 34))), none⟩,
            ⟨(some 36), (.op (.faddr 1 (.tmp 6))), none⟩,
            ⟨(some 37), (.op (.load none (.tmp 36))), none⟩,
            ⟨(some 38), (.op (.bslice 1 3 [(.str []), (.str []), (.str [])] [(0, 1, (.tmp 35)), (1, 1, (.cst (.str [58, 32]))), (2, 1, (.tmp 37))])), none⟩,
            ⟨(some 39), (.call (.cst (.func (.func 47) [] [])) [(.tmp 4), (.tmp 38)]), none⟩] [])))))
        (.region [
          ⟨(some 40), (.op (.bin .add none (.tmp 13) (.cst (.int .i64 1)))), none⟩,
          ⟨(some 13), (.op (.mv (.tmp 40))), none⟩] [])))))))
    (.seq (.region [
      ⟨(some 41), (.call (.cst (.func (.func 48) [] [])) [(.tmp 4)]), none⟩,
      ⟨(some 2), (.op (.mv (.tmp 41))), none⟩,
      ⟨(some 3), (.op (.mv (.cst (.int .i64 0)))), none⟩] [])
    .ret))))))⟩
theorem c29 : cFn Tryd.prog [] Tryd.f29 = some h29 := by kernel_rfl
/-- strings.CutPrefix -/
def h34 : HFn :=
  ⟨11, [(.tmp 4), (.tmp 5)],
    (.seq (.region [
      ⟨(some 4), (.op (.mv (.cst (.str [])))), none⟩,
      ⟨(some 5), (.op (.mv (.cst (.bool false)))), none⟩] [])
    (.seq (.region [
      ⟨(some 6), (.op (.mv (.tmp 0))), none⟩,
      ⟨(some 7), (.op (.mv (.tmp 1))), none⟩,
      ⟨(some 8), (.call (.cst (.func (.func 49) [] [])) [(.tmp 6), (.tmp 7)]), none⟩,
      ⟨(some 9), (.op (.ext 0 (.tmp 8))), none⟩,
      ⟨(some 10), (.op (.ext 1 (.tmp 8))), none⟩,
      ⟨(some 4), (.op (.mv (.tmp 9))), none⟩,
      ⟨(some 5), (.op (.mv (.tmp 10))), none⟩] [])
    .ret))⟩
theorem c34 : cFn Tryd.prog [] Tryd.f34 = some h34 := by kernel_rfl
/-- stint/yaml.cut -/
def h35 : HFn :=
  ⟨10, [(.tmp 2), (.tmp 3), (.tmp 4)],
    (.seq (.region [
      ⟨(some 2), (.op (.mv (.cst (.str [])))), none⟩,
      ⟨(some 3), (.op (.mv (.cst (.str [])))), none⟩,
      ⟨(some 4), (.op (.mv (.cst (.bool false)))), none⟩] [])
    (.seq (.region [
      ⟨(some 5), (.op (.mv (.tmp 0))), none⟩,
      ⟨(some 6), (.call (.cst (.func (.func 40) [] [])) [(.tmp 5), (.cst (.str [10]))]), none⟩,
      ⟨(some 7), (.op (.ext 0 (.tmp 6))), none⟩,
      ⟨(some 8), (.op (.ext 1 (.tmp 6))), none⟩,
      ⟨(some 9), (.op (.ext 2 (.tmp 6))), none⟩,
      ⟨(some 2), (.op (.mv (.tmp 7))), none⟩,
      ⟨(some 3), (.op (.mv (.tmp 8))), none⟩,
      ⟨(some 4), (.op (.mv (.tmp 9))), none⟩] [])
    .ret))⟩
theorem c35 : cFn Tryd.prog [] Tryd.f35 = some h35 := by kernel_rfl
/-- strings.HasPrefix -/
def h36 : HFn :=
  ⟨8, [(.tmp 4)],
    (.seq (.region [
      ⟨(some 4), (.op (.mv (.cst (.bool false)))), none⟩] [])
    (.seq (.region [
      ⟨(some 5), (.op (.mv (.tmp 0))), none⟩,
      ⟨(some 6), (.op (.mv (.tmp 1))), none⟩,
      ⟨(some 7), (.call (.cst (.func (.func 50) [] [])) [(.tmp 5), (.tmp 6)]), none⟩,
      ⟨(some 4), (.op (.mv (.tmp 7))), none⟩] [])
    .ret))⟩
theorem c36 : cFn Tryd.prog [] Tryd.f36 = some h36 := by kernel_rfl
/-- stint/yaml.plain -/
def h37 : HFn :=
  ⟨26, [(.tmp 2)],
    (.seq (.region [
      ⟨(some 2), (.op (.mv (.cst (.bool false)))), none⟩] [])
    (.seq (.seq (.region [
      ⟨(some 5), (.op (.mv (.tmp 0))), none⟩,
      ⟨(some 6), (.op (.s2b (.tmp 5))), none⟩,
      ⟨(some 7), (.op (.len .slice (.tmp 6))), none⟩,
      ⟨(some 8), (.op (.mv (.cst (.int .i64 0)))), none⟩] [])
    (.block 0
      (.loop
        (.seq (.region [
          ⟨(some 9), (.op (.bin .lss none (.tmp 8) (.tmp 7))), none⟩] [])
        (.seq (.cond (.tmp 9)
          .skip
          (.exit 0))
        (.seq (.block 1
          (.seq (.region [
            ⟨(some 10), (.op (.idxS 1 (.tmp 6) (.tmp 8))), none⟩,
            ⟨(some 11), (.op (.load none (.tmp 10))), none⟩,
            ⟨(some 4), (.op (.mv (.tmp 11))), none⟩] [])
          (.seq (.region [
            ⟨(some 12), (.op (.mv (.tmp 4))), none⟩,
            ⟨(some 13), (.op (.bin .lss none (.tmp 12) (.cst (.int .u8 33)))), none⟩,
            ⟨(some 14), (.op (.mv (.tmp 13))), none⟩,
            ⟨(some 15), (.op (.mv (.tmp 4))), (some (14, false))⟩,
            ⟨(some 16), (.op (.bin .gtr none (.tmp 15) (.cst (.int .u8 126)))), (some (14, false))⟩,
            ⟨(some 17), (.op (.pick (.tmp 14) (.cst (.bool true)) (.tmp 16))), none⟩] [])
          (.cond (.tmp 17)
            (.seq (.region [
              ⟨(some 2), (.op (.mv (.cst (.bool false)))), none⟩] [])
            .ret)
            .skip))))
        (.region [
          ⟨(some 18), (.op (.bin .add none (.tmp 8) (.cst (.int .i64 1)))), none⟩,
          ⟨(some 8), (.op (.mv (.tmp 18))), none⟩] [])))))))
    (.seq (.region [
      ⟨(some 19), (.op (.mv (.tmp 0))), none⟩,
      ⟨(some 20), (.op (.bin .neq (some .str) (.tmp 19) (.cst (.str [])))), none⟩,
      ⟨(some 21), (.op (.mv (.tmp 20))), none⟩,
      ⟨(some 22), (.op (.mv (.tmp 0))), (some (21, true))⟩,
      ⟨(some 23), (.op (.len .str (.tmp 22))), (some (21, true))⟩,
      ⟨(some 24), (.op (.bin .leq none (.tmp 23) (.cst (.int .i64 4096)))), (some (21, true))⟩,
      ⟨(some 25), (.op (.pick (.tmp 21) (.tmp 24) (.cst (.bool false)))), none⟩,
      ⟨(some 2), (.op (.mv (.tmp 25))), none⟩] [])
    .ret)))⟩
theorem c37 : cFn Tryd.prog [] Tryd.f37 = some h37 := by kernel_rfl
/-- strings.Cut -/
def h40 : HFn :=
  ⟨13, [(.tmp 4), (.tmp 5), (.tmp 6)],
    (.seq (.region [
      ⟨(some 4), (.op (.mv (.cst (.str [])))), none⟩,
      ⟨(some 5), (.op (.mv (.cst (.str [])))), none⟩,
      ⟨(some 6), (.op (.mv (.cst (.bool false)))), none⟩] [])
    (.seq (.region [
      ⟨(some 7), (.op (.mv (.tmp 0))), none⟩,
      ⟨(some 8), (.op (.mv (.tmp 1))), none⟩,
      ⟨(some 9), (.call (.cst (.func (.func 51) [] [])) [(.tmp 7), (.tmp 8)]), none⟩,
      ⟨(some 10), (.op (.ext 0 (.tmp 9))), none⟩,
      ⟨(some 11), (.op (.ext 1 (.tmp 9))), none⟩,
      ⟨(some 12), (.op (.ext 2 (.tmp 9))), none⟩,
      ⟨(some 4), (.op (.mv (.tmp 10))), none⟩,
      ⟨(some 5), (.op (.mv (.tmp 11))), none⟩,
      ⟨(some 6), (.op (.mv (.tmp 12))), none⟩] [])
    .ret))⟩
theorem c40 : cFn Tryd.prog [] Tryd.f40 = some h40 := by kernel_rfl
/-- stint/yaml.right -/
def h41 : HFn :=
  ⟨38, [(.tmp 2)],
    (.seq (.region [
      ⟨(some 2), (.op (.mv (.cst (.bool false)))), none⟩] [])
    (.seq (.seq (.region [
      ⟨(some 5), (.op (.mv (.tmp 0))), none⟩,
      ⟨(some 6), (.op (.s2b (.tmp 5))), none⟩,
      ⟨(some 7), (.op (.len .slice (.tmp 6))), none⟩,
      ⟨(some 8), (.op (.mv (.cst (.int .i64 0)))), none⟩] [])
    (.block 0
      (.loop
        (.seq (.region [
          ⟨(some 9), (.op (.bin .lss none (.tmp 8) (.tmp 7))), none⟩] [])
        (.seq (.cond (.tmp 9)
          .skip
          (.exit 0))
        (.seq (.block 1
          (.seq (.region [
            ⟨(some 10), (.op (.idxS 1 (.tmp 6) (.tmp 8))), none⟩,
            ⟨(some 11), (.op (.load none (.tmp 10))), none⟩,
            ⟨(some 4), (.op (.mv (.tmp 11))), none⟩] [])
          (.seq (.region [
            ⟨(some 12), (.op (.mv (.tmp 4))), none⟩,
            ⟨(some 13), (.op (.bin .neq (some .int) (.tmp 12) (.cst (.int .u8 45)))), none⟩,
            ⟨(some 14), (.op (.mv (.tmp 13))), none⟩,
            ⟨(some 15), (.op (.mv (.tmp 4))), (some (14, true))⟩,
            ⟨(some 16), (.op (.bin .lss none (.tmp 15) (.cst (.int .u8 48)))), (some (14, true))⟩,
            ⟨(some 17), (.op (.mv (.tmp 16))), (some (14, true))⟩,
            ⟨(some 18), (.op (.mv (.tmp 4))), (some (17, false))⟩,
            ⟨(some 19), (.op (.bin .gtr none (.tmp 18) (.cst (.int .u8 57)))), (some (17, false))⟩,
            ⟨(some 20), (.op (.pick (.tmp 17) (.cst (.bool true)) (.tmp 19))), (some (14, true))⟩,
            ⟨(some 21), (.op (.pick (.tmp 14) (.tmp 20) (.cst (.bool false)))), none⟩,
            ⟨(some 22), (.op (.mv (.tmp 21))), none⟩,
            ⟨(some 23), (.op (.mv (.tmp 4))), (some (22, true))⟩,
            ⟨(some 24), (.op (.bin .lss none (.tmp 23) (.cst (.int .u8 97)))), (some (22, true))⟩,
            ⟨(some 25), (.op (.mv (.tmp 24))), (some (22, true))⟩,
            ⟨(some 26), (.op (.mv (.tmp 4))), (some (25, false))⟩,
            ⟨(some 27), (.op (.bin .gtr none (.tmp 26) (.cst (.int .u8 122)))), (some (25, false))⟩,
            ⟨(some 28), (.op (.pick (.tmp 25) (.cst (.bool true)) (.tmp 27))), (some (22, true))⟩,
            ⟨(some 29), (.op (.pick (.tmp 22) (.tmp 28) (.cst (.bool false)))), none⟩] [])
          (.cond (.tmp 29)
            (.seq (.region [
              ⟨(some 2), (.op (.mv (.cst (.bool false)))), none⟩] [])
            .ret)
            .skip))))
        (.region [
          ⟨(some 30), (.op (.bin .add none (.tmp 8) (.cst (.int .i64 1)))), none⟩,
          ⟨(some 8), (.op (.mv (.tmp 30))), none⟩] [])))))))
    (.seq (.region [
      ⟨(some 31), (.op (.mv (.tmp 0))), none⟩,
      ⟨(some 32), (.op (.bin .neq (some .str) (.tmp 31) (.cst (.str [])))), none⟩,
      ⟨(some 33), (.op (.mv (.tmp 32))), none⟩,
      ⟨(some 34), (.op (.mv (.tmp 0))), (some (33, true))⟩,
      ⟨(some 35), (.op (.len .str (.tmp 34))), (some (33, true))⟩,
      ⟨(some 36), (.op (.bin .leq none (.tmp 35) (.cst (.int .i64 64)))), (some (33, true))⟩,
      ⟨(some 37), (.op (.pick (.tmp 33) (.tmp 36) (.cst (.bool false)))), none⟩,
      ⟨(some 2), (.op (.mv (.tmp 37))), none⟩] [])
    .ret)))⟩
theorem c41 : cFn Tryd.prog [] Tryd.f41 = some h41 := by kernel_rfl
/-- stint/yaml.has -/
def h42 : HFn :=
  ⟨18, [(.tmp 4)],
    (.seq (.region [
      ⟨(some 4), (.op (.mv (.cst (.bool false)))), none⟩] [])
    (.seq (.seq (.region [
      ⟨(some 7), (.op (.mv (.tmp 0))), none⟩,
      ⟨(some 8), (.op (.len .slice (.tmp 7))), none⟩,
      ⟨(some 9), (.op (.mv (.cst (.int .i64 0)))), none⟩] [])
    (.block 0
      (.loop
        (.seq (.region [
          ⟨(some 10), (.op (.bin .lss none (.tmp 9) (.tmp 8))), none⟩] [])
        (.seq (.cond (.tmp 10)
          .skip
          (.exit 0))
        (.seq (.block 1
          (.seq (.region [
            ⟨(some 11), (.op (.idxS 2 (.tmp 7) (.tmp 9))), none⟩,
            ⟨(some 12), (.op (.load (some 2) (.tmp 11))), none⟩,
            ⟨(some 6), (.op (.box (.cst (.agg [(.str []), (.str [])])))), none⟩,
            ⟨none, (.op (.store 2 (.tmp 6) (.tmp 12))), none⟩] [])
          (.seq (.region [
            ⟨(some 13), (.op (.faddr 0 (.tmp 6))), none⟩,
            ⟨(some 14), (.op (.load none (.tmp 13))), none⟩,
            ⟨(some 15), (.op (.mv (.tmp 1))), none⟩,
            ⟨(some 16), (.op (.bin .eql (some .str) (.tmp 14) (.tmp 15))), none⟩] [])
          (.cond (.tmp 16)
            (.seq (.region [
              ⟨(some 4), (.op (.mv (.cst (.bool true)))), none⟩] [])
            .ret)
            .skip))))
        (.region [
          ⟨(some 17), (.op (.bin .add none (.tmp 9) (.cst (.int .i64 1)))), none⟩,
          ⟨(some 9), (.op (.mv (.tmp 17))), none⟩] [])))))))
    (.seq (.region [
      ⟨(some 4), (.op (.mv (.cst (.bool false)))), none⟩] [])
    .ret)))⟩
theorem c42 : cFn Tryd.prog [] Tryd.f42 = some h42 := by kernel_rfl
/-- stint/stintlaw09.mark -/
def h45 : HFn :=
  ⟨8, [(.tmp 2)],
    (.seq (.region [
      ⟨(some 2), (.op (.mv (.cst (.str [])))), none⟩] [])
    (.seq (.region [
      ⟨(some 3), (.op (.mv (.tmp 0))), none⟩,
      ⟨(some 4), (.op (.bin .add none (.cst (.int .i64 97)) (.tmp 3))), none⟩,
      ⟨(some 5), (.op (.cInt .u8 (.tmp 4))), none⟩,
      ⟨(some 6), (.op (.bslice 1 2 [(.int .u8 0), (.int .u8 0)] [(0, 1, (.cst (.int .u8 42))), (1, 1, (.tmp 5))])), none⟩,
      ⟨(some 7), (.op (.b2s (.tmp 6))), none⟩,
      ⟨(some 2), (.op (.mv (.tmp 7))), none⟩] [])
    .ret))⟩
theorem c45 : cFn Tryd.prog [] Tryd.f45 = some h45 := by kernel_rfl
/-- (*bytes.Buffer).WriteString -/
def h46 : HFn :=
  ⟨32, [(.tmp 4), (.tmp 5)],
    (.seq (.region [
      ⟨(some 4), (.op (.mv (.cst (.int .i64 0)))), none⟩,
      ⟨(some 5), (.op (.mv (.cst .nilIface))), none⟩] [])
    (.seq (.region [
      ⟨(some 8), (.op (.mv (.tmp 0))), none⟩,
      ⟨(some 9), (.op (.nilc (.tmp 8))), none⟩,
      ⟨(some 10), (.op (.faddr 2 (.tmp 9))), none⟩,
      ⟨none, (.op (.store 1 (.tmp 10) (.cst (.int .i8 0)))), none⟩] [])
    (.seq (.region [
      ⟨(some 12), (.op (.mv (.tmp 0))), none⟩,
      ⟨(some 13), (.op (.mv (.tmp 1))), none⟩,
      ⟨(some 14), (.op (.len .str (.tmp 13))), none⟩,
      ⟨(some 15), (.call (.cst (.func (.func 52) [] [])) [(.tmp 12), (.tmp 14)]), none⟩,
      ⟨(some 11), (.op (.mv (.tmp 15))), none⟩,
      ⟨(some 16), (.op (.ext 0 (.tmp 11))), none⟩,
      ⟨(some 17), (.op (.ext 1 (.tmp 11))), none⟩,
      ⟨(some 6), (.op (.mv (.tmp 16))), none⟩,
      ⟨(some 7), (.op (.mv (.tmp 17))), none⟩] [])
    (.seq (.seq (.region [
      ⟨(some 18), (.op (.mv (.tmp 7))), none⟩,
      ⟨(some 19), (.op (.un .not (.tmp 18))), none⟩] [])
    (.cond (.tmp 19)
      (.region [
        ⟨(some 20), (.op (.mv (.tmp 0))), none⟩,
        ⟨(some 21), (.op (.mv (.tmp 1))), none⟩,
        ⟨(some 22), (.op (.len .str (.tmp 21))), none⟩,
        ⟨(some 23), (.call (.cst (.func (.func 53) [] [])) [(.tmp 20), (.tmp 22)]), none⟩,
        ⟨(some 6), (.op (.mv (.tmp 23))), none⟩] [])
      .skip))
    (.seq (.region [
      ⟨(some 24), (.op (.mv (.tmp 0))), none⟩,
      ⟨(some 25), (.op (.nilc (.tmp 24))), none⟩,
      ⟨(some 26), (.op (.faddr 0 (.tmp 25))), none⟩,
      ⟨(some 27), (.op (.load none (.tmp 26))), none⟩,
      ⟨(some 28), (.op (.mv (.tmp 6))), none⟩,
      ⟨(some 29), (.op (.sliceSl 1 (.tmp 27) (some (.tmp 28)) none none)), none⟩,
      ⟨(some 30), (.op (.mv (.tmp 1))), none⟩,
      ⟨(some 31), (.op (.copy 1 (.tmp 29) (.tmp 30))), none⟩,
      ⟨(some 4), (.op (.mv (.tmp 31))), none⟩,
      ⟨(some 5), (.op (.mv (.cst .nilIface))), none⟩] [])
    .ret)))))⟩
theorem c46 : cFn Tryd.prog [] Tryd.f46 = some h46 := by kernel_rfl
/-- stint/yaml.line -/
def h47 : HFn :=
  ⟨18, [],
    (.seq (.seq (.region [
      ⟨(some 6), (.op (.mv (.tmp 1))), none⟩,
      ⟨(some 7), (.op (.len .slice (.tmp 6))), none⟩,
      ⟨(some 8), (.op (.mv (.cst (.int .i64 0)))), none⟩] [])
    (.block 0
      (.loop
        (.seq (.region [
          ⟨(some 9), (.op (.bin .lss none (.tmp 8) (.tmp 7))), none⟩] [])
        (.seq (.cond (.tmp 9)
          .skip
          (.exit 0))
        (.seq (.block 1
          (.seq (.region [
            ⟨(some 10), (.op (.idxS 1 (.tmp 6) (.tmp 8))), none⟩,
            ⟨(some 11), (.op (.load none (.tmp 10))), none⟩,
            ⟨(some 5), (.op (.mv (.tmp 11))), none⟩] [])
          (.region [
            ⟨(some 12), (.op (.mv (.tmp 0))), none⟩,
            ⟨(some 13), (.op (.mv (.tmp 5))), none⟩,
            ⟨(some 14), (.call (.cst (.func (.func 46) [] [])) [(.tmp 12), (.tmp 13)]), none⟩] [])))
        (.region [
          ⟨(some 15), (.op (.bin .add none (.tmp 8) (.cst (.int .i64 1)))), none⟩,
          ⟨(some 8), (.op (.mv (.tmp 15))), none⟩] [])))))))
    (.region [
      ⟨(some 16), (.op (.mv (.tmp 0))), none⟩,
      ⟨(some 17), (.call (.cst (.func (.func 54) [] [])) [(.tmp 16), (.cst (.int .u8 10))]), none⟩] []))⟩
theorem c47 : cFn Tryd.prog [] Tryd.f47 = some h47 := by kernel_rfl
/-- (*bytes.Buffer).Bytes -/
def h48 : HFn :=
  ⟨12, [(.tmp 2)],
    (.seq (.region [
      ⟨(some 2), (.op (.mv (.cst .nilSlice))), none⟩] [])
    (.seq (.draw [
      ⟨(some 3), (.op (.mv (.tmp 0))), none⟩,
      ⟨(some 4), (.op (.nilc (.tmp 3))), none⟩,
      ⟨(some 5), (.op (.faddr 0 (.tmp 4))), none⟩,
      ⟨(some 6), (.op (.load none (.tmp 5))), none⟩,
      ⟨(some 7), (.op (.mv (.tmp 0))), none⟩,
      ⟨(some 8), (.op (.nilc (.tmp 7))), none⟩,
      ⟨(some 9), (.op (.faddr 1 (.tmp 8))), none⟩,
      ⟨(some 10), (.op (.load none (.tmp 9))), none⟩,
      ⟨(some 11), (.op (.sliceSl 1 (.tmp 6) (some (.tmp 10)) none none)), none⟩,
      ⟨(some 2), (.op (.mv (.tmp 11))), none⟩] [0, 1, 2, 3, 4, 5, 6, 7, 8, 9] [[], [], [], [], [], [], [], [], [], []] [])
    .ret))⟩
theorem c48 : cFn Tryd.prog [] Tryd.f48 = some h48 := by kernel_rfl
/-- internal/stringslite.CutPrefix -/
def h49 : HFn :=
  ⟨15, [(.tmp 4), (.tmp 5)],
    (.seq (.region [
      ⟨(some 4), (.op (.mv (.cst (.str [])))), none⟩,
      ⟨(some 5), (.op (.mv (.cst (.bool false)))), none⟩] [])
    (.seq (.seq (.region [
      ⟨(some 6), (.op (.mv (.tmp 0))), none⟩,
      ⟨(some 7), (.op (.mv (.tmp 1))), none⟩,
      ⟨(some 8), (.call (.cst (.func (.func 50) [] [])) [(.tmp 6), (.tmp 7)]), none⟩,
      ⟨(some 9), (.op (.un .not (.tmp 8))), none⟩] [])
    (.cond (.tmp 9)
      (.seq (.region [
        ⟨(some 10), (.op (.mv (.tmp 0))), none⟩,
        ⟨(some 4), (.op (.mv (.tmp 10))), none⟩,
        ⟨(some 5), (.op (.mv (.cst (.bool false)))), none⟩] [])
      .ret)
      .skip))
    (.seq (.region [
      ⟨(some 11), (.op (.mv (.tmp 0))), none⟩,
      ⟨(some 12), (.op (.mv (.tmp 1))), none⟩,
      ⟨(some 13), (.op (.len .str (.tmp 12))), none⟩,
      ⟨(some 14), (.op (.sliceStr (.tmp 11) (some (.tmp 13)) none)), none⟩,
      ⟨(some 4), (.op (.mv (.tmp 14))), none⟩,
      ⟨(some 5), (.op (.mv (.cst (.bool true)))), none⟩] [])
    .ret)))⟩
theorem c49 : cFn Tryd.prog [] Tryd.f49 = some h49 := by kernel_rfl
/-- internal/stringslite.HasPrefix -/
def h50 : HFn :=
  ⟨18, [(.tmp 4)],
    (.seq (.region [
      ⟨(some 4), (.op (.mv (.cst (.bool false)))), none⟩] [])
    (.seq (.region [
      ⟨(some 5), (.op (.mv (.tmp 0))), none⟩,
      ⟨(some 6), (.op (.len .str (.tmp 5))), none⟩,
      ⟨(some 7), (.op (.mv (.tmp 1))), none⟩,
      ⟨(some 8), (.op (.len .str (.tmp 7))), none⟩,
      ⟨(some 9), (.op (.bin .geq none (.tmp 6) (.tmp 8))), none⟩,
      ⟨(some 10), (.op (.mv (.tmp 9))), none⟩,
      ⟨(some 11), (.op (.mv (.tmp 0))), (some (10, true))⟩,
      ⟨(some 12), (.op (.mv (.tmp 1))), (some (10, true))⟩,
      ⟨(some 13), (.op (.len .str (.tmp 12))), (some (10, true))⟩,
      ⟨(some 14), (.op (.sliceStr (.tmp 11) none (some (.tmp 13)))), (some (10, true))⟩,
      ⟨(some 15), (.op (.mv (.tmp 1))), (some (10, true))⟩,
      ⟨(some 16), (.op (.bin .eql (some .str) (.tmp 14) (.tmp 15))), (some (10, true))⟩,
      ⟨(some 17), (.op (.pick (.tmp 10) (.tmp 16) (.cst (.bool false)))), none⟩,
      ⟨(some 4), (.op (.mv (.tmp 17))), none⟩] [])
    .ret))⟩
theorem c50 : cFn Tryd.prog [] Tryd.f50 = some h50 := by kernel_rfl
/-- internal/stringslite.Cut -/
def h51 : HFn :=
  ⟨23, [(.tmp 4), (.tmp 5), (.tmp 6)],
    (.seq (.region [
      ⟨(some 4), (.op (.mv (.cst (.str [])))), none⟩,
      ⟨(some 5), (.op (.mv (.cst (.str [])))), none⟩,
      ⟨(some 6), (.op (.mv (.cst (.bool false)))), none⟩] [])
    (.seq (.seq (.region [
      ⟨(some 8), (.op (.mv (.tmp 0))), none⟩,
      ⟨(some 9), (.op (.mv (.tmp 1))), none⟩,
      ⟨(some 10), (.call (.cst (.func (.func 55) [] [])) [(.tmp 8), (.tmp 9)]), none⟩,
      ⟨(some 7), (.op (.mv (.tmp 10))), none⟩] [])
    (.seq (.region [
      ⟨(some 11), (.op (.mv (.tmp 7))), none⟩,
      ⟨(some 12), (.op (.bin .geq none (.tmp 11) (.cst (.int .i64 0)))), none⟩] [])
    (.cond (.tmp 12)
      (.seq (.draw [
        ⟨(some 13), (.op (.mv (.tmp 0))), none⟩,
        ⟨(some 14), (.op (.mv (.tmp 7))), none⟩,
        ⟨(some 15), (.op (.sliceStr (.tmp 13) none (some (.tmp 14)))), none⟩,
        ⟨(some 16), (.op (.mv (.tmp 0))), none⟩,
        ⟨(some 17), (.op (.mv (.tmp 7))), none⟩,
        ⟨(some 18), (.op (.mv (.tmp 1))), none⟩,
        ⟨(some 19), (.op (.len .str (.tmp 18))), none⟩,
        ⟨(some 20), (.op (.bin .add none (.tmp 17) (.tmp 19))), none⟩,
        ⟨(some 21), (.op (.sliceStr (.tmp 16) (some (.tmp 20)) none)), none⟩,
        ⟨(some 4), (.op (.mv (.tmp 15))), none⟩,
        ⟨(some 5), (.op (.mv (.tmp 21))), none⟩,
        ⟨(some 6), (.op (.mv (.cst (.bool true)))), none⟩] [0, 1, 2, 3, 4, 5, 6, 7, 8, 9, 10, 11] [[], [], [], [], [], [], [], [], [], [], [], []] [])
      .ret)
      .skip)))
    (.seq (.region [
      ⟨(some 22), (.op (.mv (.tmp 0))), none⟩,
      ⟨(some 4), (.op (.mv (.tmp 22))), none⟩,
      ⟨(some 5), (.op (.mv (.cst (.str [])))), none⟩,
      ⟨(some 6), (.op (.mv (.cst (.bool false)))), none⟩] [])
    .ret)))⟩
theorem c51 : cFn Tryd.prog [] Tryd.f51 = some h51 := by kernel_rfl
/-- (*bytes.Buffer).tryGrowByReslice -/
def h52 : HFn :=
  ⟨33, [(.tmp 4), (.tmp 5)],
    (.seq (.region [
      ⟨(some 4), (.op (.mv (.cst (.int .i64 0)))), none⟩,
      ⟨(some 5), (.op (.mv (.cst (.bool false)))), none⟩] [])
    (.seq (.seq (.region [
      ⟨(some 7), (.op (.mv (.tmp 0))), none⟩,
      ⟨(some 8), (.op (.nilc (.tmp 7))), none⟩,
      ⟨(some 9), (.op (.faddr 0 (.tmp 8))), none⟩,
      ⟨(some 10), (.op (.load none (.tmp 9))), none⟩,
      ⟨(some 11), (.op (.len .slice (.tmp 10))), none⟩,
      ⟨(some 6), (.op (.mv (.tmp 11))), none⟩] [])
    (.seq (.region [
      ⟨(some 12), (.op (.mv (.tmp 1))), none⟩,
      ⟨(some 13), (.op (.mv (.tmp 0))), none⟩,
      ⟨(some 14), (.op (.nilc (.tmp 13))), none⟩,
      ⟨(some 15), (.op (.faddr 0 (.tmp 14))), none⟩,
      ⟨(some 16), (.op (.load none (.tmp 15))), none⟩,
      ⟨(some 17), (.op (.cap (.tmp 16))), none⟩,
      ⟨(some 18), (.op (.mv (.tmp 6))), none⟩,
      ⟨(some 19), (.op (.bin .sub none (.tmp 17) (.tmp 18))), none⟩,
      ⟨(some 20), (.op (.bin .leq none (.tmp 12) (.tmp 19))), none⟩] [])
    (.cond (.tmp 20)
      (.seq (.region [
        ⟨(some 21), (.op (.mv (.tmp 0))), none⟩,
        ⟨(some 22), (.op (.mv (.tmp 0))), none⟩,
        ⟨(some 23), (.op (.nilc (.tmp 22))), none⟩,
        ⟨(some 24), (.op (.faddr 0 (.tmp 23))), none⟩,
        ⟨(some 25), (.op (.load none (.tmp 24))), none⟩,
        ⟨(some 26), (.op (.mv (.tmp 6))), none⟩,
        ⟨(some 27), (.op (.mv (.tmp 1))), none⟩,
        ⟨(some 28), (.op (.bin .add none (.tmp 26) (.tmp 27))), none⟩,
        ⟨(some 29), (.op (.sliceSl 1 (.tmp 25) none (some (.tmp 28)) none)), none⟩,
        ⟨(some 30), (.op (.nilc (.tmp 21))), none⟩,
        ⟨(some 31), (.op (.faddr 0 (.tmp 30))), none⟩,
        ⟨none, (.op (.store 1 (.tmp 31) (.tmp 29))), none⟩] [])
      (.seq (.region [
        ⟨(some 32), (.op (.mv (.tmp 6))), none⟩,
        ⟨(some 4), (.op (.mv (.tmp 32))), none⟩,
        ⟨(some 5), (.op (.mv (.cst (.bool true)))), none⟩] [])
      .ret))
      .skip)))
    (.seq (.region [
      ⟨(some 4), (.op (.mv (.cst (.int .i64 0)))), none⟩,
      ⟨(some 5), (.op (.mv (.cst (.bool false)))), none⟩] [])
    .ret)))⟩
theorem c52 : cFn Tryd.prog [] Tryd.f52 = some h52 := by kernel_rfl
/-- (*bytes.Buffer).grow -/
def h53 : HFn :=
  ⟨110, [(.tmp 4)],
    (.seq (.region [
      ⟨(some 4), (.op (.mv (.cst (.int .i64 0)))), none⟩] [])
    (.seq (.region [
      ⟨(some 9), (.op (.mv (.tmp 0))), none⟩,
      ⟨(some 10), (.call (.cst (.func (.func 56) [] [])) [(.tmp 9)]), none⟩,
      ⟨(some 5), (.op (.mv (.tmp 10))), none⟩] [])
    (.seq (.seq (.region [
      ⟨(some 11), (.op (.mv (.tmp 5))), none⟩,
      ⟨(some 12), (.op (.bin .eql (some .int) (.tmp 11) (.cst (.int .i64 0)))), none⟩,
      ⟨(some 13), (.op (.mv (.tmp 12))), none⟩,
      ⟨(some 14), (.op (.mv (.tmp 0))), (some (13, true))⟩,
      ⟨(some 15), (.op (.nilc (.tmp 14))), (some (13, true))⟩,
      ⟨(some 16), (.op (.faddr 1 (.tmp 15))), (some (13, true))⟩,
      ⟨(some 17), (.op (.load none (.tmp 16))), (some (13, true))⟩,
      ⟨(some 18), (.op (.bin .neq (some .int) (.tmp 17) (.cst (.int .i64 0)))), (some (13, true))⟩,
      ⟨(some 19), (.op (.pick (.tmp 13) (.tmp 18) (.cst (.bool false)))), none⟩] [])
    (.cond (.tmp 19)
      (.region [
        ⟨(some 20), (.op (.mv (.tmp 0))), none⟩,
        ⟨(some 21), (.call (.cst (.func (.func 57) [] [])) [(.tmp 20)]), none⟩] [])
      .skip))
    (.seq (.seq (.region [
      ⟨(some 23), (.op (.mv (.tmp 0))), none⟩,
      ⟨(some 24), (.op (.mv (.tmp 1))), none⟩,
      ⟨(some 25), (.call (.cst (.func (.func 52) [] [])) [(.tmp 23), (.tmp 24)]), none⟩,
      ⟨(some 22), (.op (.mv (.tmp 25))), none⟩,
      ⟨(some 26), (.op (.ext 0 (.tmp 22))), none⟩,
      ⟨(some 27), (.op (.ext 1 (.tmp 22))), none⟩,
      ⟨(some 6), (.op (.mv (.tmp 26))), none⟩,
      ⟨(some 7), (.op (.mv (.tmp 27))), none⟩] [])
    (.seq (.region [
      ⟨(some 28), (.op (.mv (.tmp 7))), none⟩] [])
    (.cond (.tmp 28)
      (.seq (.region [
        ⟨(some 29), (.op (.mv (.tmp 6))), none⟩,
        ⟨(some 4), (.op (.mv (.tmp 29))), none⟩] [])
      .ret)
      .skip)))
    (.seq (.seq (.region [
      ⟨(some 30), (.op (.mv (.tmp 0))), none⟩,
      ⟨(some 31), (.op (.nilc (.tmp 30))), none⟩,
      ⟨(some 32), (.op (.faddr 0 (.tmp 31))), none⟩,
      ⟨(some 33), (.op (.load none (.tmp 32))), none⟩,
      ⟨(some 34), (.op (.bin .eql (some .slice) (.tmp 33) (.cst .nilSlice))), none⟩,
      ⟨(some 35), (.op (.mv (.tmp 34))), none⟩,
      ⟨(some 36), (.op (.mv (.tmp 1))), (some (35, true))⟩,
      ⟨(some 37), (.op (.bin .leq none (.tmp 36) (.cst (.int .i64 64)))), (some (35, true))⟩,
      ⟨(some 38), (.op (.pick (.tmp 35) (.tmp 37) (.cst (.bool false)))), none⟩] [])
    (.cond (.tmp 38)
      (.seq (.region [
        ⟨(some 39), (.op (.mv (.tmp 0))), none⟩,
        ⟨(some 40), (.op (.mv (.tmp 1))), none⟩,
        ⟨(some 41), (.op (.mkSlice 1 1 [(.int .u8 0)] (.tmp 40) (.cst (.int .i64 64)))), none⟩,
        ⟨(some 42), (.op (.nilc (.tmp 39))), none⟩,
        ⟨(some 43), (.op (.faddr 0 (.tmp 42))), none⟩,
        ⟨none, (.op (.store 1 (.tmp 43) (.tmp 41))), none⟩] [])
      (.seq (.region [
        ⟨(some 4), (.op (.mv (.cst (.int .i64 0)))), none⟩] [])
      .ret))
      .skip))
    (.seq (.region [
      ⟨(some 44), (.op (.mv (.tmp 0))), none⟩,
      ⟨(some 45), (.op (.nilc (.tmp 44))), none⟩,
      ⟨(some 46), (.op (.faddr 0 (.tmp 45))), none⟩,
      ⟨(some 47), (.op (.load none (.tmp 46))), none⟩,
      ⟨(some 48), (.op (.cap (.tmp 47))), none⟩,
      ⟨(some 8), (.op (.mv (.tmp 48))), none⟩] [])
    (.seq (.seq (.region [
      ⟨(some 49), (.op (.mv (.tmp 1))), none⟩,
      ⟨(some 50), (.op (.mv (.tmp 8))), none⟩,
      ⟨(some 51), (.op (.bin .quo none (.tmp 50) (.cst (.int .i64 2)))), none⟩,
      ⟨(some 52), (.op (.mv (.tmp 5))), none⟩,
      ⟨(some 53), (.op (.bin .sub none (.tmp 51) (.tmp 52))), none⟩,
      ⟨(some 54), (.op (.bin .leq none (.tmp 49) (.tmp 53))), none⟩] [])
    (.cond (.tmp 54)
      (.draw [
        ⟨(some 55), (.op (.mv (.tmp 0))), none⟩,
        ⟨(some 56), (.op (.nilc (.tmp 55))), none⟩,
        ⟨(some 57), (.op (.faddr 0 (.tmp 56))), none⟩,
        ⟨(some 58), (.op (.load none (.tmp 57))), none⟩,
        ⟨(some 59), (.op (.mv (.tmp 0))), none⟩,
        ⟨(some 60), (.op (.nilc (.tmp 59))), none⟩,
        ⟨(some 61), (.op (.faddr 0 (.tmp 60))), none⟩,
        ⟨(some 62), (.op (.load none (.tmp 61))), none⟩,
        ⟨(some 63), (.op (.mv (.tmp 0))), none⟩,
        ⟨(some 64), (.op (.nilc (.tmp 63))), none⟩,
        ⟨(some 65), (.op (.faddr 1 (.tmp 64))), none⟩,
        ⟨(some 66), (.op (.load none (.tmp 65))), none⟩,
        ⟨(some 67), (.op (.sliceSl 1 (.tmp 62) (some (.tmp 66)) none none)), none⟩,
        ⟨(some 68), (.op (.copy 1 (.tmp 58) (.tmp 67))), none⟩] [0, 1, 2, 3, 4, 5, 6, 7, 8, 9, 10, 11, 12, 13] [[], [], [], [], [], [], [], [], [], [], [], [], [], [3, 12, 7, 11]] [])
      (.seq (.region [
        ⟨(some 69), (.op (.mv (.tmp 8))), none⟩,
        ⟨(some 70), (.op (.mv (.tmp 8))), none⟩,
        ⟨(some 71), (.op (.bin .sub none (.cst (.int .i64 9223372036854775807)) (.tmp 70))), none⟩,
        ⟨(some 72), (.op (.mv (.tmp 1))), none⟩,
        ⟨(some 73), (.op (.bin .sub none (.tmp 71) (.tmp 72))), none⟩,
        ⟨(some 74), (.op (.bin .gtr none (.tmp 69) (.tmp 73))), none⟩] [])
      (.cond (.tmp 74)
        (.region [
          ⟨(some 75), (.op (.gload none 0)), none⟩,
          ⟨none, (.op .bad), none⟩] [])
        (.draw [
          ⟨(some 76), (.op (.mv (.tmp 0))), none⟩,
          ⟨(some 77), (.op (.mv (.tmp 0))), none⟩,
          ⟨(some 78), (.op (.nilc (.tmp 77))), none⟩,
          ⟨(some 79), (.op (.faddr 0 (.tmp 78))), none⟩,
          ⟨(some 80), (.op (.load none (.tmp 79))), none⟩,
          ⟨(some 81), (.op (.mv (.tmp 0))), none⟩,
          ⟨(some 82), (.op (.nilc (.tmp 81))), none⟩,
          ⟨(some 83), (.op (.faddr 1 (.tmp 82))), none⟩,
          ⟨(some 84), (.op (.load none (.tmp 83))), none⟩,
          ⟨(some 85), (.op (.sliceSl 1 (.tmp 80) (some (.tmp 84)) none none)), none⟩,
          ⟨(some 86), (.op (.mv (.tmp 0))), none⟩,
          ⟨(some 87), (.op (.nilc (.tmp 86))), none⟩,
          ⟨(some 88), (.op (.faddr 1 (.tmp 87))), none⟩,
          ⟨(some 89), (.op (.load none (.tmp 88))), none⟩,
          ⟨(some 90), (.op (.mv (.tmp 1))), none⟩,
          ⟨(some 91), (.op (.bin .add none (.tmp 89) (.tmp 90))), none⟩,
          ⟨(some 92), (.call (.cst (.func (.func 58) [] [])) [(.tmp 85), (.tmp 91)]), none⟩,
          ⟨(some 93), (.op (.nilc (.tmp 76))), none⟩,
          ⟨(some 94), (.op (.faddr 0 (.tmp 93))), none⟩,
          ⟨none, (.op (.store 1 (.tmp 94) (.tmp 92))), none⟩] [0, 1, 2, 3, 4, 5, 6, 7, 8, 9, 10, 11, 12, 13, 14, 15, 16, 17, 18, 19] [[], [], [], [], [], [], [], [], [], [], [], [], [], [], [], [], [9, 4, 8, 13], [], [], [4, 8, 9, 13]] [])))))
    (.seq (.region [
      ⟨(some 95), (.op (.mv (.tmp 0))), none⟩,
      ⟨(some 96), (.op (.nilc (.tmp 95))), none⟩,
      ⟨(some 97), (.op (.faddr 1 (.tmp 96))), none⟩,
      ⟨none, (.op (.store 1 (.tmp 97) (.cst (.int .i64 0)))), none⟩] [])
    (.seq (.region [
      ⟨(some 98), (.op (.mv (.tmp 0))), none⟩,
      ⟨(some 99), (.op (.mv (.tmp 0))), none⟩,
      ⟨(some 100), (.op (.nilc (.tmp 99))), none⟩,
      ⟨(some 101), (.op (.faddr 0 (.tmp 100))), none⟩,
      ⟨(some 102), (.op (.load none (.tmp 101))), none⟩,
      ⟨(some 103), (.op (.mv (.tmp 5))), none⟩,
      ⟨(some 104), (.op (.mv (.tmp 1))), none⟩,
      ⟨(some 105), (.op (.bin .add none (.tmp 103) (.tmp 104))), none⟩,
      ⟨(some 106), (.op (.sliceSl 1 (.tmp 102) none (some (.tmp 105)) none)), none⟩,
      ⟨(some 107), (.op (.nilc (.tmp 98))), none⟩,
      ⟨(some 108), (.op (.faddr 0 (.tmp 107))), none⟩,
      ⟨none, (.op (.store 1 (.tmp 108) (.tmp 106))), none⟩] [])
    (.seq (.region [
      ⟨(some 109), (.op (.mv (.tmp 5))), none⟩,
      ⟨(some 4), (.op (.mv (.tmp 109))), none⟩] [])
    .ret))))))))))⟩
theorem c53 : cFn Tryd.prog [] Tryd.f53 = some h53 := by kernel_rfl
/-- (*bytes.Buffer).WriteByte -/
def h54 : HFn :=
  ⟨26, [(.tmp 4)],
    (.seq (.region [
      ⟨(some 4), (.op (.mv (.cst .nilIface))), none⟩] [])
    (.seq (.region [
      ⟨(some 7), (.op (.mv (.tmp 0))), none⟩,
      ⟨(some 8), (.op (.nilc (.tmp 7))), none⟩,
      ⟨(some 9), (.op (.faddr 2 (.tmp 8))), none⟩,
      ⟨none, (.op (.store 1 (.tmp 9) (.cst (.int .i8 0)))), none⟩] [])
    (.seq (.region [
      ⟨(some 11), (.op (.mv (.tmp 0))), none⟩,
      ⟨(some 12), (.call (.cst (.func (.func 52) [] [])) [(.tmp 11), (.cst (.int .i64 1))]), none⟩,
      ⟨(some 10), (.op (.mv (.tmp 12))), none⟩,
      ⟨(some 13), (.op (.ext 0 (.tmp 10))), none⟩,
      ⟨(some 14), (.op (.ext 1 (.tmp 10))), none⟩,
      ⟨(some 5), (.op (.mv (.tmp 13))), none⟩,
      ⟨(some 6), (.op (.mv (.tmp 14))), none⟩] [])
    (.seq (.seq (.region [
      ⟨(some 15), (.op (.mv (.tmp 6))), none⟩,
      ⟨(some 16), (.op (.un .not (.tmp 15))), none⟩] [])
    (.cond (.tmp 16)
      (.region [
        ⟨(some 17), (.op (.mv (.tmp 0))), none⟩,
        ⟨(some 18), (.call (.cst (.func (.func 53) [] [])) [(.tmp 17), (.cst (.int .i64 1))]), none⟩,
        ⟨(some 5), (.op (.mv (.tmp 18))), none⟩] [])
      .skip))
    (.seq (.region [
      ⟨(some 19), (.op (.mv (.tmp 0))), none⟩,
      ⟨(some 20), (.op (.nilc (.tmp 19))), none⟩,
      ⟨(some 21), (.op (.faddr 0 (.tmp 20))), none⟩,
      ⟨(some 22), (.op (.load none (.tmp 21))), none⟩,
      ⟨(some 23), (.op (.mv (.tmp 5))), none⟩,
      ⟨(some 24), (.op (.mv (.tmp 1))), none⟩,
      ⟨(some 25), (.op (.idxS 1 (.tmp 22) (.tmp 23))), none⟩,
      ⟨none, (.op (.store 1 (.tmp 25) (.tmp 24))), none⟩] [])
    (.seq (.region [
      ⟨(some 4), (.op (.mv (.cst .nilIface))), none⟩] [])
    .ret))))))⟩
theorem c54 : cFn Tryd.prog [] Tryd.f54 = some h54 := by kernel_rfl
/-- internal/stringslite.Index -/
def h55 : HFn :=
  ⟨143, [(.tmp 4)],
    (.seq (.region [
      ⟨(some 4), (.op (.mv (.cst (.int .i64 0)))), none⟩] [])
    (.seq (.region [
      ⟨(some 14), (.op (.mv (.tmp 1))), none⟩,
      ⟨(some 15), (.op (.len .str (.tmp 14))), none⟩,
      ⟨(some 5), (.op (.mv (.tmp 15))), none⟩] [])
    (.seq (.block 0
      (.seq (.region [
        ⟨(some 17), (.op (.mv (.tmp 5))), none⟩,
        ⟨(some 18), (.op (.bin .eql (some .int) (.tmp 17) (.cst (.int .i64 0)))), none⟩,
        ⟨(some 19), (.op (.mv (.tmp 18))), none⟩,
        ⟨(some 20), (.op (.mv (.tmp 1))), (some (19, false))⟩,
        ⟨(some 21), (.op (.mv (.tmp 0))), (some (19, false))⟩,
        ⟨(some 22), (.op (.bin .eql (some .str) (.tmp 20) (.tmp 21))), (some (19, false))⟩,
        ⟨(some 23), (.op (.pick (.tmp 19) (.cst (.bool true)) (.tmp 22))), none⟩,
        ⟨(some 16), (.op (.mv (.tmp 23))), none⟩] [])
      (.cond (.tmp 16)
        (.seq (.region [
          ⟨(some 4), (.op (.mv (.cst (.int .i64 0)))), none⟩] [])
        .ret)
        (.seq (.region [
          ⟨(some 25), (.op (.mv (.tmp 5))), none⟩,
          ⟨(some 26), (.op (.bin .eql (some .int) (.tmp 25) (.cst (.int .i64 1)))), none⟩,
          ⟨(some 24), (.op (.mv (.tmp 26))), none⟩] [])
        (.cond (.tmp 24)
          (.seq (.region [
            ⟨(some 27), (.op (.mv (.tmp 0))), none⟩,
            ⟨(some 28), (.op (.mv (.tmp 1))), none⟩,
            ⟨(some 29), (.op (.idxStr (.tmp 28) (.cst (.int .i64 0)))), none⟩,
            ⟨(some 30), (.call (.cst (.func (.func 59) [] [])) [(.tmp 27), (.tmp 29)]), none⟩,
            ⟨(some 4), (.op (.mv (.tmp 30))), none⟩] [])
          .ret)
          (.seq (.region [
            ⟨(some 32), (.op (.mv (.tmp 5))), none⟩,
            ⟨(some 33), (.op (.mv (.tmp 0))), none⟩,
            ⟨(some 34), (.op (.len .str (.tmp 33))), none⟩,
            ⟨(some 35), (.op (.bin .geq none (.tmp 32) (.tmp 34))), none⟩,
            ⟨(some 31), (.op (.mv (.tmp 35))), none⟩] [])
          (.cond (.tmp 31)
            (.seq (.region [
              ⟨(some 4), (.op (.mv (.cst (.int .i64 (-1))))), none⟩] [])
            .ret)
            (.seq (.region [
              ⟨(some 37), (.op (.mv (.tmp 5))), none⟩,
              ⟨(some 38), (.op (.gload none 1)), none⟩,
              ⟨(some 39), (.op (.bin .leq none (.tmp 37) (.tmp 38))), none⟩,
              ⟨(some 40), (.op (.mv (.tmp 39))), none⟩,
              ⟨(some 41), (.op (.mv (.tmp 0))), (some (40, true))⟩,
              ⟨(some 42), (.op (.len .str (.tmp 41))), (some (40, true))⟩,
              ⟨(some 43), (.op (.bin .leq none (.tmp 42) (.cst (.int .i64 64)))), (some (40, true))⟩,
              ⟨(some 44), (.op (.pick (.tmp 40) (.tmp 43) (.cst (.bool false)))), none⟩,
              ⟨(some 36), (.op (.mv (.tmp 44))), none⟩] [])
            (.cond (.tmp 36)
              (.seq (.region [
                ⟨(some 45), (.op (.mv (.tmp 0))), none⟩,
                ⟨(some 46), (.op (.mv (.tmp 1))), none⟩,
                ⟨(some 47), (.call (.cst (.func (.func 60) [] [])) [(.tmp 45), (.tmp 46)]), none⟩,
                ⟨(some 4), (.op (.mv (.tmp 47))), none⟩] [])
              .ret)
              .skip)))))))))
    (.seq (.region [
      ⟨(some 48), (.op (.mv (.tmp 1))), none⟩,
      ⟨(some 49), (.op (.idxStr (.tmp 48) (.cst (.int .i64 0)))), none⟩,
      ⟨(some 6), (.op (.mv (.tmp 49))), none⟩] [])
    (.seq (.region [
      ⟨(some 50), (.op (.mv (.tmp 1))), none⟩,
      ⟨(some 51), (.op (.idxStr (.tmp 50) (.cst (.int .i64 1)))), none⟩,
      ⟨(some 7), (.op (.mv (.tmp 51))), none⟩] [])
    (.seq (.region [
      ⟨(some 8), (.op (.mv (.cst (.int .i64 0)))), none⟩] [])
    (.seq (.region [
      ⟨(some 52), (.op (.mv (.tmp 0))), none⟩,
      ⟨(some 53), (.op (.len .str (.tmp 52))), none⟩,
      ⟨(some 54), (.op (.mv (.tmp 5))), none⟩,
      ⟨(some 55), (.op (.bin .sub none (.tmp 53) (.tmp 54))), none⟩,
      ⟨(some 56), (.op (.bin .add none (.tmp 55) (.cst (.int .i64 1)))), none⟩,
      ⟨(some 9), (.op (.mv (.tmp 56))), none⟩] [])
    (.seq (.region [
      ⟨(some 10), (.op (.mv (.cst (.int .i64 0)))), none⟩] [])
    (.seq (.block 1
      (.loop
        (.seq (.seq (.region [
          ⟨(some 57), (.op (.mv (.tmp 8))), none⟩,
          ⟨(some 58), (.op (.mv (.tmp 9))), none⟩,
          ⟨(some 59), (.op (.bin .lss none (.tmp 57) (.tmp 58))), none⟩] [])
        (.cond (.tmp 59)
          .skip
          (.exit 1)))
        (.block 2
          (.seq (.seq (.region [
            ⟨(some 60), (.op (.mv (.tmp 0))), none⟩,
            ⟨(some 61), (.op (.mv (.tmp 8))), none⟩,
            ⟨(some 62), (.op (.idxStr (.tmp 60) (.tmp 61))), none⟩,
            ⟨(some 63), (.op (.mv (.tmp 6))), none⟩,
            ⟨(some 64), (.op (.bin .neq (some .int) (.tmp 62) (.tmp 63))), none⟩] [])
          (.cond (.tmp 64)
            (.seq (.region [
              ⟨(some 65), (.op (.mv (.tmp 0))), none⟩,
              ⟨(some 66), (.op (.mv (.tmp 8))), none⟩,
              ⟨(some 67), (.op (.bin .add none (.tmp 66) (.cst (.int .i64 1)))), none⟩,
              ⟨(some 68), (.op (.mv (.tmp 9))), none⟩,
              ⟨(some 69), (.op (.sliceStr (.tmp 65) (some (.tmp 67)) (some (.tmp 68)))), none⟩,
              ⟨(some 70), (.op (.mv (.tmp 6))), none⟩,
              ⟨(some 71), (.call (.cst (.func (.func 59) [] [])) [(.tmp 69), (.tmp 70)]), none⟩,
              ⟨(some 11), (.op (.mv (.tmp 71))), none⟩] [])
            (.seq (.seq (.region [
              ⟨(some 72), (.op (.mv (.tmp 11))), none⟩,
              ⟨(some 73), (.op (.bin .lss none (.tmp 72) (.cst (.int .i64 0)))), none⟩] [])
            (.cond (.tmp 73)
              (.seq (.region [
                ⟨(some 4), (.op (.mv (.cst (.int .i64 (-1))))), none⟩] [])
              .ret)
              .skip))
            (.region [
              ⟨(some 74), (.op (.mv (.tmp 8))), none⟩,
              ⟨(some 75), (.op (.mv (.tmp 11))), none⟩,
              ⟨(some 76), (.op (.bin .add none (.tmp 75) (.cst (.int .i64 1)))), none⟩,
              ⟨(some 77), (.op (.bin .add none (.tmp 74) (.tmp 76))), none⟩,
              ⟨(some 8), (.op (.mv (.tmp 77))), none⟩] [])))
            .skip))
          (.seq (.seq (.region [
            ⟨(some 78), (.op (.mv (.tmp 0))), none⟩,
            ⟨(some 79), (.op (.mv (.tmp 8))), none⟩,
            ⟨(some 80), (.op (.bin .add none (.tmp 79) (.cst (.int .i64 1)))), none⟩,
            ⟨(some 81), (.op (.idxStr (.tmp 78) (.tmp 80))), none⟩,
            ⟨(some 82), (.op (.mv (.tmp 7))), none⟩,
            ⟨(some 83), (.op (.bin .eql (some .int) (.tmp 81) (.tmp 82))), none⟩,
            ⟨(some 84), (.op (.mv (.tmp 83))), none⟩,
            ⟨(some 85), (.op (.mv (.tmp 0))), (some (84, true))⟩,
            ⟨(some 86), (.op (.mv (.tmp 8))), (some (84, true))⟩,
            ⟨(some 87), (.op (.mv (.tmp 8))), (some (84, true))⟩,
            ⟨(some 88), (.op (.mv (.tmp 5))), (some (84, true))⟩,
            ⟨(some 89), (.op (.bin .add none (.tmp 87) (.tmp 88))), (some (84, true))⟩,
            ⟨(some 90), (.op (.sliceStr (.tmp 85) (some (.tmp 86)) (some (.tmp 89)))), (some (84, true))⟩,
            ⟨(some 91), (.op (.mv (.tmp 1))), (some (84, true))⟩,
            ⟨(some 92), (.op (.bin .eql (some .str) (.tmp 90) (.tmp 91))), (some (84, true))⟩,
            ⟨(some 93), (.op (.pick (.tmp 84) (.tmp 92) (.cst (.bool false)))), none⟩] [])
          (.cond (.tmp 93)
            (.seq (.region [
              ⟨(some 94), (.op (.mv (.tmp 8))), none⟩,
              ⟨(some 4), (.op (.mv (.tmp 94))), none⟩] [])
            .ret)
            .skip))
          (.seq (.region [
            ⟨(some 95), (.op (.mv (.tmp 8))), none⟩,
            ⟨(some 96), (.op (.bin .add none (.tmp 95) (.cst (.int .i64 1)))), none⟩,
            ⟨(some 8), (.op (.mv (.tmp 96))), none⟩] [])
          (.seq (.region [
            ⟨(some 97), (.op (.mv (.tmp 10))), none⟩,
            ⟨(some 98), (.op (.bin .add none (.tmp 97) (.cst (.int .i64 1)))), none⟩,
            ⟨(some 10), (.op (.mv (.tmp 98))), none⟩] [])
          (.seq (.region [
            ⟨(some 99), (.op (.mv (.tmp 5))), none⟩,
            ⟨(some 100), (.op (.gload none 1)), none⟩,
            ⟨(some 101), (.op (.bin .leq none (.tmp 99) (.tmp 100))), none⟩,
            ⟨(some 102), (.op (.mv (.tmp 101))), none⟩,
            ⟨(some 103), (.op (.mv (.tmp 10))), (some (102, true))⟩,
            ⟨(some 104), (.op (.mv (.tmp 8))), (some (102, true))⟩,
            ⟨(some 105), (.call (.cst (.func (.func 61) [] [])) [(.tmp 104)]), (some (102, true))⟩,
            ⟨(some 106), (.op (.bin .gtr none (.tmp 103) (.tmp 105))), (some (102, true))⟩,
            ⟨(some 107), (.op (.pick (.tmp 102) (.tmp 106) (.cst (.bool false)))), none⟩] [])
          (.cond (.tmp 107)
            (.seq (.region [
              ⟨(some 108), (.op (.mv (.tmp 0))), none⟩,
              ⟨(some 109), (.op (.mv (.tmp 8))), none⟩,
              ⟨(some 110), (.op (.sliceStr (.tmp 108) (some (.tmp 109)) none)), none⟩,
              ⟨(some 111), (.op (.mv (.tmp 1))), none⟩,
              ⟨(some 112), (.call (.cst (.func (.func 60) [] [])) [(.tmp 110), (.tmp 111)]), none⟩,
              ⟨(some 12), (.op (.mv (.tmp 112))), none⟩] [])
            (.seq (.seq (.region [
              ⟨(some 113), (.op (.mv (.tmp 12))), none⟩,
              ⟨(some 114), (.op (.bin .geq none (.tmp 113) (.cst (.int .i64 0)))), none⟩] [])
            (.cond (.tmp 114)
              (.seq (.region [
                ⟨(some 115), (.op (.mv (.tmp 12))), none⟩,
                ⟨(some 116), (.op (.mv (.tmp 8))), none⟩,
                ⟨(some 117), (.op (.bin .add none (.tmp 115) (.tmp 116))), none⟩,
                ⟨(some 4), (.op (.mv (.tmp 117))), none⟩] [])
              .ret)
              .skip))
            (.seq (.region [
              ⟨(some 4), (.op (.mv (.cst (.int .i64 (-1))))), none⟩] [])
            .ret)))
            (.seq (.region [
              ⟨(some 118), (.op (.mv (.tmp 5))), none⟩,
              ⟨(some 119), (.op (.gload none 1)), none⟩,
              ⟨(some 120), (.op (.bin .gtr none (.tmp 118) (.tmp 119))), none⟩,
              ⟨(some 121), (.op (.mv (.tmp 120))), none⟩,
              ⟨(some 122), (.op (.mv (.tmp 10))), (some (121, true))⟩,
              ⟨(some 123), (.op (.mv (.tmp 8))), (some (121, true))⟩,
              ⟨(some 124), (.op (.bin .shr none (.tmp 123) (.cst (.int .u64 4)))), (some (121, true))⟩,
              ⟨(some 125), (.op (.bin .add none (.cst (.int .i64 4)) (.tmp 124))), (some (121, true))⟩,
              ⟨(some 126), (.op (.bin .geq none (.tmp 122) (.tmp 125))), (some (121, true))⟩,
              ⟨(some 127), (.op (.pick (.tmp 121) (.tmp 126) (.cst (.bool false)))), none⟩,
              ⟨(some 128), (.op (.mv (.tmp 127))), none⟩,
              ⟨(some 129), (.op (.mv (.tmp 8))), (some (128, true))⟩,
              ⟨(some 130), (.op (.mv (.tmp 9))), (some (128, true))⟩,
              ⟨(some 131), (.op (.bin .lss none (.tmp 129) (.tmp 130))), (some (128, true))⟩,
              ⟨(some 132), (.op (.pick (.tmp 128) (.tmp 131) (.cst (.bool false)))), none⟩] [])
            (.cond (.tmp 132)
              (.seq (.region [
                ⟨(some 133), (.op (.mv (.tmp 0))), none⟩,
                ⟨(some 134), (.op (.mv (.tmp 8))), none⟩,
                ⟨(some 135), (.op (.sliceStr (.tmp 133) (some (.tmp 134)) none)), none⟩,
                ⟨(some 136), (.op (.mv (.tmp 1))), none⟩,
                ⟨(some 137), (.call (.cst (.func (.func 62) [] [])) [(.tmp 135), (.tmp 136)]), none⟩,
                ⟨(some 13), (.op (.mv (.tmp 137))), none⟩] [])
              (.seq (.seq (.region [
                ⟨(some 138), (.op (.mv (.tmp 13))), none⟩,
                ⟨(some 139), (.op (.bin .lss none (.tmp 138) (.cst (.int .i64 0)))), none⟩] [])
              (.cond (.tmp 139)
                (.seq (.region [
                  ⟨(some 4), (.op (.mv (.cst (.int .i64 (-1))))), none⟩] [])
                .ret)
                .skip))
              (.seq (.region [
                ⟨(some 140), (.op (.mv (.tmp 8))), none⟩,
                ⟨(some 141), (.op (.mv (.tmp 13))), none⟩,
                ⟨(some 142), (.op (.bin .add none (.tmp 140) (.tmp 141))), none⟩,
                ⟨(some 4), (.op (.mv (.tmp 142))), none⟩] [])
              .ret)))
              .skip))))))))))))
    (.seq (.region [
      ⟨(some 4), (.op (.mv (.cst (.int .i64 (-1))))), none⟩] [])
    .ret))))))))))⟩
theorem c55 : cFn Tryd.prog [] Tryd.f55 = some h55 := by kernel_rfl
/-- (*bytes.Buffer).Len -/
def h56 : HFn :=
  ⟨13, [(.tmp 2)],
    (.seq (.region [
      ⟨(some 2), (.op (.mv (.cst (.int .i64 0)))), none⟩] [])
    (.seq (.draw [
      ⟨(some 3), (.op (.mv (.tmp 0))), none⟩,
      ⟨(some 4), (.op (.nilc (.tmp 3))), none⟩,
      ⟨(some 5), (.op (.faddr 0 (.tmp 4))), none⟩,
      ⟨(some 6), (.op (.load none (.tmp 5))), none⟩,
      ⟨(some 7), (.op (.len .slice (.tmp 6))), none⟩,
      ⟨(some 8), (.op (.mv (.tmp 0))), none⟩,
      ⟨(some 9), (.op (.nilc (.tmp 8))), none⟩,
      ⟨(some 10), (.op (.faddr 1 (.tmp 9))), none⟩,
      ⟨(some 11), (.op (.load none (.tmp 10))), none⟩,
      ⟨(some 12), (.op (.bin .sub none (.tmp 7) (.tmp 11))), none⟩,
      ⟨(some 2), (.op (.mv (.tmp 12))), none⟩] [0, 1, 2, 3, 4, 5, 6, 7, 8, 9, 10] [[], [], [], [], [], [], [], [], [], [], []] [])
    .ret))⟩
theorem c56 : cFn Tryd.prog [] Tryd.f56 = some h56 := by kernel_rfl
/-- (*bytes.Buffer).Reset -/
def h57 : HFn :=
  ⟨16, [],
    (.seq (.region [
      ⟨(some 2), (.op (.mv (.tmp 0))), none⟩,
      ⟨(some 3), (.op (.mv (.tmp 0))), none⟩,
      ⟨(some 4), (.op (.nilc (.tmp 3))), none⟩,
      ⟨(some 5), (.op (.faddr 0 (.tmp 4))), none⟩,
      ⟨(some 6), (.op (.load none (.tmp 5))), none⟩,
      ⟨(some 7), (.op (.sliceSl 1 (.tmp 6) none (some (.cst (.int .i64 0))) none)), none⟩,
      ⟨(some 8), (.op (.nilc (.tmp 2))), none⟩,
      ⟨(some 9), (.op (.faddr 0 (.tmp 8))), none⟩,
      ⟨none, (.op (.store 1 (.tmp 9) (.tmp 7))), none⟩] [])
    (.seq (.region [
      ⟨(some 10), (.op (.mv (.tmp 0))), none⟩,
      ⟨(some 11), (.op (.nilc (.tmp 10))), none⟩,
      ⟨(some 12), (.op (.faddr 1 (.tmp 11))), none⟩,
      ⟨none, (.op (.store 1 (.tmp 12) (.cst (.int .i64 0)))), none⟩] [])
    (.region [
      ⟨(some 13), (.op (.mv (.tmp 0))), none⟩,
      ⟨(some 14), (.op (.nilc (.tmp 13))), none⟩,
      ⟨(some 15), (.op (.faddr 2 (.tmp 14))), none⟩,
      ⟨none, (.op (.store 1 (.tmp 15) (.cst (.int .i8 0)))), none⟩] [])))⟩
theorem c57 : cFn Tryd.prog [] Tryd.f57 = some h57 := by kernel_rfl
/-- bytes.growSlice -/
def h58 : HFn :=
  ⟨28, [(.tmp 4)],
    (.seq (.region [
      ⟨(some 4), (.op (.mv (.cst .nilSlice))), none⟩] [])
    (.seq (.region [
      ⟨none, (.op .bad), none⟩] [])
    (.seq (.region [
      ⟨(some 8), (.op (.mv (.tmp 0))), none⟩,
      ⟨(some 9), (.op (.len .slice (.tmp 8))), none⟩,
      ⟨(some 10), (.op (.mv (.tmp 1))), none⟩,
      ⟨(some 11), (.op (.bin .add none (.tmp 9) (.tmp 10))), none⟩,
      ⟨(some 5), (.op (.mv (.tmp 11))), none⟩] [])
    (.seq (.seq (.region [
      ⟨(some 12), (.op (.mv (.tmp 5))), none⟩,
      ⟨(some 13), (.op (.mv (.tmp 0))), none⟩,
      ⟨(some 14), (.op (.cap (.tmp 13))), none⟩,
      ⟨(some 15), (.op (.bin .mul none (.cst (.int .i64 2)) (.tmp 14))), none⟩,
      ⟨(some 16), (.op (.bin .lss none (.tmp 12) (.tmp 15))), none⟩] [])
    (.cond (.tmp 16)
      (.region [
        ⟨(some 17), (.op (.mv (.tmp 0))), none⟩,
        ⟨(some 18), (.op (.cap (.tmp 17))), none⟩,
        ⟨(some 19), (.op (.bin .mul none (.cst (.int .i64 2)) (.tmp 18))), none⟩,
        ⟨(some 5), (.op (.mv (.tmp 19))), none⟩] [])
      .skip))
    (.seq (.region [
      ⟨(some 20), (.op (.mv (.tmp 5))), none⟩,
      ⟨(some 21), (.op .bad), none⟩,
      ⟨(some 6), (.op (.mv (.tmp 21))), none⟩] [])
    (.seq (.region [
      ⟨(some 22), (.op (.mv (.tmp 6))), none⟩,
      ⟨(some 23), (.op (.mv (.tmp 0))), none⟩,
      ⟨(some 24), (.op (.copy 1 (.tmp 22) (.tmp 23))), none⟩,
      ⟨(some 7), (.op (.mv (.tmp 24))), none⟩] [])
    (.seq (.region [
      ⟨(some 25), (.op (.mv (.tmp 6))), none⟩,
      ⟨(some 26), (.op (.mv (.tmp 7))), none⟩,
      ⟨(some 27), (.op (.sliceSl 1 (.tmp 25) none (some (.tmp 26)) none)), none⟩,
      ⟨(some 4), (.op (.mv (.tmp 27))), none⟩] [])
    .ret)))))))⟩
theorem c58 : cFn Tryd.prog [] Tryd.f58 = some h58 := by kernel_rfl
/-- internal/stringslite.IndexByte -/
def h59 : HFn :=
  ⟨8, [(.tmp 4)],
    (.seq (.region [
      ⟨(some 4), (.op (.mv (.cst (.int .i64 0)))), none⟩] [])
    (.seq (.region [
      ⟨(some 5), (.op (.mv (.tmp 0))), none⟩,
      ⟨(some 6), (.op (.mv (.tmp 1))), none⟩,
      ⟨(some 7), (.call (.cst (.func (.func 64) [] [])) [(.tmp 5), (.tmp 6)]), none⟩,
      ⟨(some 4), (.op (.mv (.tmp 7))), none⟩] [])
    .ret))⟩
theorem c59 : cFn Tryd.prog [] Tryd.f59 = some h59 := by kernel_rfl
/-- internal/bytealg.Cutover -/
def h61 : HFn :=
  ⟨6, [(.tmp 2)],
    (.seq (.region [
      ⟨(some 2), (.op (.mv (.cst (.int .i64 0)))), none⟩] [])
    (.seq (.region [
      ⟨(some 3), (.op (.mv (.tmp 0))), none⟩,
      ⟨(some 4), (.op (.bin .add none (.tmp 3) (.cst (.int .i64 16)))), none⟩,
      ⟨(some 5), (.op (.bin .quo none (.tmp 4) (.cst (.int .i64 8)))), none⟩,
      ⟨(some 2), (.op (.mv (.tmp 5))), none⟩] [])
    .ret))⟩
theorem c61 : cFn Tryd.prog [] Tryd.f61 = some h61 := by kernel_rfl
/-- internal/bytealg.IndexRabinKarp[string] -/
def h62 : HFn :=
  ⟨81, [(.tmp 4)],
    (.seq (.region [
      ⟨(some 4), (.op (.mv (.cst (.int .i64 0)))), none⟩] [])
    (.seq (.region [
      ⟨(some 12), (.op (.mv (.tmp 1))), none⟩,
      ⟨(some 13), (.call (.cst (.func (.func 65) [] [])) [(.tmp 12)]), none⟩,
      ⟨(some 11), (.op (.mv (.tmp 13))), none⟩,
      ⟨(some 14), (.op (.ext 0 (.tmp 11))), none⟩,
      ⟨(some 15), (.op (.ext 1 (.tmp 11))), none⟩,
      ⟨(some 5), (.op (.mv (.tmp 14))), none⟩,
      ⟨(some 6), (.op (.mv (.tmp 15))), none⟩] [])
    (.seq (.region [
      ⟨(some 16), (.op (.mv (.tmp 1))), none⟩,
      ⟨(some 17), (.op (.len .str (.tmp 16))), none⟩,
      ⟨(some 7), (.op (.mv (.tmp 17))), none⟩] [])
    (.seq (.region [
      ⟨(some 8), (.op (.mv (.cst (.int .u32 0)))), none⟩] [])
    (.seq (.seq (.region [
      ⟨(some 9), (.op (.mv (.cst (.int .i64 0)))), none⟩] [])
    (.block 0
      (.loop
        (.seq (.seq (.region [
          ⟨(some 18), (.op (.mv (.tmp 9))), none⟩,
          ⟨(some 19), (.op (.mv (.tmp 7))), none⟩,
          ⟨(some 20), (.op (.bin .lss none (.tmp 18) (.tmp 19))), none⟩] [])
        (.cond (.tmp 20)
          .skip
          (.exit 0)))
        (.seq (.block 1
          (.region [
            ⟨(some 23), (.op (.mv (.tmp 8))), none⟩,
            ⟨(some 24), (.op (.bin .mul none (.tmp 23) (.cst (.int .u32 16777619)))), none⟩,
            ⟨(some 25), (.op (.mv (.tmp 0))), none⟩,
            ⟨(some 26), (.op (.mv (.tmp 9))), none⟩,
            ⟨(some 27), (.op (.idxStr (.tmp 25) (.tmp 26))), none⟩,
            ⟨(some 28), (.op (.cInt .u32 (.tmp 27))), none⟩,
            ⟨(some 29), (.op (.bin .add none (.tmp 24) (.tmp 28))), none⟩,
            ⟨(some 8), (.op (.mv (.tmp 29))), none⟩] []))
        (.region [
          ⟨(some 21), (.op (.mv (.tmp 9))), none⟩,
          ⟨(some 22), (.op (.bin .add none (.tmp 21) (.cst (.int .i64 1)))), none⟩,
          ⟨(some 9), (.op (.mv (.tmp 22))), none⟩] []))))))
    (.seq (.seq (.region [
      ⟨(some 30), (.op (.mv (.tmp 8))), none⟩,
      ⟨(some 31), (.op (.mv (.tmp 5))), none⟩,
      ⟨(some 32), (.op (.bin .eql (some .int) (.tmp 30) (.tmp 31))), none⟩,
      ⟨(some 33), (.op (.mv (.tmp 32))), none⟩,
      ⟨(some 34), (.op (.mv (.tmp 0))), (some (33, true))⟩,
      ⟨(some 35), (.op (.mv (.tmp 7))), (some (33, true))⟩,
      ⟨(some 36), (.op (.sliceStr (.tmp 34) none (some (.tmp 35)))), (some (33, true))⟩,
      ⟨(some 37), (.op (.mv (.tmp 1))), (some (33, true))⟩,
      ⟨(some 38), (.op (.bin .eql (some .str) (.tmp 36) (.tmp 37))), (some (33, true))⟩,
      ⟨(some 39), (.op (.pick (.tmp 33) (.tmp 38) (.cst (.bool false)))), none⟩] [])
    (.cond (.tmp 39)
      (.seq (.region [
        ⟨(some 4), (.op (.mv (.cst (.int .i64 0)))), none⟩] [])
      .ret)
      .skip))
    (.seq (.seq (.region [
      ⟨(some 40), (.op (.mv (.tmp 7))), none⟩,
      ⟨(some 10), (.op (.mv (.tmp 40))), none⟩] [])
    (.block 2
      (.loop
        (.seq (.seq (.region [
          ⟨(some 41), (.op (.mv (.tmp 10))), none⟩,
          ⟨(some 42), (.op (.mv (.tmp 0))), none⟩,
          ⟨(some 43), (.op (.len .str (.tmp 42))), none⟩,
          ⟨(some 44), (.op (.bin .lss none (.tmp 41) (.tmp 43))), none⟩] [])
        (.cond (.tmp 44)
          .skip
          (.exit 2)))
        (.block 3
          (.seq (.region [
            ⟨(some 45), (.op (.mv (.tmp 8))), none⟩,
            ⟨(some 46), (.op (.bin .mul none (.tmp 45) (.cst (.int .u32 16777619)))), none⟩,
            ⟨(some 8), (.op (.mv (.tmp 46))), none⟩] [])
          (.seq (.region [
            ⟨(some 47), (.op (.mv (.tmp 8))), none⟩,
            ⟨(some 48), (.op (.mv (.tmp 0))), none⟩,
            ⟨(some 49), (.op (.mv (.tmp 10))), none⟩,
            ⟨(some 50), (.op (.idxStr (.tmp 48) (.tmp 49))), none⟩,
            ⟨(some 51), (.op (.cInt .u32 (.tmp 50))), none⟩,
            ⟨(some 52), (.op (.bin .add none (.tmp 47) (.tmp 51))), none⟩,
            ⟨(some 8), (.op (.mv (.tmp 52))), none⟩] [])
          (.seq (.region [
            ⟨(some 53), (.op (.mv (.tmp 8))), none⟩,
            ⟨(some 54), (.op (.mv (.tmp 6))), none⟩,
            ⟨(some 55), (.op (.mv (.tmp 0))), none⟩,
            ⟨(some 56), (.op (.mv (.tmp 10))), none⟩,
            ⟨(some 57), (.op (.mv (.tmp 7))), none⟩,
            ⟨(some 58), (.op (.bin .sub none (.tmp 56) (.tmp 57))), none⟩,
            ⟨(some 59), (.op (.idxStr (.tmp 55) (.tmp 58))), none⟩,
            ⟨(some 60), (.op (.cInt .u32 (.tmp 59))), none⟩,
            ⟨(some 61), (.op (.bin .mul none (.tmp 54) (.tmp 60))), none⟩,
            ⟨(some 62), (.op (.bin .sub none (.tmp 53) (.tmp 61))), none⟩,
            ⟨(some 8), (.op (.mv (.tmp 62))), none⟩] [])
          (.seq (.region [
            ⟨(some 63), (.op (.mv (.tmp 10))), none⟩,
            ⟨(some 64), (.op (.bin .add none (.tmp 63) (.cst (.int .i64 1)))), none⟩,
            ⟨(some 10), (.op (.mv (.tmp 64))), none⟩] [])
          (.seq (.region [
            ⟨(some 65), (.op (.mv (.tmp 8))), none⟩,
            ⟨(some 66), (.op (.mv (.tmp 5))), none⟩,
            ⟨(some 67), (.op (.bin .eql (some .int) (.tmp 65) (.tmp 66))), none⟩,
            ⟨(some 68), (.op (.mv (.tmp 67))), none⟩,
            ⟨(some 69), (.op (.mv (.tmp 0))), (some (68, true))⟩,
            ⟨(some 70), (.op (.mv (.tmp 10))), (some (68, true))⟩,
            ⟨(some 71), (.op (.mv (.tmp 7))), (some (68, true))⟩,
            ⟨(some 72), (.op (.bin .sub none (.tmp 70) (.tmp 71))), (some (68, true))⟩,
            ⟨(some 73), (.op (.mv (.tmp 10))), (some (68, true))⟩,
            ⟨(some 74), (.op (.sliceStr (.tmp 69) (some (.tmp 72)) (some (.tmp 73)))), (some (68, true))⟩,
            ⟨(some 75), (.op (.mv (.tmp 1))), (some (68, true))⟩,
            ⟨(some 76), (.op (.bin .eql (some .str) (.tmp 74) (.tmp 75))), (some (68, true))⟩,
            ⟨(some 77), (.op (.pick (.tmp 68) (.tmp 76) (.cst (.bool false)))), none⟩] [])
          (.cond (.tmp 77)
            (.seq (.region [
              ⟨(some 78), (.op (.mv (.tmp 10))), none⟩,
              ⟨(some 79), (.op (.mv (.tmp 7))), none⟩,
              ⟨(some 80), (.op (.bin .sub none (.tmp 78) (.tmp 79))), none⟩,
              ⟨(some 4), (.op (.mv (.tmp 80))), none⟩] [])
            .ret)
            .skip)))))))))))
    (.seq (.region [
      ⟨(some 4), (.op (.mv (.cst (.int .i64 (-1))))), none⟩] [])
    .ret))))))))⟩
theorem c62 : cFn Tryd.prog [] Tryd.f62 = some h62 := by kernel_rfl
/-- internal/bytealg.hashStr[string] -/
def h65 : HFn :=
  ⟨39, [(.tmp 2), (.tmp 3)],
    (.seq (.region [
      ⟨(some 2), (.op (.mv (.cst (.int .u32 0)))), none⟩,
      ⟨(some 3), (.op (.mv (.cst (.int .u32 0)))), none⟩] [])
    (.seq (.region [
      ⟨(some 4), (.op (.mv (.cst (.int .u32 0)))), none⟩] [])
    (.seq (.seq (.region [
      ⟨(some 5), (.op (.mv (.cst (.int .i64 0)))), none⟩] [])
    (.block 0
      (.loop
        (.seq (.seq (.region [
          ⟨(some 9), (.op (.mv (.tmp 5))), none⟩,
          ⟨(some 10), (.op (.mv (.tmp 0))), none⟩,
          ⟨(some 11), (.op (.len .str (.tmp 10))), none⟩,
          ⟨(some 12), (.op (.bin .lss none (.tmp 9) (.tmp 11))), none⟩] [])
        (.cond (.tmp 12)
          .skip
          (.exit 0)))
        (.seq (.block 1
          (.region [
            ⟨(some 15), (.op (.mv (.tmp 4))), none⟩,
            ⟨(some 16), (.op (.bin .mul none (.tmp 15) (.cst (.int .u32 16777619)))), none⟩,
            ⟨(some 17), (.op (.mv (.tmp 0))), none⟩,
            ⟨(some 18), (.op (.mv (.tmp 5))), none⟩,
            ⟨(some 19), (.op (.idxStr (.tmp 17) (.tmp 18))), none⟩,
            ⟨(some 20), (.op (.cInt .u32 (.tmp 19))), none⟩,
            ⟨(some 21), (.op (.bin .add none (.tmp 16) (.tmp 20))), none⟩,
            ⟨(some 4), (.op (.mv (.tmp 21))), none⟩] []))
        (.region [
          ⟨(some 13), (.op (.mv (.tmp 5))), none⟩,
          ⟨(some 14), (.op (.bin .add none (.tmp 13) (.cst (.int .i64 1)))), none⟩,
          ⟨(some 5), (.op (.mv (.tmp 14))), none⟩] []))))))
    (.seq (.region [
      ⟨(some 6), (.op (.mv (.cst (.int .u32 1)))), none⟩,
      ⟨(some 7), (.op (.mv (.cst (.int .u32 16777619)))), none⟩] [])
    (.seq (.seq (.region [
      ⟨(some 22), (.op (.mv (.tmp 0))), none⟩,
      ⟨(some 23), (.op (.len .str (.tmp 22))), none⟩,
      ⟨(some 8), (.op (.mv (.tmp 23))), none⟩] [])
    (.block 2
      (.loop
        (.seq (.seq (.region [
          ⟨(some 24), (.op (.mv (.tmp 8))), none⟩,
          ⟨(some 25), (.op (.bin .gtr none (.tmp 24) (.cst (.int .i64 0)))), none⟩] [])
        (.cond (.tmp 25)
          .skip
          (.exit 2)))
        (.seq (.block 3
          (.seq (.seq (.region [
            ⟨(some 28), (.op (.mv (.tmp 8))), none⟩,
            ⟨(some 29), (.op (.bin .and none (.tmp 28) (.cst (.int .i64 1)))), none⟩,
            ⟨(some 30), (.op (.bin .neq (some .int) (.tmp 29) (.cst (.int .i64 0)))), none⟩] [])
          (.cond (.tmp 30)
            (.region [
              ⟨(some 31), (.op (.mv (.tmp 6))), none⟩,
              ⟨(some 32), (.op (.mv (.tmp 7))), none⟩,
              ⟨(some 33), (.op (.bin .mul none (.tmp 31) (.tmp 32))), none⟩,
              ⟨(some 6), (.op (.mv (.tmp 33))), none⟩] [])
            .skip))
          (.region [
            ⟨(some 34), (.op (.mv (.tmp 7))), none⟩,
            ⟨(some 35), (.op (.mv (.tmp 7))), none⟩,
            ⟨(some 36), (.op (.bin .mul none (.tmp 34) (.tmp 35))), none⟩,
            ⟨(some 7), (.op (.mv (.tmp 36))), none⟩] [])))
        (.region [
          ⟨(some 26), (.op (.mv (.tmp 8))), none⟩,
          ⟨(some 27), (.op (.bin .shr none (.tmp 26) (.cst (.int .u64 1)))), none⟩,
          ⟨(some 8), (.op (.mv (.tmp 27))), none⟩] []))))))
    (.seq (.region [
      ⟨(some 37), (.op (.mv (.tmp 4))), none⟩,
      ⟨(some 38), (.op (.mv (.tmp 6))), none⟩,
      ⟨(some 2), (.op (.mv (.tmp 37))), none⟩,
      ⟨(some 3), (.op (.mv (.tmp 38))), none⟩] [])
    .ret))))))⟩
theorem c65 : cFn Tryd.prog [] Tryd.f65 = some h65 := by kernel_rfl
def F : FuncId → Option HFn
  | 9 => some h9
  | 15 => some h15
  | 21 => some h21
  | 27 => some h27
  | 29 => some h29
  | 34 => some h34
  | 35 => some h35
  | 36 => some h36
  | 37 => some h37
  | 40 => some h40
  | 41 => some h41
  | 42 => some h42
  | 45 => some h45
  | 46 => some h46
  | 47 => some h47
  | 48 => some h48
  | 49 => some h49
  | 50 => some h50
  | 51 => some h51
  | 52 => some h52
  | 53 => some h53
  | 54 => some h54
  | 55 => some h55
  | 56 => some h56
  | 57 => some h57
  | 58 => some h58
  | 59 => some h59
  | 61 => some h61
  | 62 => some h62
  | 65 => some h65
  | _ => none
theorem F_ok : FOk Tryd.prog F := by
  intro f hf h
  unfold F at h
  split at h
  · simp at h; subst h; exact ⟨_, [], Tryd.func9, c9⟩
  · simp at h; subst h; exact ⟨_, [], Tryd.func15, c15⟩
  · simp at h; subst h; exact ⟨_, [], Tryd.func21, c21⟩
  · simp at h; subst h; exact ⟨_, [], Tryd.func27, c27⟩
  · simp at h; subst h; exact ⟨_, [], Tryd.func29, c29⟩
  · simp at h; subst h; exact ⟨_, [], Tryd.func34, c34⟩
  · simp at h; subst h; exact ⟨_, [], Tryd.func35, c35⟩
  · simp at h; subst h; exact ⟨_, [], Tryd.func36, c36⟩
  · simp at h; subst h; exact ⟨_, [], Tryd.func37, c37⟩
  · simp at h; subst h; exact ⟨_, [], Tryd.func40, c40⟩
  · simp at h; subst h; exact ⟨_, [], Tryd.func41, c41⟩
  · simp at h; subst h; exact ⟨_, [], Tryd.func42, c42⟩
  · simp at h; subst h; exact ⟨_, [], Tryd.func45, c45⟩
  · simp at h; subst h; exact ⟨_, [], Tryd.func46, c46⟩
  · simp at h; subst h; exact ⟨_, [], Tryd.func47, c47⟩
  · simp at h; subst h; exact ⟨_, [], Tryd.func48, c48⟩
  · simp at h; subst h; exact ⟨_, [], Tryd.func49, c49⟩
  · simp at h; subst h; exact ⟨_, [], Tryd.func50, c50⟩
  · simp at h; subst h; exact ⟨_, [], Tryd.func51, c51⟩
  · simp at h; subst h; exact ⟨_, [], Tryd.func52, c52⟩
  · simp at h; subst h; exact ⟨_, [], Tryd.func53, c53⟩
  · simp at h; subst h; exact ⟨_, [], Tryd.func54, c54⟩
  · simp at h; subst h; exact ⟨_, [], Tryd.func55, c55⟩
  · simp at h; subst h; exact ⟨_, [], Tryd.func56, c56⟩
  · simp at h; subst h; exact ⟨_, [], Tryd.func57, c57⟩
  · simp at h; subst h; exact ⟨_, [], Tryd.func58, c58⟩
  · simp at h; subst h; exact ⟨_, [], Tryd.func59, c59⟩
  · simp at h; subst h; exact ⟨_, [], Tryd.func61, c61⟩
  · simp at h; subst h; exact ⟨_, [], Tryd.func62, c62⟩
  · simp at h; subst h; exact ⟨_, [], Tryd.func65, c65⟩
  · simp at h
end S
end Go.Proofs.YteedmbmgemiheaaDoor
namespace Go.Proofs.YteedmbmgemiheaaDoor
open Go Go.HL Go.Shelf Y
namespace A
set_option maxRecDepth 100000
set_option maxHeartbeats 40000000
theorem frameHead {P : Program} {f : FuncId} {args : List HV} {hs : HS} {g : Nat} {R : HV → Prop} (h0 : hs[0]? = some (some (HB.gint g))) (ha : args.all HV.flat = true) (hv : ∀ v, R v → v.flat = true) (h : HC P f args [some (HB.gint g)] fun v _ => R v) : HC P f args hs fun v hs' => R v ∧ hs' = hs := by
  intro β w us E Ra
  have he : ∃ e, β[0]? = some e := by
    have : 0 < β.length := by rw [E.len]; exact lt_of_get h0
    exact ⟨_, List.getElem?_eq_getElem this⟩
  obtain ⟨e, he⟩ := he
  have hb := E.blk 0 e _ he h0
  have E0 : Emb [e] [some (HB.gint g)] w := ⟨rfl, fun i e' b h1 h2 => by
    have hi : i = 0 := by have := lt_of_get h1; simp at this; omega
    subst hi
    simp at h1 h2; subst h1 h2
    exact hb, fun i j e1 e2 b1 b2 hne h1 h2 _ _ => by
    have hi : i = 0 := by have := lt_of_get h1; simp at this; omega
    have hj : j = 0 := by have := lt_of_get h2; simp at this; omega
    exact absurd (by rw [hi, hj]) hne⟩
  refine (h [e] w us E0 (Ra.flat ha)).mono ?_
  rintro en w' ⟨β', u, v, hs', rfl, hR, hr, S⟩
  have same : ∀ k, k < w.heap.size → w'.heap[k]? = w.heap[k]? := fun k hk => S.same k hk (by
    rintro ⟨i, e, b, _, h2, h3, _⟩
    have hi : i = 0 := by have := lt_of_get h2; simp at this; omega
    subst hi
    simp at h2; subst h2
    simp [HB.ro] at h3)
  refine ⟨β, u, v, hs, rfl, ⟨hR, rfl⟩, hr.flat (hv v hR), ⟨Ext.refl _, ⟨E.len, fun i e b h1 h2 => ?_, E.sep⟩, S.size, fun k hk _ => same k hk, fun _ _ h => h, S.os, S.output, S.tape, fun _ _ hl he => absurd (lt_of_get he) (by omega)⟩⟩
  have hB := E.blk i e b h1 h2
  exact hB.world (same _ hB.lt)
theorem ok9 : okF Tryd.prog 9 := ⟨_, Tryd.func9, by kernel_rfl, by kernel_rfl⟩
theorem run9 : ((hcallN S.F X 400 9 [] [some (.gint 1)]).map fun l => l.all fun x => HV.eqb x.1 (.bool true)) = some true := by kernel_rfl
theorem shown9 {hs : HS} {l : List SA} (H : Sat hs l) (G : hs[0]? = some (some (HB.gint 1))) : HC Tryd.prog 9 [] hs fun v hs' => v = .bool true ∧ Sat hs' l :=
  (frameHead (R := fun v => v = .bool true) G rfl (fun v h => by subst h; rfl) (hcallN_bool mixed S.F_ok X_ok rfl run9)).mono fun v hs' h => ⟨h.1, by rw [h.2]; exact H⟩
/-- a mark. -/
def mk (i : Nat) : List UInt8 := [42, UInt8.ofNat (97 + i)]
theorem mark_runs : ((List.range 3).all fun n => match hcall S.F X 60 45 [.int .i64 (n : Nat)] [] with | some (v, _) => HV.eqb v (.str (mk n)) | none => false) = true := by kernel_rfl
theorem mark45 {hs : HS} (i : Nat) (hi : i < 3) : HC Tryd.prog 45 [.int .i64 (i : Nat)] hs fun v hs' => v = .str (mk i) ∧ hs' = hs := by
  refine HC.frame (R := fun v => v = .str (mk i)) (by rfl) (fun v h => by subst h; rfl) ?_
  have h := List.all_eq_true.1 mark_runs i (by simp; omega)
  split at h
  · rename_i v hs' hr
    have hv := HV.eqb_eq _ _ h
    subst hv
    exact (hcall_HC mixed S.F_ok X_ok (n := 60) rfl hr).mono fun v1 _ ⟨h1, _⟩ => h1
  · simp at h
end A
end Go.Proofs.YteedmbmgemiheaaDoor
