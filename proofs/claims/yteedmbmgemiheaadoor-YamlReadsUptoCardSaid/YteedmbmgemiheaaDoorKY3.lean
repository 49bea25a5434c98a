/-
  Proved: the law YamlReads (stintlaw09) returns true wherever what it reads is of bulk at most 1048576 (the second form's tied card).
  Lists that were handed out are their owner's: apart.
  Dictionaries that were handed out are their owner's: apartPairs.
  YamlReads: what the law comes to.
-/
import Derived.Test.YteedmbmgemiheaaDoorKY2
import Derived.Test.YteedmbmgemiheaaDoorKYHLGrow
import Derived.Test.YteedmbmgemiheaaDoorKYHLCopy
namespace Go.Proofs.YteedmbmgemiheaaDoor
open Go Go.HL Go.Shelf Y
namespace A
set_option maxRecDepth 100000
set_option maxHeartbeats 40000000
set_option linter.unusedSimpArgs false
theorem rep_set {L : List (List UInt8)} {k : Nat} {m : List UInt8} (h : k < L.length) : ((List.replicate k m ++ L.drop k).map HV.str).set k (.str m) = (List.replicate (k + 1) m ++ L.drop (k + 1)).map HV.str := by
  have e : L.drop k = L[k] :: L.drop (k + 1) := List.drop_eq_getElem_cons h
  rw [e, List.map_append, List.set_append_right _ _ (by simp), List.map_cons]
  simp [List.replicate_succ']
theorem rep_get {n k : Nat} {m : List UInt8} (h : k < n) : ((List.replicate n m).map HV.str)[k]? = some (.str m) := by
  simp [h]
section
variable {C : HV → HS → Prop}
theorem sl_setM {hs : HS} {l : List SA} {v x : HV} {n i : Nat} {xs : List HV} {k : IntKind} {p : HV} (H : Sat hs (My 1 v n xs :: l)) (hp : hindexAddr 1 v (.int k (i : Nat)) = some p) (hi : i < n) (hc : x.cells = [x]) (h1 : x.one = true)
    (next : ∀ (_ : HV) hs', Sat hs' (My 1 v n (xs.set i x) :: l) → C .undef hs') : opC (HL.unit (hstore 1 hs p x)) C := by
  obtain ⟨h, o, hs', e1, e2, e3⟩ := H.write hi (show 0 < 1 by omega) k hc h1
  rw [hp] at e1; cases e1
  rw [Nat.add_zero] at e2
  rw [e2]
  exact ⟨_, hs', rfl, next .undef _ (by simpa using e3)⟩
end
attribute [local irreducible] pt My Ex Vw Gr GrK GrS GsK each grp exs Sat takeCells happend hbuildSlice hstore hbox hslice hmakeSlice hs2b hcopy HL.unit opC mk
theorem rep_snoc {n : Nat} {m : List UInt8} : (List.replicate n m).map HV.str ++ [.str m] = (List.replicate (n + 1) m).map HV.str := by
  simp [List.replicate_succ']
theorem three_idx {hs : HS} {v : HV} {xs : List HV} (R : Rd hs 1 v 3 xs) : ∃ p0 p1 p2, hindexAddr 1 v (.int .i64 0) = some p0 ∧ hindexAddr 1 v (.int .i64 1) = some p1 ∧ hindexAddr 1 v (.int .i64 2) = some p2 := by
  have hl := R.1
  have g : ∀ i, i < 3 → ∃ x, xs[i]? = some x := fun i h => ⟨_, List.getElem?_eq_getElem (by omega)⟩
  obtain ⟨x0, h0⟩ := g 0 (by omega)
  obtain ⟨x1, h1⟩ := g 1 (by omega)
  obtain ⟨x2, h2⟩ := g 2 (by omega)
  obtain ⟨p0, a0, _⟩ := R.idx1 h0 .i64
  obtain ⟨p1, a1, _⟩ := R.idx1 h1 .i64
  obtain ⟨p2, a2, _⟩ := R.idx1 h2 .i64
  exact ⟨p0, p1, p2, a0, a1, a2⟩
theorem z23 : hbin .add none (.int .i64 2) (.int .i64 1) = some (.int .i64 3) := rfl
theorem apart25 {hs : HS} {l : List SA} {a b c : HV} {La Lb Lc : List (List UInt8)} (H : Sat hs (Ex 1 a La.length (La.map HV.str) :: Ex 1 b Lb.length (Lb.map HV.str) :: Ex 1 c Lc.length (Lc.map HV.str) :: l))
    (ha : La.length < 1073741824) (hb : Lb.length < 1073741824) (hc : Lc.length < 1073741824) : HC Tryd.prog 25 [a, b, c] hs fun v hs' => v = .bool true ∧ Sat hs' l := by
  have hmax : maxLen = 9223372036854775807 := rfl
  have oa1 := H.rdX.one
  have oa2 := H.rdX.cells
  have ob1 := H.p1.rdX.one
  have ob2 := H.p1.rdX.cells
  have oc1 := H.p2.rdX.one
  have oc2 := H.p2.rdX.cells
  have la := H.rdX.len
  have lb := H.p1.rdX.len
  have lc := H.p2.rdX.len
  refine HC.wp mixed Tryd.func25 c25 ?_
  have fill3 : hfill [.nilSlice, .nilSlice, .nilSlice] [(0, 1, a), (1, 1, b), (2, 1, c)] = some [a, b, c] := by
    rw [hf_one oa1 oa2 (by simp), hf_one ob1 ob2 (by simp), hf_one oc1 oc2 (by simp)]; rfl
  first | have f0 := Sat.pf (H) | have f0 := trivial
  first | have f1 := Sat.pf (H.t) | have f1 := trivial
  first | have f2 := Sat.pf (H.t.t) | have f2 := trivial
  first | have f3 := Sat.pf (H.t.t.t) | have f3 := trivial
  first | have f4 := Sat.pf (H.t.t.t.t) | have f4 := trivial
  first | have f5 := Sat.pf (H.t.t.t.t.t) | have f5 := trivial
  first | have f6 := Sat.pf (H.t.t.t.t.t.t) | have f6 := trivial
  first | have f7 := Sat.pf (H.t.t.t.t.t.t.t) | have f7 := trivial
  repeat' first
    | ((with_reducible show Need _); refine need_of ?_; (first | have f0 := Sat.pf (H) | have f0 := trivial); (first | have f1 := Sat.pf (H.t) | have f1 := trivial); (first | have f2 := Sat.pf (H.t.t) | have f2 := trivial); (first | have f3 := Sat.pf (H.t.t.t) | have f3 := trivial); (first | have f4 := Sat.pf (H.t.t.t.t) | have f4 := trivial); (first | have f5 := Sat.pf (H.t.t.t.t.t) | have f5 := trivial); (first | have f6 := Sat.pf (H.t.t.t.t.t.t) | have f6 := trivial); (first | have f7 := Sat.pf (H.t.t.t.t.t.t.t) | have f7 := trivial))
    | simp -implicitDefEqProofs (disch := first | omega | decide | exact rfl | assumption | exact Nat.le_of_ble_eq_true rfl | exact One.c | exact One.o) only [vsA, vsB, eq_self, if_true, if_false, implies_true, false_implies, evp, HX.ev, Nat.reduceAdd, HOp.looks, Nat.reduceEqDiff, overw, Nat.reduceBEq, h25, fill3, ub25, f0, f1, f2, f3, f4, f5, f6, f7, frame0, List.replicate, Nat.sub]
    | refine opC_K ?_
    | ((with_reducible show opC (hbuildSlice _ _ _ _ _) _); refine sl_bsliceK H rfl rfl (by omega) fill3 rfl ?_; clear H f0 f1 f2 f3 f4 f5 f6 f7; intro y hs H; refine need ?_)

  have oy1 := H.rd.one
  have oy2 := H.rd.cells
  have ly := H.rd.len
  obtain ⟨p0, p1, p2, e0, e1, e2⟩ := three_idx H.rd
  have l0 := H.rd.ld1 (i := 0) e0 rfl
  have l1 := H.rd.ld1 (i := 1) e1 rfl
  have l2 := H.rd.ld1 (i := 2) e2 rfl
  refine HW.rounds mixed 4 ?_
  first | have f0 := Sat.pf (H) | have f0 := trivial
  first | have f1 := Sat.pf (H.t) | have f1 := trivial
  first | have f2 := Sat.pf (H.t.t) | have f2 := trivial
  first | have f3 := Sat.pf (H.t.t.t) | have f3 := trivial
  first | have f4 := Sat.pf (H.t.t.t.t) | have f4 := trivial
  first | have f5 := Sat.pf (H.t.t.t.t.t) | have f5 := trivial
  first | have f6 := Sat.pf (H.t.t.t.t.t.t) | have f6 := trivial
  first | have f7 := Sat.pf (H.t.t.t.t.t.t.t) | have f7 := trivial
  repeat' first
    | simp -implicitDefEqProofs (disch := first | omega | decide | exact rfl | assumption | exact Nat.le_of_ble_eq_true rfl | exact One.c | exact One.o) only [vsA, vsB, eq_self, if_true, if_false, implies_true, false_implies, evp, HX.ev, Nat.reduceAdd, HOp.looks, Nat.reduceEqDiff, overw, Nat.reduceBEq, oa1, oa2, ob1, ob2, oc1, oc2, la, lb, lc, oy1, oy2, ly, e0, e1, e2, l0, l1, l2, z01, z12, z23, lr_succ, vadd1, ub25, f0, f1, f2, f3, f4, f5, f6, f7]
    | (refine condK_cases (fun h => ?_) (fun h => ?_) <;> (try simp only [h]) <;> (try simp only [athA, ne_eq] at h) <;> (try (exfalso; omega)))

  refine HW.loopA mixed (fun k : Nat => (a :: b :: c :: .undef :: .undef :: .undef :: .undef :: y :: .int .i64 0 :: a :: .undef :: .undef :: .undef :: .undef :: .undef :: .undef :: .undef :: .undef :: .undef :: .undef :: .undef :: .undef :: .undef :: .undef :: y :: .int .i64 ((3 : Nat) : Int) :: .int .i64 0 :: .undef :: .undef :: .undef :: .undef :: .undef :: .int .i64 (La.length : Nat) :: .int .i64 (k : Nat) :: .undef :: .undef :: .undef :: .undef :: .undef :: .undef :: .undef :: .undef :: .undef :: .undef :: .undef :: .undef :: .undef :: .undef :: .undef :: .undef :: .undef :: .undef :: .undef :: .undef :: .undef :: .undef :: .undef :: .undef :: .undef :: .undef :: .undef :: .undef :: .undef :: .undef :: .undef :: .undef :: .undef :: .undef :: .undef :: .undef :: .undef :: .undef :: .undef :: .undef :: .undef :: .undef :: .undef :: .undef :: .undef :: .undef :: .undef :: .undef :: .undef :: .undef :: .undef :: .undef :: .undef :: .undef :: .undef :: .undef :: .undef :: .undef :: .undef :: .undef :: .undef :: .undef :: .undef :: .undef :: .undef :: .undef :: .undef :: .undef :: .undef :: .undef :: [])) (fun k => Ex 1 a La.length ((List.replicate k (mk 0) ++ La.drop k).map HV.str) :: My 1 y 3 [a, b, c] :: Ex 1 b Lb.length (Lb.map HV.str) :: Ex 1 c Lc.length (Lc.map HV.str) :: l) (fun k => La.length - k) (fun k => k ≤ La.length) 0 (Nat.zero_le _) (by (repeat first | exact Less.nil | refine Less.undef _ ?_ | refine Less.keep _ ?_)) H.p3.p3.p2.p3 ?_
  clear H l0 l1 l2
  rintro k hs hk H
  have l0 := (Sat.rd (v := y) (by with_reducible first | exact H | exact H.p1 | exact H.p2 | exact H.p3 | exact H.p4 | exact H.p5 | exact H.p6 | exact H.p7)).ld1 (i := 0) e0 rfl
  have l1 := (Sat.rd (v := y) (by with_reducible first | exact H | exact H.p1 | exact H.p2 | exact H.p3 | exact H.p4 | exact H.p5 | exact H.p6 | exact H.p7)).ld1 (i := 1) e1 rfl
  have l2 := (Sat.rd (v := y) (by with_reducible first | exact H | exact H.p1 | exact H.p2 | exact H.p3 | exact H.p4 | exact H.p5 | exact H.p6 | exact H.p7)).ld1 (i := 2) e2 rfl
  by_cases ha0 : k < La.length
  · obtain ⟨p, hs2, hix, hst, H2⟩ := H.exWrite1 ha0 .i64 (x := .str (mk 0)) rfl rfl
    rw [rep_set ha0] at H2
    have so := H.rdX.sOk
    have d0 : decide (((k : Nat) : Int) < ((La.length : Nat) : Int)) = true := decide_eq_true (by omega)
    repeat' first
      | simp -implicitDefEqProofs (disch := first | omega | decide | exact rfl | assumption | exact Nat.le_of_ble_eq_true rfl | exact One.c | exact One.o) only [vsA, vsB, eq_self, if_true, if_false, implies_true, false_implies, evp, HX.ev, Nat.reduceAdd, HOp.looks, Nat.reduceEqDiff, overw, Nat.reduceBEq, d0, hix, hst, so, opC_some, vunit_sm, vadd1, ub25]
      | ((with_reducible show actK _ (HAct.call (HX.cst (HV.func (Fn.func 45) _ _)) _) _ _ _ _ _); refine vcall_of ok45 rfl (mark45 0 (by omega)) ?_; rintro _ _ ⟨rfl, rfl⟩)

    exact ⟨k + 1, _, by omega, by omega, (by (repeat first | exact Less.nil | refine Less.undef _ ?_ | refine Less.keep _ ?_)), Weak.refl _, H2⟩
  obtain rfl : k = La.length := by omega
  have d0 : decide (((La.length : Nat) : Int) < ((La.length : Nat) : Int)) = false := decide_eq_false (by omega)
  rw [List.drop_length, List.append_nil] at H
  first | have f0 := Sat.pf (H) | have f0 := trivial
  first | have f1 := Sat.pf (H.t) | have f1 := trivial
  first | have f2 := Sat.pf (H.t.t) | have f2 := trivial
  first | have f3 := Sat.pf (H.t.t.t) | have f3 := trivial
  first | have f4 := Sat.pf (H.t.t.t.t) | have f4 := trivial
  first | have f5 := Sat.pf (H.t.t.t.t.t) | have f5 := trivial
  first | have f6 := Sat.pf (H.t.t.t.t.t.t) | have f6 := trivial
  first | have f7 := Sat.pf (H.t.t.t.t.t.t.t) | have f7 := trivial
  repeat' first
    | simp -implicitDefEqProofs (disch := first | omega | decide | exact rfl | assumption | exact Nat.le_of_ble_eq_true rfl | exact One.c | exact One.o) only [vsA, vsB, eq_self, if_true, if_false, implies_true, false_implies, evp, HX.ev, Nat.reduceAdd, HOp.looks, Nat.reduceEqDiff, overw, Nat.reduceBEq, d0, oa1, oa2, ob1, ob2, oc1, oc2, la, lb, lc, oy1, oy2, ly, e0, e1, e2, l0, l1, l2, z01, z12, z23, lr_succ, vadd1, ub25, f0, f1, f2, f3, f4, f5, f6, f7]
    | (refine condK_cases (fun h => ?_) (fun h => ?_) <;> (try simp only [h]) <;> (try simp only [athA, ne_eq] at h) <;> (try (exfalso; omega)))

  refine HW.loopA mixed (fun k : Nat => (a :: b :: c :: .undef :: .undef :: .undef :: .undef :: y :: .int .i64 1 :: b :: .undef :: .undef :: .undef :: .undef :: .undef :: .undef :: .undef :: .undef :: .undef :: .undef :: .undef :: .undef :: .undef :: .undef :: y :: .int .i64 ((3 : Nat) : Int) :: .int .i64 1 :: .undef :: .undef :: .undef :: .undef :: .undef :: .int .i64 (Lb.length : Nat) :: .int .i64 (k : Nat) :: .undef :: .undef :: .undef :: .undef :: .undef :: .undef :: .undef :: .undef :: .undef :: .undef :: .undef :: .undef :: .undef :: .undef :: .undef :: .undef :: .undef :: .undef :: .undef :: .undef :: .undef :: .undef :: .undef :: .undef :: .undef :: .undef :: .undef :: .undef :: .undef :: .undef :: .undef :: .undef :: .undef :: .undef :: .undef :: .undef :: .undef :: .undef :: .undef :: .undef :: .undef :: .undef :: .undef :: .undef :: .undef :: .undef :: .undef :: .undef :: .undef :: .undef :: .undef :: .undef :: .undef :: .undef :: .undef :: .undef :: .undef :: .undef :: .undef :: .undef :: .undef :: .undef :: .undef :: .undef :: .undef :: .undef :: .undef :: .undef :: .undef :: .undef :: [])) (fun k => Ex 1 b Lb.length ((List.replicate k (mk 1) ++ Lb.drop k).map HV.str) :: Ex 1 a La.length ((List.replicate La.length (mk 0)).map HV.str) :: My 1 y 3 [a, b, c] :: Ex 1 c Lc.length (Lc.map HV.str) :: l) (fun k => Lb.length - k) (fun k => k ≤ Lb.length) 0 (Nat.zero_le _) (by (repeat first | exact Less.nil | refine Less.undef _ ?_ | refine Less.keep _ ?_)) H.p3.p2.p2.p3 ?_
  clear H l0 l1 l2
  rintro k hs hk H
  have l0 := (Sat.rd (v := y) (by with_reducible first | exact H | exact H.p1 | exact H.p2 | exact H.p3 | exact H.p4 | exact H.p5 | exact H.p6 | exact H.p7)).ld1 (i := 0) e0 rfl
  have l1 := (Sat.rd (v := y) (by with_reducible first | exact H | exact H.p1 | exact H.p2 | exact H.p3 | exact H.p4 | exact H.p5 | exact H.p6 | exact H.p7)).ld1 (i := 1) e1 rfl
  have l2 := (Sat.rd (v := y) (by with_reducible first | exact H | exact H.p1 | exact H.p2 | exact H.p3 | exact H.p4 | exact H.p5 | exact H.p6 | exact H.p7)).ld1 (i := 2) e2 rfl
  by_cases hb1 : k < Lb.length
  · obtain ⟨p, hs2, hix, hst, H2⟩ := H.exWrite1 hb1 .i64 (x := .str (mk 1)) rfl rfl
    rw [rep_set hb1] at H2
    have so := H.rdX.sOk
    have d0 : decide (((k : Nat) : Int) < ((Lb.length : Nat) : Int)) = true := decide_eq_true (by omega)
    repeat' first
      | simp -implicitDefEqProofs (disch := first | omega | decide | exact rfl | assumption | exact Nat.le_of_ble_eq_true rfl | exact One.c | exact One.o) only [vsA, vsB, eq_self, if_true, if_false, implies_true, false_implies, evp, HX.ev, Nat.reduceAdd, HOp.looks, Nat.reduceEqDiff, overw, Nat.reduceBEq, d0, hix, hst, so, opC_some, vunit_sm, vadd1, ub25]
      | ((with_reducible show actK _ (HAct.call (HX.cst (HV.func (Fn.func 45) _ _)) _) _ _ _ _ _); refine vcall_of ok45 rfl (mark45 1 (by omega)) ?_; rintro _ _ ⟨rfl, rfl⟩)

    exact ⟨k + 1, _, by omega, by omega, (by (repeat first | exact Less.nil | refine Less.undef _ ?_ | refine Less.keep _ ?_)), Weak.refl _, H2⟩
  obtain rfl : k = Lb.length := by omega
  have d0 : decide (((Lb.length : Nat) : Int) < ((Lb.length : Nat) : Int)) = false := decide_eq_false (by omega)
  rw [List.drop_length, List.append_nil] at H
  first | have f0 := Sat.pf (H) | have f0 := trivial
  first | have f1 := Sat.pf (H.t) | have f1 := trivial
  first | have f2 := Sat.pf (H.t.t) | have f2 := trivial
  first | have f3 := Sat.pf (H.t.t.t) | have f3 := trivial
  first | have f4 := Sat.pf (H.t.t.t.t) | have f4 := trivial
  first | have f5 := Sat.pf (H.t.t.t.t.t) | have f5 := trivial
  first | have f6 := Sat.pf (H.t.t.t.t.t.t) | have f6 := trivial
  first | have f7 := Sat.pf (H.t.t.t.t.t.t.t) | have f7 := trivial
  repeat' first
    | simp -implicitDefEqProofs (disch := first | omega | decide | exact rfl | assumption | exact Nat.le_of_ble_eq_true rfl | exact One.c | exact One.o) only [vsA, vsB, eq_self, if_true, if_false, implies_true, false_implies, evp, HX.ev, Nat.reduceAdd, HOp.looks, Nat.reduceEqDiff, overw, Nat.reduceBEq, d0, oa1, oa2, ob1, ob2, oc1, oc2, la, lb, lc, oy1, oy2, ly, e0, e1, e2, l0, l1, l2, z01, z12, z23, lr_succ, vadd1, ub25, f0, f1, f2, f3, f4, f5, f6, f7]
    | (refine condK_cases (fun h => ?_) (fun h => ?_) <;> (try simp only [h]) <;> (try simp only [athA, ne_eq] at h) <;> (try (exfalso; omega)))

  refine HW.loopA mixed (fun k : Nat => (a :: b :: c :: .undef :: .undef :: .undef :: .undef :: y :: .int .i64 2 :: c :: .undef :: .undef :: .undef :: .undef :: .undef :: .undef :: .undef :: .undef :: .undef :: .undef :: .undef :: .undef :: .undef :: .undef :: y :: .int .i64 ((3 : Nat) : Int) :: .int .i64 2 :: .undef :: .undef :: .undef :: .undef :: .undef :: .int .i64 (Lc.length : Nat) :: .int .i64 (k : Nat) :: .undef :: .undef :: .undef :: .undef :: .undef :: .undef :: .undef :: .undef :: .undef :: .undef :: .undef :: .undef :: .undef :: .undef :: .undef :: .undef :: .undef :: .undef :: .undef :: .undef :: .undef :: .undef :: .undef :: .undef :: .undef :: .undef :: .undef :: .undef :: .undef :: .undef :: .undef :: .undef :: .undef :: .undef :: .undef :: .undef :: .undef :: .undef :: .undef :: .undef :: .undef :: .undef :: .undef :: .undef :: .undef :: .undef :: .undef :: .undef :: .undef :: .undef :: .undef :: .undef :: .undef :: .undef :: .undef :: .undef :: .undef :: .undef :: .undef :: .undef :: .undef :: .undef :: .undef :: .undef :: .undef :: .undef :: .undef :: .undef :: .undef :: .undef :: [])) (fun k => Ex 1 c Lc.length ((List.replicate k (mk 2) ++ Lc.drop k).map HV.str) :: Ex 1 b Lb.length ((List.replicate Lb.length (mk 1)).map HV.str) :: Ex 1 a La.length ((List.replicate La.length (mk 0)).map HV.str) :: My 1 y 3 [a, b, c] :: l) (fun k => Lc.length - k) (fun k => k ≤ Lc.length) 0 (Nat.zero_le _) (by (repeat first | exact Less.nil | refine Less.undef _ ?_ | refine Less.keep _ ?_)) H.p2.p2.p2.p3 ?_
  clear H l0 l1 l2
  rintro k hs hk H
  have l0 := (Sat.rd (v := y) (by with_reducible first | exact H | exact H.p1 | exact H.p2 | exact H.p3 | exact H.p4 | exact H.p5 | exact H.p6 | exact H.p7)).ld1 (i := 0) e0 rfl
  have l1 := (Sat.rd (v := y) (by with_reducible first | exact H | exact H.p1 | exact H.p2 | exact H.p3 | exact H.p4 | exact H.p5 | exact H.p6 | exact H.p7)).ld1 (i := 1) e1 rfl
  have l2 := (Sat.rd (v := y) (by with_reducible first | exact H | exact H.p1 | exact H.p2 | exact H.p3 | exact H.p4 | exact H.p5 | exact H.p6 | exact H.p7)).ld1 (i := 2) e2 rfl
  by_cases hc2 : k < Lc.length
  · obtain ⟨p, hs2, hix, hst, H2⟩ := H.exWrite1 hc2 .i64 (x := .str (mk 2)) rfl rfl
    rw [rep_set hc2] at H2
    have so := H.rdX.sOk
    have d0 : decide (((k : Nat) : Int) < ((Lc.length : Nat) : Int)) = true := decide_eq_true (by omega)
    repeat' first
      | simp -implicitDefEqProofs (disch := first | omega | decide | exact rfl | assumption | exact Nat.le_of_ble_eq_true rfl | exact One.c | exact One.o) only [vsA, vsB, eq_self, if_true, if_false, implies_true, false_implies, evp, HX.ev, Nat.reduceAdd, HOp.looks, Nat.reduceEqDiff, overw, Nat.reduceBEq, d0, hix, hst, so, opC_some, vunit_sm, vadd1, ub25]
      | ((with_reducible show actK _ (HAct.call (HX.cst (HV.func (Fn.func 45) _ _)) _) _ _ _ _ _); refine vcall_of ok45 rfl (mark45 2 (by omega)) ?_; rintro _ _ ⟨rfl, rfl⟩)

    exact ⟨k + 1, _, by omega, by omega, (by (repeat first | exact Less.nil | refine Less.undef _ ?_ | refine Less.keep _ ?_)), Weak.refl _, H2⟩
  obtain rfl : k = Lc.length := by omega
  have d0 : decide (((Lc.length : Nat) : Int) < ((Lc.length : Nat) : Int)) = false := decide_eq_false (by omega)
  rw [List.drop_length, List.append_nil] at H
  first | have f0 := Sat.pf (H) | have f0 := trivial
  first | have f1 := Sat.pf (H.t) | have f1 := trivial
  first | have f2 := Sat.pf (H.t.t) | have f2 := trivial
  first | have f3 := Sat.pf (H.t.t.t) | have f3 := trivial
  first | have f4 := Sat.pf (H.t.t.t.t) | have f4 := trivial
  first | have f5 := Sat.pf (H.t.t.t.t.t) | have f5 := trivial
  first | have f6 := Sat.pf (H.t.t.t.t.t.t) | have f6 := trivial
  first | have f7 := Sat.pf (H.t.t.t.t.t.t.t) | have f7 := trivial
  repeat' first
    | simp -implicitDefEqProofs (disch := first | omega | decide | exact rfl | assumption | exact Nat.le_of_ble_eq_true rfl | exact One.c | exact One.o) only [vsA, vsB, eq_self, if_true, if_false, implies_true, false_implies, evp, HX.ev, Nat.reduceAdd, HOp.looks, Nat.reduceEqDiff, overw, Nat.reduceBEq, d0, oa1, oa2, ob1, ob2, oc1, oc2, la, lb, lc, oy1, oy2, ly, e0, e1, e2, l0, l1, l2, z01, z12, z23, lr_succ, vadd1, ub25, f0, f1, f2, f3, f4, f5, f6, f7]
    | (refine condK_cases (fun h => ?_) (fun h => ?_) <;> (try simp only [h]) <;> (try simp only [athA, ne_eq] at h) <;> (try (exfalso; omega)))

  refine HW.rounds mixed 4 ?_
  first | have f0 := Sat.pf (H) | have f0 := trivial
  first | have f1 := Sat.pf (H.t) | have f1 := trivial
  first | have f2 := Sat.pf (H.t.t) | have f2 := trivial
  first | have f3 := Sat.pf (H.t.t.t) | have f3 := trivial
  first | have f4 := Sat.pf (H.t.t.t.t) | have f4 := trivial
  first | have f5 := Sat.pf (H.t.t.t.t.t) | have f5 := trivial
  first | have f6 := Sat.pf (H.t.t.t.t.t.t) | have f6 := trivial
  first | have f7 := Sat.pf (H.t.t.t.t.t.t.t) | have f7 := trivial
  repeat' first
    | simp -implicitDefEqProofs (disch := first | omega | decide | exact rfl | assumption | exact Nat.le_of_ble_eq_true rfl | exact One.c | exact One.o) only [vsA, vsB, eq_self, if_true, if_false, implies_true, false_implies, evp, HX.ev, Nat.reduceAdd, HOp.looks, Nat.reduceEqDiff, overw, Nat.reduceBEq, d0, oa1, oa2, ob1, ob2, oc1, oc2, la, lb, lc, oy1, oy2, ly, e0, e1, e2, l0, l1, l2, z01, z12, z23, lr_succ, vadd1, ub25, f0, f1, f2, f3, f4, f5, f6, f7]
    | (refine condK_cases (fun h => ?_) (fun h => ?_) <;> (try simp only [h]) <;> (try simp only [athA, ne_eq] at h) <;> (try (exfalso; omega)))

  have Hx := H.p1.p1.p3.p3
  refine HW.loopA mixed (fun t : Nat × HV => (a :: b :: c :: .undef :: .undef :: .undef :: .undef :: y :: .undef :: .undef :: .undef :: .int .i64 0 :: .undef :: .undef :: .undef :: .undef :: .undef :: .undef :: .undef :: .undef :: .undef :: .undef :: .undef :: .undef :: .undef :: .undef :: .undef :: .undef :: .undef :: .undef :: .undef :: .undef :: .undef :: .undef :: .undef :: .undef :: .undef :: .undef :: .undef :: .undef :: .undef :: .undef :: .undef :: .undef :: .int .i64 ((3 : Nat) : Int) :: .int .i64 0 :: .undef :: .undef :: .int .i64 (t.1 : Nat) :: .undef :: .undef :: .undef :: .undef :: .undef :: .undef :: .undef :: .undef :: .undef :: .undef :: .undef :: .undef :: .undef :: .undef :: .undef :: .undef :: .undef :: .undef :: .undef :: .undef :: .undef :: .undef :: .undef :: .undef :: .undef :: .undef :: .undef :: .undef :: .undef :: .undef :: .undef :: .undef :: .undef :: .undef :: .undef :: .undef :: .undef :: .undef :: .undef :: .undef :: .undef :: .undef :: .undef :: .undef :: .undef :: .undef :: .undef :: .undef :: .undef :: .undef :: .undef :: .undef :: .undef :: .undef :: .undef :: [])) (fun t => GsK 1 t.1 a t.2 La.length (La.length + t.1) ((List.replicate (La.length) (mk 0)).map HV.str) ((List.replicate (La.length + t.1) (mk 0)).map HV.str) :: My 1 y 3 [t.2, b, c] :: Ex 1 c Lc.length ((List.replicate (Lc.length) (mk 2)).map HV.str) :: Ex 1 b Lb.length ((List.replicate (Lb.length) (mk 1)).map HV.str) :: l) (fun t => 20 - t.1) (fun t => t.1 ≤ 20) (0, a) (Nat.zero_le _) (by (repeat first | exact Less.nil | refine Less.undef _ ?_ | refine Less.keep _ ?_)) (gsk_start Hx) ?_
  clear H Hx l0 l1 l2
  rintro ⟨k, va⟩ hs hk H
  simp only at hk H
  have ly := (Sat.rd (v := y) (by with_reducible first | exact H | exact H.p1 | exact H.p2 | exact H.p3 | exact H.p4 | exact H.p5 | exact H.p6 | exact H.p7)).len
  have l0 := (Sat.rd (v := y) (by with_reducible first | exact H | exact H.p1 | exact H.p2 | exact H.p3 | exact H.p4 | exact H.p5 | exact H.p6 | exact H.p7)).ld1 (i := 0) e0 rfl
  have l1 := (Sat.rd (v := y) (by with_reducible first | exact H | exact H.p1 | exact H.p2 | exact H.p3 | exact H.p4 | exact H.p5 | exact H.p6 | exact H.p7)).ld1 (i := 1) e1 rfl
  have l2 := (Sat.rd (v := y) (by with_reducible first | exact H | exact H.p1 | exact H.p2 | exact H.p3 | exact H.p4 | exact H.p5 | exact H.p6 | exact H.p7)).ld1 (i := 2) e2 rfl
  have ov1 := (gsk_one H).1
  have ov2 := (gsk_one H).2
  by_cases h2a : k < 20
  · have d0 : decide (((k : Nat) : Int) < 20) = true := decide_eq_true (by omega)
    have oz1 := True.intro
    have oz2 := True.intro
    first | have f0 := Sat.pf (H) | have f0 := trivial
    first | have f1 := Sat.pf (H.t) | have f1 := trivial
    first | have f2 := Sat.pf (H.t.t) | have f2 := trivial
    first | have f3 := Sat.pf (H.t.t.t) | have f3 := trivial
    first | have f4 := Sat.pf (H.t.t.t.t) | have f4 := trivial
    first | have f5 := Sat.pf (H.t.t.t.t.t) | have f5 := trivial
    first | have f6 := Sat.pf (H.t.t.t.t.t.t) | have f6 := trivial
    first | have f7 := Sat.pf (H.t.t.t.t.t.t.t) | have f7 := trivial
    repeat' first
      | ((with_reducible show Need _); refine need_of ?_; (first | have f0 := Sat.pf (H) | have f0 := trivial); (first | have f1 := Sat.pf (H.t) | have f1 := trivial); (first | have f2 := Sat.pf (H.t.t) | have f2 := trivial); (first | have f3 := Sat.pf (H.t.t.t) | have f3 := trivial); (first | have f4 := Sat.pf (H.t.t.t.t) | have f4 := trivial); (first | have f5 := Sat.pf (H.t.t.t.t.t) | have f5 := trivial); (first | have f6 := Sat.pf (H.t.t.t.t.t.t) | have f6 := trivial); (first | have f7 := Sat.pf (H.t.t.t.t.t.t.t) | have f7 := trivial); (first | have l0 := (Sat.rd (v := y) (by with_reducible first | exact H | exact H.p1 | exact H.p2 | exact H.p3 | exact H.p4 | exact H.p5 | exact H.p6 | exact H.p7)).ld1 (i := 0) e0 rfl | skip); (first | have l1 := (Sat.rd (v := y) (by with_reducible first | exact H | exact H.p1 | exact H.p2 | exact H.p3 | exact H.p4 | exact H.p5 | exact H.p6 | exact H.p7)).ld1 (i := 1) e1 rfl | skip); (first | have l2 := (Sat.rd (v := y) (by with_reducible first | exact H | exact H.p1 | exact H.p2 | exact H.p3 | exact H.p4 | exact H.p5 | exact H.p6 | exact H.p7)).ld1 (i := 2) e2 rfl | skip))
      | simp -implicitDefEqProofs (disch := first | omega | decide | exact rfl | assumption | exact Nat.le_of_ble_eq_true rfl | exact One.c | exact One.o) only [vsA, vsB, eq_self, if_true, if_false, implies_true, false_implies, evp, HX.ev, Nat.reduceAdd, HOp.looks, Nat.reduceEqDiff, overw, Nat.reduceBEq, d0, oa1, oa2, ob1, ob2, oc1, oc2, la, lb, lc, oy1, oy2, ly, e0, e1, e2, l0, l1, l2, z01, z12, z23, lr_succ, vadd1, ov1, ov2, oz1, oz2, vadd1, ub25, f0, f1, f2, f3, f4, f5, f6, f7]
      | (clear H f0 f1 f2 f3 f4 f5 f6 f7; (with_reducible intro v2 hs H); (try simp only [setA, overw, Nat.reduceAdd] at H); refine need ?_)
      | ((with_reducible show drK _ _ _ _ _ _ _ _ _ (some ⟨_, HAct.call (HX.cst (HV.func (Fn.func 45) _ _)) _, none⟩)); refine vdr_call ok45 rfl (mark45 0 (by omega)) ?_; rintro _ _ ⟨rfl, rfl⟩)
      | refine opC_D ?_
      | ((with_reducible show opC (happend _ _ _ _ _) _); refine sl_growS (m := La.length + k) (by with_reducible first | exact H | exact H.p1 | exact H.p2 | exact H.p3 | exact H.p4 | exact H.p5 | exact H.p6 | exact H.p7) (by first | assumption | with_reducible first | exact f0.2.1 | exact f1.2.1 | exact f2.2.1 | exact f3.2.1 | exact f4.2.1 | exact f5.2.1 | exact f6.2.1 | exact f7.2.1 | exact va_takeS) (by first | exact roomFor_of (by omega) | exact roomFor_wide (by omega)) (by omega) ?_; clear H f0 f1 f2 f3 f4 f5 f6 f7; intro vn hs H; have oz1 := (gsk_one H).1; have oz2 := (gsk_one H).2; refine need ?_)
      | (refine sl_setM (i := 0) (by with_reducible first | exact H | exact H.p1 | exact H.p2 | exact H.p3 | exact H.p4 | exact H.p5 | exact H.p6 | exact H.p7) e0 (by omega) (by first | exact rfl | (simp only [f0, f1, f2, f3, f4, f5, f6, f7]; done) | (simp only [onA, *]; done)) (by first | exact rfl | (simp only [f0, f1, f2, f3, f4, f5, f6, f7]; done) | (simp only [onA, *]; done)) ?_; intro _; clear H f0 f1 f2 f3 f4 f5 f6 f7; intro hs H; refine need ?_)
      | ((with_reducible show opC (hbuildSlice _ _ _ _ _) _); refine sl_bslice1 H rfl (by first | exact rfl | (simp only [f0, f1, f2, f3, f4, f5, f6, f7]; done) | (simp only [onA, *]; done)) (by first | exact rfl | (simp only [f0, f1, f2, f3, f4, f5, f6, f7]; done) | (simp only [onA, *]; done)) ?_)
      | refine hwp_draw mixed rfl ?_
      | with_reducible intro hy

    rw [rep_snoc] at H
    exact ⟨(k + 1, vn), _, by simp only; omega, by simp only; omega, (by (repeat first | exact Less.nil | refine Less.undef _ ?_ | refine Less.keep _ ?_)), Weak.refl _, H.p1⟩
  obtain rfl : k = 20 := by omega
  have d0 : decide (((20 : Nat) : Int) < 20) = false := by decide
  first | have f0 := Sat.pf (H) | have f0 := trivial
  first | have f1 := Sat.pf (H.t) | have f1 := trivial
  first | have f2 := Sat.pf (H.t.t) | have f2 := trivial
  first | have f3 := Sat.pf (H.t.t.t) | have f3 := trivial
  first | have f4 := Sat.pf (H.t.t.t.t) | have f4 := trivial
  first | have f5 := Sat.pf (H.t.t.t.t.t) | have f5 := trivial
  first | have f6 := Sat.pf (H.t.t.t.t.t.t) | have f6 := trivial
  first | have f7 := Sat.pf (H.t.t.t.t.t.t.t) | have f7 := trivial
  repeat' first
    | simp -implicitDefEqProofs (disch := first | omega | decide | exact rfl | assumption | exact Nat.le_of_ble_eq_true rfl | exact One.c | exact One.o) only [vsA, vsB, eq_self, if_true, if_false, implies_true, false_implies, evp, HX.ev, Nat.reduceAdd, HOp.looks, Nat.reduceEqDiff, overw, Nat.reduceBEq, d0, oa1, oa2, ob1, ob2, oc1, oc2, la, lb, lc, oy1, oy2, ly, e0, e1, e2, l0, l1, l2, z01, z12, z23, lr_succ, vadd1, ub25, f0, f1, f2, f3, f4, f5, f6, f7]
    | (refine condK_cases (fun h => ?_) (fun h => ?_) <;> (try simp only [h]) <;> (try simp only [athA, ne_eq] at h) <;> (try (exfalso; omega)))

  have Hx := H.p2.p1.p2.p3
  refine HW.loopA mixed (fun t : Nat × HV => (a :: b :: c :: .undef :: .undef :: .undef :: .undef :: y :: .undef :: .undef :: .undef :: .int .i64 1 :: .undef :: .undef :: .undef :: .undef :: .undef :: .undef :: .undef :: .undef :: .undef :: .undef :: .undef :: .undef :: .undef :: .undef :: .undef :: .undef :: .undef :: .undef :: .undef :: .undef :: .undef :: .undef :: .undef :: .undef :: .undef :: .undef :: .undef :: .undef :: .undef :: .undef :: .undef :: .undef :: .int .i64 ((3 : Nat) : Int) :: .int .i64 1 :: .undef :: .undef :: .int .i64 (t.1 : Nat) :: .undef :: .undef :: .undef :: .undef :: .undef :: .undef :: .undef :: .undef :: .undef :: .undef :: .undef :: .undef :: .undef :: .undef :: .undef :: .undef :: .undef :: .undef :: .undef :: .undef :: .undef :: .undef :: .undef :: .undef :: .undef :: .undef :: .undef :: .undef :: .undef :: .undef :: .undef :: .undef :: .undef :: .undef :: .undef :: .undef :: .undef :: .undef :: .undef :: .undef :: .undef :: .undef :: .undef :: .undef :: .undef :: .undef :: .undef :: .undef :: .undef :: .undef :: .undef :: .undef :: .undef :: .undef :: .undef :: [])) (fun t => GsK 1 t.1 b t.2 Lb.length (Lb.length + t.1) ((List.replicate (Lb.length) (mk 1)).map HV.str) ((List.replicate (Lb.length + t.1) (mk 1)).map HV.str) :: My 1 y 3 [va, t.2, c] :: GsK 1 20 a va La.length (La.length + 20) ((List.replicate (La.length) (mk 0)).map HV.str) ((List.replicate (La.length + 20) (mk 0)).map HV.str) :: Ex 1 c Lc.length ((List.replicate (Lc.length) (mk 2)).map HV.str) :: l) (fun t => 20 - t.1) (fun t => t.1 ≤ 20) (0, b) (Nat.zero_le _) (by (repeat first | exact Less.nil | refine Less.undef _ ?_ | refine Less.keep _ ?_)) (gsk_start Hx) ?_
  clear H Hx l0 l1 l2
  rintro ⟨k, vb⟩ hs hk H
  simp only at hk H
  have ly := (Sat.rd (v := y) (by with_reducible first | exact H | exact H.p1 | exact H.p2 | exact H.p3 | exact H.p4 | exact H.p5 | exact H.p6 | exact H.p7)).len
  have l0 := (Sat.rd (v := y) (by with_reducible first | exact H | exact H.p1 | exact H.p2 | exact H.p3 | exact H.p4 | exact H.p5 | exact H.p6 | exact H.p7)).ld1 (i := 0) e0 rfl
  have l1 := (Sat.rd (v := y) (by with_reducible first | exact H | exact H.p1 | exact H.p2 | exact H.p3 | exact H.p4 | exact H.p5 | exact H.p6 | exact H.p7)).ld1 (i := 1) e1 rfl
  have l2 := (Sat.rd (v := y) (by with_reducible first | exact H | exact H.p1 | exact H.p2 | exact H.p3 | exact H.p4 | exact H.p5 | exact H.p6 | exact H.p7)).ld1 (i := 2) e2 rfl
  have ov1 := (gsk_one H).1
  have ov2 := (gsk_one H).2
  by_cases h2b : k < 20
  · have d0 : decide (((k : Nat) : Int) < 20) = true := decide_eq_true (by omega)
    have oz1 := True.intro
    have oz2 := True.intro
    first | have f0 := Sat.pf (H) | have f0 := trivial
    first | have f1 := Sat.pf (H.t) | have f1 := trivial
    first | have f2 := Sat.pf (H.t.t) | have f2 := trivial
    first | have f3 := Sat.pf (H.t.t.t) | have f3 := trivial
    first | have f4 := Sat.pf (H.t.t.t.t) | have f4 := trivial
    first | have f5 := Sat.pf (H.t.t.t.t.t) | have f5 := trivial
    first | have f6 := Sat.pf (H.t.t.t.t.t.t) | have f6 := trivial
    first | have f7 := Sat.pf (H.t.t.t.t.t.t.t) | have f7 := trivial
    repeat' first
      | ((with_reducible show Need _); refine need_of ?_; (first | have f0 := Sat.pf (H) | have f0 := trivial); (first | have f1 := Sat.pf (H.t) | have f1 := trivial); (first | have f2 := Sat.pf (H.t.t) | have f2 := trivial); (first | have f3 := Sat.pf (H.t.t.t) | have f3 := trivial); (first | have f4 := Sat.pf (H.t.t.t.t) | have f4 := trivial); (first | have f5 := Sat.pf (H.t.t.t.t.t) | have f5 := trivial); (first | have f6 := Sat.pf (H.t.t.t.t.t.t) | have f6 := trivial); (first | have f7 := Sat.pf (H.t.t.t.t.t.t.t) | have f7 := trivial); (first | have l0 := (Sat.rd (v := y) (by with_reducible first | exact H | exact H.p1 | exact H.p2 | exact H.p3 | exact H.p4 | exact H.p5 | exact H.p6 | exact H.p7)).ld1 (i := 0) e0 rfl | skip); (first | have l1 := (Sat.rd (v := y) (by with_reducible first | exact H | exact H.p1 | exact H.p2 | exact H.p3 | exact H.p4 | exact H.p5 | exact H.p6 | exact H.p7)).ld1 (i := 1) e1 rfl | skip); (first | have l2 := (Sat.rd (v := y) (by with_reducible first | exact H | exact H.p1 | exact H.p2 | exact H.p3 | exact H.p4 | exact H.p5 | exact H.p6 | exact H.p7)).ld1 (i := 2) e2 rfl | skip))
      | simp -implicitDefEqProofs (disch := first | omega | decide | exact rfl | assumption | exact Nat.le_of_ble_eq_true rfl | exact One.c | exact One.o) only [vsA, vsB, eq_self, if_true, if_false, implies_true, false_implies, evp, HX.ev, Nat.reduceAdd, HOp.looks, Nat.reduceEqDiff, overw, Nat.reduceBEq, d0, oa1, oa2, ob1, ob2, oc1, oc2, la, lb, lc, oy1, oy2, ly, e0, e1, e2, l0, l1, l2, z01, z12, z23, lr_succ, vadd1, ov1, ov2, oz1, oz2, vadd1, ub25, f0, f1, f2, f3, f4, f5, f6, f7]
      | (clear H f0 f1 f2 f3 f4 f5 f6 f7; (with_reducible intro v2 hs H); (try simp only [setA, overw, Nat.reduceAdd] at H); refine need ?_)
      | ((with_reducible show drK _ _ _ _ _ _ _ _ _ (some ⟨_, HAct.call (HX.cst (HV.func (Fn.func 45) _ _)) _, none⟩)); refine vdr_call ok45 rfl (mark45 1 (by omega)) ?_; rintro _ _ ⟨rfl, rfl⟩)
      | refine opC_D ?_
      | ((with_reducible show opC (happend _ _ _ _ _) _); refine sl_growS (m := Lb.length + k) (by with_reducible first | exact H | exact H.p1 | exact H.p2 | exact H.p3 | exact H.p4 | exact H.p5 | exact H.p6 | exact H.p7) (by first | assumption | with_reducible first | exact f0.2.1 | exact f1.2.1 | exact f2.2.1 | exact f3.2.1 | exact f4.2.1 | exact f5.2.1 | exact f6.2.1 | exact f7.2.1 | exact va_takeS) (by first | exact roomFor_of (by omega) | exact roomFor_wide (by omega)) (by omega) ?_; clear H f0 f1 f2 f3 f4 f5 f6 f7; intro vn hs H; have oz1 := (gsk_one H).1; have oz2 := (gsk_one H).2; refine need ?_)
      | (refine sl_setM (i := 1) (by with_reducible first | exact H | exact H.p1 | exact H.p2 | exact H.p3 | exact H.p4 | exact H.p5 | exact H.p6 | exact H.p7) e1 (by omega) (by first | exact rfl | (simp only [f0, f1, f2, f3, f4, f5, f6, f7]; done) | (simp only [onA, *]; done)) (by first | exact rfl | (simp only [f0, f1, f2, f3, f4, f5, f6, f7]; done) | (simp only [onA, *]; done)) ?_; intro _; clear H f0 f1 f2 f3 f4 f5 f6 f7; intro hs H; refine need ?_)
      | ((with_reducible show opC (hbuildSlice _ _ _ _ _) _); refine sl_bslice1 H rfl (by first | exact rfl | (simp only [f0, f1, f2, f3, f4, f5, f6, f7]; done) | (simp only [onA, *]; done)) (by first | exact rfl | (simp only [f0, f1, f2, f3, f4, f5, f6, f7]; done) | (simp only [onA, *]; done)) ?_)
      | refine hwp_draw mixed rfl ?_
      | with_reducible intro hy

    rw [rep_snoc] at H
    exact ⟨(k + 1, vn), _, by simp only; omega, by simp only; omega, (by (repeat first | exact Less.nil | refine Less.undef _ ?_ | refine Less.keep _ ?_)), Weak.refl _, H.p1⟩
  obtain rfl : k = 20 := by omega
  have d0 : decide (((20 : Nat) : Int) < 20) = false := by decide
  first | have f0 := Sat.pf (H) | have f0 := trivial
  first | have f1 := Sat.pf (H.t) | have f1 := trivial
  first | have f2 := Sat.pf (H.t.t) | have f2 := trivial
  first | have f3 := Sat.pf (H.t.t.t) | have f3 := trivial
  first | have f4 := Sat.pf (H.t.t.t.t) | have f4 := trivial
  first | have f5 := Sat.pf (H.t.t.t.t.t) | have f5 := trivial
  first | have f6 := Sat.pf (H.t.t.t.t.t.t) | have f6 := trivial
  first | have f7 := Sat.pf (H.t.t.t.t.t.t.t) | have f7 := trivial
  repeat' first
    | simp -implicitDefEqProofs (disch := first | omega | decide | exact rfl | assumption | exact Nat.le_of_ble_eq_true rfl | exact One.c | exact One.o) only [vsA, vsB, eq_self, if_true, if_false, implies_true, false_implies, evp, HX.ev, Nat.reduceAdd, HOp.looks, Nat.reduceEqDiff, overw, Nat.reduceBEq, d0, oa1, oa2, ob1, ob2, oc1, oc2, la, lb, lc, oy1, oy2, ly, e0, e1, e2, l0, l1, l2, z01, z12, z23, lr_succ, vadd1, ub25, f0, f1, f2, f3, f4, f5, f6, f7]
    | (refine condK_cases (fun h => ?_) (fun h => ?_) <;> (try simp only [h]) <;> (try simp only [athA, ne_eq] at h) <;> (try (exfalso; omega)))

  have Hx := H.p2.p1.p2.p3
  refine HW.loopA mixed (fun t : Nat × HV => (a :: b :: c :: .undef :: .undef :: .undef :: .undef :: y :: .undef :: .undef :: .undef :: .int .i64 2 :: .undef :: .undef :: .undef :: .undef :: .undef :: .undef :: .undef :: .undef :: .undef :: .undef :: .undef :: .undef :: .undef :: .undef :: .undef :: .undef :: .undef :: .undef :: .undef :: .undef :: .undef :: .undef :: .undef :: .undef :: .undef :: .undef :: .undef :: .undef :: .undef :: .undef :: .undef :: .undef :: .int .i64 ((3 : Nat) : Int) :: .int .i64 2 :: .undef :: .undef :: .int .i64 (t.1 : Nat) :: .undef :: .undef :: .undef :: .undef :: .undef :: .undef :: .undef :: .undef :: .undef :: .undef :: .undef :: .undef :: .undef :: .undef :: .undef :: .undef :: .undef :: .undef :: .undef :: .undef :: .undef :: .undef :: .undef :: .undef :: .undef :: .undef :: .undef :: .undef :: .undef :: .undef :: .undef :: .undef :: .undef :: .undef :: .undef :: .undef :: .undef :: .undef :: .undef :: .undef :: .undef :: .undef :: .undef :: .undef :: .undef :: .undef :: .undef :: .undef :: .undef :: .undef :: .undef :: .undef :: .undef :: .undef :: .undef :: [])) (fun t => GsK 1 t.1 c t.2 Lc.length (Lc.length + t.1) ((List.replicate (Lc.length) (mk 2)).map HV.str) ((List.replicate (Lc.length + t.1) (mk 2)).map HV.str) :: My 1 y 3 [va, vb, t.2] :: GsK 1 20 b vb Lb.length (Lb.length + 20) ((List.replicate (Lb.length) (mk 1)).map HV.str) ((List.replicate (Lb.length + 20) (mk 1)).map HV.str) :: GsK 1 20 a va La.length (La.length + 20) ((List.replicate (La.length) (mk 0)).map HV.str) ((List.replicate (La.length + 20) (mk 0)).map HV.str) :: l) (fun t => 20 - t.1) (fun t => t.1 ≤ 20) (0, c) (Nat.zero_le _) (by (repeat first | exact Less.nil | refine Less.undef _ ?_ | refine Less.keep _ ?_)) (gsk_start Hx) ?_
  clear H Hx l0 l1 l2
  rintro ⟨k, vc⟩ hs hk H
  simp only at hk H
  have ly := (Sat.rd (v := y) (by with_reducible first | exact H | exact H.p1 | exact H.p2 | exact H.p3 | exact H.p4 | exact H.p5 | exact H.p6 | exact H.p7)).len
  have l0 := (Sat.rd (v := y) (by with_reducible first | exact H | exact H.p1 | exact H.p2 | exact H.p3 | exact H.p4 | exact H.p5 | exact H.p6 | exact H.p7)).ld1 (i := 0) e0 rfl
  have l1 := (Sat.rd (v := y) (by with_reducible first | exact H | exact H.p1 | exact H.p2 | exact H.p3 | exact H.p4 | exact H.p5 | exact H.p6 | exact H.p7)).ld1 (i := 1) e1 rfl
  have l2 := (Sat.rd (v := y) (by with_reducible first | exact H | exact H.p1 | exact H.p2 | exact H.p3 | exact H.p4 | exact H.p5 | exact H.p6 | exact H.p7)).ld1 (i := 2) e2 rfl
  have ov1 := (gsk_one H).1
  have ov2 := (gsk_one H).2
  by_cases h2c : k < 20
  · have d0 : decide (((k : Nat) : Int) < 20) = true := decide_eq_true (by omega)
    have oz1 := True.intro
    have oz2 := True.intro
    first | have f0 := Sat.pf (H) | have f0 := trivial
    first | have f1 := Sat.pf (H.t) | have f1 := trivial
    first | have f2 := Sat.pf (H.t.t) | have f2 := trivial
    first | have f3 := Sat.pf (H.t.t.t) | have f3 := trivial
    first | have f4 := Sat.pf (H.t.t.t.t) | have f4 := trivial
    first | have f5 := Sat.pf (H.t.t.t.t.t) | have f5 := trivial
    first | have f6 := Sat.pf (H.t.t.t.t.t.t) | have f6 := trivial
    first | have f7 := Sat.pf (H.t.t.t.t.t.t.t) | have f7 := trivial
    repeat' first
      | ((with_reducible show Need _); refine need_of ?_; (first | have f0 := Sat.pf (H) | have f0 := trivial); (first | have f1 := Sat.pf (H.t) | have f1 := trivial); (first | have f2 := Sat.pf (H.t.t) | have f2 := trivial); (first | have f3 := Sat.pf (H.t.t.t) | have f3 := trivial); (first | have f4 := Sat.pf (H.t.t.t.t) | have f4 := trivial); (first | have f5 := Sat.pf (H.t.t.t.t.t) | have f5 := trivial); (first | have f6 := Sat.pf (H.t.t.t.t.t.t) | have f6 := trivial); (first | have f7 := Sat.pf (H.t.t.t.t.t.t.t) | have f7 := trivial); (first | have l0 := (Sat.rd (v := y) (by with_reducible first | exact H | exact H.p1 | exact H.p2 | exact H.p3 | exact H.p4 | exact H.p5 | exact H.p6 | exact H.p7)).ld1 (i := 0) e0 rfl | skip); (first | have l1 := (Sat.rd (v := y) (by with_reducible first | exact H | exact H.p1 | exact H.p2 | exact H.p3 | exact H.p4 | exact H.p5 | exact H.p6 | exact H.p7)).ld1 (i := 1) e1 rfl | skip); (first | have l2 := (Sat.rd (v := y) (by with_reducible first | exact H | exact H.p1 | exact H.p2 | exact H.p3 | exact H.p4 | exact H.p5 | exact H.p6 | exact H.p7)).ld1 (i := 2) e2 rfl | skip))
      | simp -implicitDefEqProofs (disch := first | omega | decide | exact rfl | assumption | exact Nat.le_of_ble_eq_true rfl | exact One.c | exact One.o) only [vsA, vsB, eq_self, if_true, if_false, implies_true, false_implies, evp, HX.ev, Nat.reduceAdd, HOp.looks, Nat.reduceEqDiff, overw, Nat.reduceBEq, d0, oa1, oa2, ob1, ob2, oc1, oc2, la, lb, lc, oy1, oy2, ly, e0, e1, e2, l0, l1, l2, z01, z12, z23, lr_succ, vadd1, ov1, ov2, oz1, oz2, vadd1, ub25, f0, f1, f2, f3, f4, f5, f6, f7]
      | (clear H f0 f1 f2 f3 f4 f5 f6 f7; (with_reducible intro v2 hs H); (try simp only [setA, overw, Nat.reduceAdd] at H); refine need ?_)
      | ((with_reducible show drK _ _ _ _ _ _ _ _ _ (some ⟨_, HAct.call (HX.cst (HV.func (Fn.func 45) _ _)) _, none⟩)); refine vdr_call ok45 rfl (mark45 2 (by omega)) ?_; rintro _ _ ⟨rfl, rfl⟩)
      | refine opC_D ?_
      | ((with_reducible show opC (happend _ _ _ _ _) _); refine sl_growS (m := Lc.length + k) (by with_reducible first | exact H | exact H.p1 | exact H.p2 | exact H.p3 | exact H.p4 | exact H.p5 | exact H.p6 | exact H.p7) (by first | assumption | with_reducible first | exact f0.2.1 | exact f1.2.1 | exact f2.2.1 | exact f3.2.1 | exact f4.2.1 | exact f5.2.1 | exact f6.2.1 | exact f7.2.1 | exact va_takeS) (by first | exact roomFor_of (by omega) | exact roomFor_wide (by omega)) (by omega) ?_; clear H f0 f1 f2 f3 f4 f5 f6 f7; intro vn hs H; have oz1 := (gsk_one H).1; have oz2 := (gsk_one H).2; refine need ?_)
      | (refine sl_setM (i := 2) (by with_reducible first | exact H | exact H.p1 | exact H.p2 | exact H.p3 | exact H.p4 | exact H.p5 | exact H.p6 | exact H.p7) e2 (by omega) (by first | exact rfl | (simp only [f0, f1, f2, f3, f4, f5, f6, f7]; done) | (simp only [onA, *]; done)) (by first | exact rfl | (simp only [f0, f1, f2, f3, f4, f5, f6, f7]; done) | (simp only [onA, *]; done)) ?_; intro _; clear H f0 f1 f2 f3 f4 f5 f6 f7; intro hs H; refine need ?_)
      | ((with_reducible show opC (hbuildSlice _ _ _ _ _) _); refine sl_bslice1 H rfl (by first | exact rfl | (simp only [f0, f1, f2, f3, f4, f5, f6, f7]; done) | (simp only [onA, *]; done)) (by first | exact rfl | (simp only [f0, f1, f2, f3, f4, f5, f6, f7]; done) | (simp only [onA, *]; done)) ?_)
      | refine hwp_draw mixed rfl ?_
      | with_reducible intro hy

    rw [rep_snoc] at H
    exact ⟨(k + 1, vn), _, by simp only; omega, by simp only; omega, (by (repeat first | exact Less.nil | refine Less.undef _ ?_ | refine Less.keep _ ?_)), Weak.refl _, H.p1⟩
  obtain rfl : k = 20 := by omega
  have d0 : decide (((20 : Nat) : Int) < 20) = false := by decide
  first | have f0 := Sat.pf (H) | have f0 := trivial
  first | have f1 := Sat.pf (H.t) | have f1 := trivial
  first | have f2 := Sat.pf (H.t.t) | have f2 := trivial
  first | have f3 := Sat.pf (H.t.t.t) | have f3 := trivial
  first | have f4 := Sat.pf (H.t.t.t.t) | have f4 := trivial
  first | have f5 := Sat.pf (H.t.t.t.t.t) | have f5 := trivial
  first | have f6 := Sat.pf (H.t.t.t.t.t.t) | have f6 := trivial
  first | have f7 := Sat.pf (H.t.t.t.t.t.t.t) | have f7 := trivial
  repeat' first
    | simp -implicitDefEqProofs (disch := first | omega | decide | exact rfl | assumption | exact Nat.le_of_ble_eq_true rfl | exact One.c | exact One.o) only [vsA, vsB, eq_self, if_true, if_false, implies_true, false_implies, evp, HX.ev, Nat.reduceAdd, HOp.looks, Nat.reduceEqDiff, overw, Nat.reduceBEq, d0, oa1, oa2, ob1, ob2, oc1, oc2, la, lb, lc, oy1, oy2, ly, e0, e1, e2, l0, l1, l2, z01, z12, z23, lr_succ, vadd1, ub25, f0, f1, f2, f3, f4, f5, f6, f7]
    | (refine condK_cases (fun h => ?_) (fun h => ?_) <;> (try simp only [h]) <;> (try simp only [athA, ne_eq] at h) <;> (try (exfalso; omega)))

  have H9 := H
  clear H l0 l1 l2
  have H := H9
  clear H9
  obtain ⟨gc, wc, Hc⟩ := gsk_freeze (by decide) H
  refine HWr.weak wc ?_
  clear wc H
  have H := Hc
  clear Hc
  obtain ⟨gb, wb, Hb⟩ := gsk_freeze (by decide) H.p4.p3.p3.p3.p4
  refine HWr.weak wb ?_
  clear wb H
  have H := Hb
  clear Hb
  obtain ⟨ga, wa, Ha⟩ := gsk_freeze (by decide) H.p4.p4.p4.p4.p4.p5
  refine HWr.weak wa ?_
  clear wa H
  have H := Ha
  clear Ha
  have ly := (Sat.rd (v := y) (by with_reducible first | exact H | exact H.p1 | exact H.p2 | exact H.p3 | exact H.p4 | exact H.p5 | exact H.p6 | exact H.p7)).len
  have l0 := (Sat.rd (v := y) (by with_reducible first | exact H | exact H.p1 | exact H.p2 | exact H.p3 | exact H.p4 | exact H.p5 | exact H.p6 | exact H.p7)).ld1 (i := 0) e0 rfl
  have l1 := (Sat.rd (v := y) (by with_reducible first | exact H | exact H.p1 | exact H.p2 | exact H.p3 | exact H.p4 | exact H.p5 | exact H.p6 | exact H.p7)).ld1 (i := 1) e1 rfl
  have l2 := (Sat.rd (v := y) (by with_reducible first | exact H | exact H.p1 | exact H.p2 | exact H.p3 | exact H.p4 | exact H.p5 | exact H.p6 | exact H.p7)).ld1 (i := 2) e2 rfl
  have bm0 : (mk 0 == mk 0) = true := by simp
  have bm1 : (mk 1 == mk 1) = true := by simp
  have bm2 : (mk 2 == mk 2) = true := by simp
  have lva := (Sat.rdV (v := va) (by with_reducible first | exact H | exact H.p1 | exact H.p2 | exact H.p3 | exact H.p4 | exact H.p5 | exact H.p6 | exact H.p7)).len
  have lvb := (Sat.rdV (v := vb) (by with_reducible first | exact H | exact H.p1 | exact H.p2 | exact H.p3 | exact H.p4 | exact H.p5 | exact H.p6 | exact H.p7)).len
  have lvc := (Sat.rdV (v := vc) (by with_reducible first | exact H | exact H.p1 | exact H.p2 | exact H.p3 | exact H.p4 | exact H.p5 | exact H.p6 | exact H.p7)).len
  refine HW.rounds mixed 4 ?_
  first | have f0 := Sat.pf (H) | have f0 := trivial
  first | have f1 := Sat.pf (H.t) | have f1 := trivial
  first | have f2 := Sat.pf (H.t.t) | have f2 := trivial
  first | have f3 := Sat.pf (H.t.t.t) | have f3 := trivial
  first | have f4 := Sat.pf (H.t.t.t.t) | have f4 := trivial
  first | have f5 := Sat.pf (H.t.t.t.t.t) | have f5 := trivial
  first | have f6 := Sat.pf (H.t.t.t.t.t.t) | have f6 := trivial
  first | have f7 := Sat.pf (H.t.t.t.t.t.t.t) | have f7 := trivial
  repeat' first
    | simp -implicitDefEqProofs (disch := first | omega | decide | exact rfl | assumption | exact Nat.le_of_ble_eq_true rfl | exact One.c | exact One.o) only [vsA, vsB, eq_self, if_true, if_false, implies_true, false_implies, evp, HX.ev, Nat.reduceAdd, HOp.looks, Nat.reduceEqDiff, overw, Nat.reduceBEq, d0, oa1, oa2, ob1, ob2, oc1, oc2, la, lb, lc, oy1, oy2, ly, e0, e1, e2, l0, l1, l2, z01, z12, z23, lr_succ, vadd1, lva, lvb, lvc, bm0, bm1, bm2, Bool.not_true, Bool.not_false, ub25, f0, f1, f2, f3, f4, f5, f6, f7]
    | (refine condK_cases (fun h => ?_) (fun h => ?_) <;> (try simp only [h]) <;> (try simp only [athA, ne_eq] at h) <;> (try (exfalso; omega)))

  refine HW.loopA mixed (fun k : Nat => (a :: b :: c :: .undef :: .undef :: .undef :: .undef :: .undef :: .undef :: .undef :: .undef :: .undef :: .int .i64 0 :: .undef :: .undef :: .undef :: .undef :: .undef :: .undef :: .undef :: .undef :: .undef :: .undef :: .undef :: .undef :: .undef :: .undef :: .undef :: .undef :: .undef :: .undef :: .undef :: .undef :: .undef :: .undef :: .undef :: .undef :: .undef :: .undef :: .undef :: .undef :: .undef :: .undef :: .undef :: .undef :: .undef :: .undef :: .undef :: .undef :: .undef :: .undef :: .undef :: .undef :: .undef :: .undef :: .undef :: .undef :: .undef :: .undef :: .undef :: .undef :: .undef :: .undef :: y :: .int .i64 ((3 : Nat) : Int) :: .int .i64 0 :: .undef :: .undef :: .undef :: .undef :: va :: .int .i64 ((La.length + 20 : Nat) : Int) :: .int .i64 (k : Nat) :: .undef :: .undef :: .undef :: .undef :: .undef :: .undef :: .undef :: .undef :: .undef :: .undef :: .undef :: .undef :: .undef :: .undef :: .undef :: .undef :: .undef :: .undef :: .undef :: .undef :: .undef :: .undef :: .undef :: .undef :: .undef :: .undef :: .undef :: .undef :: .undef :: .undef :: .undef :: [])) (fun k => Vw 1 a La.length ((List.replicate (La.length) (mk 0)).map HV.str) :: Vw 1 va (La.length + 20) ((List.replicate (La.length + 20) (mk 0)).map HV.str) :: Vw 1 b Lb.length ((List.replicate (Lb.length) (mk 1)).map HV.str) :: Vw 1 vb (Lb.length + 20) ((List.replicate (Lb.length + 20) (mk 1)).map HV.str) :: Vw 1 c Lc.length ((List.replicate (Lc.length) (mk 2)).map HV.str) :: Vw 1 vc (Lc.length + 20) ((List.replicate (Lc.length + 20) (mk 2)).map HV.str) :: My 1 y 3 [va, vb, vc] :: l) (fun k => (La.length + 20) - k) (fun k => k ≤ (La.length + 20)) 0 (Nat.zero_le _) (by (repeat first | exact Less.nil | refine Less.undef _ ?_ | refine Less.keep _ ?_)) H ?_
  clear H l0 l1 l2
  rintro k hs hk H
  have l0 := (Sat.rd (v := y) (by with_reducible first | exact H | exact H.p1 | exact H.p2 | exact H.p3 | exact H.p4 | exact H.p5 | exact H.p6 | exact H.p7)).ld1 (i := 0) e0 rfl
  have l1 := (Sat.rd (v := y) (by with_reducible first | exact H | exact H.p1 | exact H.p2 | exact H.p3 | exact H.p4 | exact H.p5 | exact H.p6 | exact H.p7)).ld1 (i := 1) e1 rfl
  have l2 := (Sat.rd (v := y) (by with_reducible first | exact H | exact H.p1 | exact H.p2 | exact H.p3 | exact H.p4 | exact H.p5 | exact H.p6 | exact H.p7)).ld1 (i := 2) e2 rfl
  by_cases h3 : k < (La.length + 20)
  · have R := (Sat.rdV (v := va) (by with_reducible first | exact H | exact H.p1 | exact H.p2 | exact H.p3 | exact H.p4 | exact H.p5 | exact H.p6 | exact H.p7))
    obtain ⟨p, hix, _⟩ := R.idx1 (rep_get (m := mk 0) h3) .i64
    have hld := R.ld1 hix (rep_get (m := mk 0) h3)
    have so := R.sOk
    have d0 : decide (((k : Nat) : Int) < (((La.length + 20) : Nat) : Int)) = true := decide_eq_true (by omega)
    repeat' first
      | simp -implicitDefEqProofs (disch := first | omega | decide | exact rfl | assumption | exact Nat.le_of_ble_eq_true rfl | exact One.c | exact One.o) only [vsA, vsB, eq_self, if_true, if_false, implies_true, false_implies, evp, HX.ev, Nat.reduceAdd, HOp.looks, Nat.reduceEqDiff, overw, Nat.reduceBEq, d0, hix, hld, so, bm0, bm1, bm2, Bool.not_true, Bool.not_false, vadd1, ub25]
      | ((with_reducible show actK _ (HAct.call (HX.cst (HV.func (Fn.func 45) _ _)) _) _ _ _ _ _); refine vcall_of ok45 rfl (mark45 0 (by omega)) ?_; rintro _ _ ⟨rfl, rfl⟩)

    exact ⟨k + 1, _, by omega, by omega, (by (repeat first | exact Less.nil | refine Less.undef _ ?_ | refine Less.keep _ ?_)), Weak.refl _, H⟩
  obtain rfl : k = (La.length + 20) := by omega
  have d0 : decide ((((La.length + 20) : Nat) : Int) < (((La.length + 20) : Nat) : Int)) = false := decide_eq_false (by omega)
  first | have f0 := Sat.pf (H) | have f0 := trivial
  first | have f1 := Sat.pf (H.t) | have f1 := trivial
  first | have f2 := Sat.pf (H.t.t) | have f2 := trivial
  first | have f3 := Sat.pf (H.t.t.t) | have f3 := trivial
  first | have f4 := Sat.pf (H.t.t.t.t) | have f4 := trivial
  first | have f5 := Sat.pf (H.t.t.t.t.t) | have f5 := trivial
  first | have f6 := Sat.pf (H.t.t.t.t.t.t) | have f6 := trivial
  first | have f7 := Sat.pf (H.t.t.t.t.t.t.t) | have f7 := trivial
  repeat' first
    | simp -implicitDefEqProofs (disch := first | omega | decide | exact rfl | assumption | exact Nat.le_of_ble_eq_true rfl | exact One.c | exact One.o) only [vsA, vsB, eq_self, if_true, if_false, implies_true, false_implies, evp, HX.ev, Nat.reduceAdd, HOp.looks, Nat.reduceEqDiff, overw, Nat.reduceBEq, d0, oa1, oa2, ob1, ob2, oc1, oc2, la, lb, lc, oy1, oy2, ly, e0, e1, e2, l0, l1, l2, z01, z12, z23, lr_succ, vadd1, lva, lvb, lvc, bm0, bm1, bm2, Bool.not_true, Bool.not_false, ub25, f0, f1, f2, f3, f4, f5, f6, f7]
    | (refine condK_cases (fun h => ?_) (fun h => ?_) <;> (try simp only [h]) <;> (try simp only [athA, ne_eq] at h) <;> (try (exfalso; omega)))

  refine HW.loopA mixed (fun k : Nat => (a :: b :: c :: .undef :: .undef :: .undef :: .undef :: .undef :: .undef :: .undef :: .undef :: .undef :: .int .i64 1 :: .undef :: .undef :: .undef :: .undef :: .undef :: .undef :: .undef :: .undef :: .undef :: .undef :: .undef :: .undef :: .undef :: .undef :: .undef :: .undef :: .undef :: .undef :: .undef :: .undef :: .undef :: .undef :: .undef :: .undef :: .undef :: .undef :: .undef :: .undef :: .undef :: .undef :: .undef :: .undef :: .undef :: .undef :: .undef :: .undef :: .undef :: .undef :: .undef :: .undef :: .undef :: .undef :: .undef :: .undef :: .undef :: .undef :: .undef :: .undef :: .undef :: .undef :: y :: .int .i64 ((3 : Nat) : Int) :: .int .i64 1 :: .undef :: .undef :: .undef :: .undef :: vb :: .int .i64 ((Lb.length + 20 : Nat) : Int) :: .int .i64 (k : Nat) :: .undef :: .undef :: .undef :: .undef :: .undef :: .undef :: .undef :: .undef :: .undef :: .undef :: .undef :: .undef :: .undef :: .undef :: .undef :: .undef :: .undef :: .undef :: .undef :: .undef :: .undef :: .undef :: .undef :: .undef :: .undef :: .undef :: .undef :: .undef :: .undef :: .undef :: .undef :: [])) (fun k => Vw 1 a La.length ((List.replicate (La.length) (mk 0)).map HV.str) :: Vw 1 va (La.length + 20) ((List.replicate (La.length + 20) (mk 0)).map HV.str) :: Vw 1 b Lb.length ((List.replicate (Lb.length) (mk 1)).map HV.str) :: Vw 1 vb (Lb.length + 20) ((List.replicate (Lb.length + 20) (mk 1)).map HV.str) :: Vw 1 c Lc.length ((List.replicate (Lc.length) (mk 2)).map HV.str) :: Vw 1 vc (Lc.length + 20) ((List.replicate (Lc.length + 20) (mk 2)).map HV.str) :: My 1 y 3 [va, vb, vc] :: l) (fun k => (Lb.length + 20) - k) (fun k => k ≤ (Lb.length + 20)) 0 (Nat.zero_le _) (by (repeat first | exact Less.nil | refine Less.undef _ ?_ | refine Less.keep _ ?_)) H ?_
  clear H l0 l1 l2
  rintro k hs hk H
  have l0 := (Sat.rd (v := y) (by with_reducible first | exact H | exact H.p1 | exact H.p2 | exact H.p3 | exact H.p4 | exact H.p5 | exact H.p6 | exact H.p7)).ld1 (i := 0) e0 rfl
  have l1 := (Sat.rd (v := y) (by with_reducible first | exact H | exact H.p1 | exact H.p2 | exact H.p3 | exact H.p4 | exact H.p5 | exact H.p6 | exact H.p7)).ld1 (i := 1) e1 rfl
  have l2 := (Sat.rd (v := y) (by with_reducible first | exact H | exact H.p1 | exact H.p2 | exact H.p3 | exact H.p4 | exact H.p5 | exact H.p6 | exact H.p7)).ld1 (i := 2) e2 rfl
  by_cases h3 : k < (Lb.length + 20)
  · have R := (Sat.rdV (v := vb) (by with_reducible first | exact H | exact H.p1 | exact H.p2 | exact H.p3 | exact H.p4 | exact H.p5 | exact H.p6 | exact H.p7))
    obtain ⟨p, hix, _⟩ := R.idx1 (rep_get (m := mk 1) h3) .i64
    have hld := R.ld1 hix (rep_get (m := mk 1) h3)
    have so := R.sOk
    have d0 : decide (((k : Nat) : Int) < (((Lb.length + 20) : Nat) : Int)) = true := decide_eq_true (by omega)
    repeat' first
      | simp -implicitDefEqProofs (disch := first | omega | decide | exact rfl | assumption | exact Nat.le_of_ble_eq_true rfl | exact One.c | exact One.o) only [vsA, vsB, eq_self, if_true, if_false, implies_true, false_implies, evp, HX.ev, Nat.reduceAdd, HOp.looks, Nat.reduceEqDiff, overw, Nat.reduceBEq, d0, hix, hld, so, bm0, bm1, bm2, Bool.not_true, Bool.not_false, vadd1, ub25]
      | ((with_reducible show actK _ (HAct.call (HX.cst (HV.func (Fn.func 45) _ _)) _) _ _ _ _ _); refine vcall_of ok45 rfl (mark45 1 (by omega)) ?_; rintro _ _ ⟨rfl, rfl⟩)

    exact ⟨k + 1, _, by omega, by omega, (by (repeat first | exact Less.nil | refine Less.undef _ ?_ | refine Less.keep _ ?_)), Weak.refl _, H⟩
  obtain rfl : k = (Lb.length + 20) := by omega
  have d0 : decide ((((Lb.length + 20) : Nat) : Int) < (((Lb.length + 20) : Nat) : Int)) = false := decide_eq_false (by omega)
  first | have f0 := Sat.pf (H) | have f0 := trivial
  first | have f1 := Sat.pf (H.t) | have f1 := trivial
  first | have f2 := Sat.pf (H.t.t) | have f2 := trivial
  first | have f3 := Sat.pf (H.t.t.t) | have f3 := trivial
  first | have f4 := Sat.pf (H.t.t.t.t) | have f4 := trivial
  first | have f5 := Sat.pf (H.t.t.t.t.t) | have f5 := trivial
  first | have f6 := Sat.pf (H.t.t.t.t.t.t) | have f6 := trivial
  first | have f7 := Sat.pf (H.t.t.t.t.t.t.t) | have f7 := trivial
  repeat' first
    | simp -implicitDefEqProofs (disch := first | omega | decide | exact rfl | assumption | exact Nat.le_of_ble_eq_true rfl | exact One.c | exact One.o) only [vsA, vsB, eq_self, if_true, if_false, implies_true, false_implies, evp, HX.ev, Nat.reduceAdd, HOp.looks, Nat.reduceEqDiff, overw, Nat.reduceBEq, d0, oa1, oa2, ob1, ob2, oc1, oc2, la, lb, lc, oy1, oy2, ly, e0, e1, e2, l0, l1, l2, z01, z12, z23, lr_succ, vadd1, lva, lvb, lvc, bm0, bm1, bm2, Bool.not_true, Bool.not_false, ub25, f0, f1, f2, f3, f4, f5, f6, f7]
    | (refine condK_cases (fun h => ?_) (fun h => ?_) <;> (try simp only [h]) <;> (try simp only [athA, ne_eq] at h) <;> (try (exfalso; omega)))

  refine HW.loopA mixed (fun k : Nat => (a :: b :: c :: .undef :: .undef :: .undef :: .undef :: .undef :: .undef :: .undef :: .undef :: .undef :: .int .i64 2 :: .undef :: .undef :: .undef :: .undef :: .undef :: .undef :: .undef :: .undef :: .undef :: .undef :: .undef :: .undef :: .undef :: .undef :: .undef :: .undef :: .undef :: .undef :: .undef :: .undef :: .undef :: .undef :: .undef :: .undef :: .undef :: .undef :: .undef :: .undef :: .undef :: .undef :: .undef :: .undef :: .undef :: .undef :: .undef :: .undef :: .undef :: .undef :: .undef :: .undef :: .undef :: .undef :: .undef :: .undef :: .undef :: .undef :: .undef :: .undef :: .undef :: .undef :: y :: .int .i64 ((3 : Nat) : Int) :: .int .i64 2 :: .undef :: .undef :: .undef :: .undef :: vc :: .int .i64 ((Lc.length + 20 : Nat) : Int) :: .int .i64 (k : Nat) :: .undef :: .undef :: .undef :: .undef :: .undef :: .undef :: .undef :: .undef :: .undef :: .undef :: .undef :: .undef :: .undef :: .undef :: .undef :: .undef :: .undef :: .undef :: .undef :: .undef :: .undef :: .undef :: .undef :: .undef :: .undef :: .undef :: .undef :: .undef :: .undef :: .undef :: .undef :: [])) (fun k => Vw 1 a La.length ((List.replicate (La.length) (mk 0)).map HV.str) :: Vw 1 va (La.length + 20) ((List.replicate (La.length + 20) (mk 0)).map HV.str) :: Vw 1 b Lb.length ((List.replicate (Lb.length) (mk 1)).map HV.str) :: Vw 1 vb (Lb.length + 20) ((List.replicate (Lb.length + 20) (mk 1)).map HV.str) :: Vw 1 c Lc.length ((List.replicate (Lc.length) (mk 2)).map HV.str) :: Vw 1 vc (Lc.length + 20) ((List.replicate (Lc.length + 20) (mk 2)).map HV.str) :: My 1 y 3 [va, vb, vc] :: l) (fun k => (Lc.length + 20) - k) (fun k => k ≤ (Lc.length + 20)) 0 (Nat.zero_le _) (by (repeat first | exact Less.nil | refine Less.undef _ ?_ | refine Less.keep _ ?_)) H ?_
  clear H l0 l1 l2
  rintro k hs hk H
  have l0 := (Sat.rd (v := y) (by with_reducible first | exact H | exact H.p1 | exact H.p2 | exact H.p3 | exact H.p4 | exact H.p5 | exact H.p6 | exact H.p7)).ld1 (i := 0) e0 rfl
  have l1 := (Sat.rd (v := y) (by with_reducible first | exact H | exact H.p1 | exact H.p2 | exact H.p3 | exact H.p4 | exact H.p5 | exact H.p6 | exact H.p7)).ld1 (i := 1) e1 rfl
  have l2 := (Sat.rd (v := y) (by with_reducible first | exact H | exact H.p1 | exact H.p2 | exact H.p3 | exact H.p4 | exact H.p5 | exact H.p6 | exact H.p7)).ld1 (i := 2) e2 rfl
  by_cases h3 : k < (Lc.length + 20)
  · have R := (Sat.rdV (v := vc) (by with_reducible first | exact H | exact H.p1 | exact H.p2 | exact H.p3 | exact H.p4 | exact H.p5 | exact H.p6 | exact H.p7))
    obtain ⟨p, hix, _⟩ := R.idx1 (rep_get (m := mk 2) h3) .i64
    have hld := R.ld1 hix (rep_get (m := mk 2) h3)
    have so := R.sOk
    have d0 : decide (((k : Nat) : Int) < (((Lc.length + 20) : Nat) : Int)) = true := decide_eq_true (by omega)
    repeat' first
      | simp -implicitDefEqProofs (disch := first | omega | decide | exact rfl | assumption | exact Nat.le_of_ble_eq_true rfl | exact One.c | exact One.o) only [vsA, vsB, eq_self, if_true, if_false, implies_true, false_implies, evp, HX.ev, Nat.reduceAdd, HOp.looks, Nat.reduceEqDiff, overw, Nat.reduceBEq, d0, hix, hld, so, bm0, bm1, bm2, Bool.not_true, Bool.not_false, vadd1, ub25]
      | ((with_reducible show actK _ (HAct.call (HX.cst (HV.func (Fn.func 45) _ _)) _) _ _ _ _ _); refine vcall_of ok45 rfl (mark45 2 (by omega)) ?_; rintro _ _ ⟨rfl, rfl⟩)

    exact ⟨k + 1, _, by omega, by omega, (by (repeat first | exact Less.nil | refine Less.undef _ ?_ | refine Less.keep _ ?_)), Weak.refl _, H⟩
  obtain rfl : k = (Lc.length + 20) := by omega
  have d0 : decide ((((Lc.length + 20) : Nat) : Int) < (((Lc.length + 20) : Nat) : Int)) = false := decide_eq_false (by omega)
  first | have f0 := Sat.pf (H) | have f0 := trivial
  first | have f1 := Sat.pf (H.t) | have f1 := trivial
  first | have f2 := Sat.pf (H.t.t) | have f2 := trivial
  first | have f3 := Sat.pf (H.t.t.t) | have f3 := trivial
  first | have f4 := Sat.pf (H.t.t.t.t) | have f4 := trivial
  first | have f5 := Sat.pf (H.t.t.t.t.t) | have f5 := trivial
  first | have f6 := Sat.pf (H.t.t.t.t.t.t) | have f6 := trivial
  first | have f7 := Sat.pf (H.t.t.t.t.t.t.t) | have f7 := trivial
  repeat' first
    | ((with_reducible show Need _); refine need_of ?_; (first | have f0 := Sat.pf (H) | have f0 := trivial); (first | have f1 := Sat.pf (H.t) | have f1 := trivial); (first | have f2 := Sat.pf (H.t.t) | have f2 := trivial); (first | have f3 := Sat.pf (H.t.t.t) | have f3 := trivial); (first | have f4 := Sat.pf (H.t.t.t.t) | have f4 := trivial); (first | have f5 := Sat.pf (H.t.t.t.t.t) | have f5 := trivial); (first | have f6 := Sat.pf (H.t.t.t.t.t.t) | have f6 := trivial); (first | have f7 := Sat.pf (H.t.t.t.t.t.t.t) | have f7 := trivial); (first | have l0 := (Sat.rd (v := y) (by with_reducible first | exact H | exact H.p1 | exact H.p2 | exact H.p3 | exact H.p4 | exact H.p5 | exact H.p6 | exact H.p7)).ld1 (i := 0) e0 rfl | skip); (first | have l1 := (Sat.rd (v := y) (by with_reducible first | exact H | exact H.p1 | exact H.p2 | exact H.p3 | exact H.p4 | exact H.p5 | exact H.p6 | exact H.p7)).ld1 (i := 1) e1 rfl | skip); (first | have l2 := (Sat.rd (v := y) (by with_reducible first | exact H | exact H.p1 | exact H.p2 | exact H.p3 | exact H.p4 | exact H.p5 | exact H.p6 | exact H.p7)).ld1 (i := 2) e2 rfl | skip))
    | simp -implicitDefEqProofs (disch := first | omega | decide | exact rfl | assumption | exact Nat.le_of_ble_eq_true rfl | exact One.c | exact One.o) only [vsA, vsB, eq_self, if_true, if_false, implies_true, false_implies, evp, HX.ev, Nat.reduceAdd, HOp.looks, Nat.reduceEqDiff, overw, Nat.reduceBEq, d0, oa1, oa2, ob1, ob2, oc1, oc2, la, lb, lc, oy1, oy2, ly, e0, e1, e2, l0, l1, l2, z01, z12, z23, lr_succ, vadd1, lva, lvb, lvc, bm0, bm1, bm2, Bool.not_true, Bool.not_false, fill3, ub25, f0, f1, f2, f3, f4, f5, f6, f7]
    | (refine condK_cases (fun h => ?_) (fun h => ?_) <;> (try simp only [h]) <;> (try simp only [athA, ne_eq] at h) <;> (try (exfalso; omega)))
    | refine opC_K ?_
    | ((with_reducible show opC (hbuildSlice _ _ _ _ _) _); refine sl_bsliceK H rfl rfl (by omega) fill3 rfl ?_; clear H f0 f1 f2 f3 f4 f5 f6 f7; intro y2 hs H; refine need ?_)

  have oy21 := H.rd.one
  have oy22 := H.rd.cells
  have ly2 := H.rd.len
  obtain ⟨q0, q1, q2, e3, e4, e5⟩ := three_idx H.rd
  have m0 := H.rd.ld1 (i := 0) e3 rfl
  have m1 := H.rd.ld1 (i := 1) e4 rfl
  have m2 := H.rd.ld1 (i := 2) e5 rfl
  refine HW.rounds mixed 4 ?_
  first | have f0 := Sat.pf (H) | have f0 := trivial
  first | have f1 := Sat.pf (H.t) | have f1 := trivial
  first | have f2 := Sat.pf (H.t.t) | have f2 := trivial
  first | have f3 := Sat.pf (H.t.t.t) | have f3 := trivial
  first | have f4 := Sat.pf (H.t.t.t.t) | have f4 := trivial
  first | have f5 := Sat.pf (H.t.t.t.t.t) | have f5 := trivial
  first | have f6 := Sat.pf (H.t.t.t.t.t.t) | have f6 := trivial
  first | have f7 := Sat.pf (H.t.t.t.t.t.t.t) | have f7 := trivial
  repeat' first
    | simp -implicitDefEqProofs (disch := first | omega | decide | exact rfl | assumption | exact Nat.le_of_ble_eq_true rfl | exact One.c | exact One.o) only [vsA, vsB, eq_self, if_true, if_false, implies_true, false_implies, evp, HX.ev, Nat.reduceAdd, HOp.looks, Nat.reduceEqDiff, overw, Nat.reduceBEq, d0, oa1, oa2, ob1, ob2, oc1, oc2, la, lb, lc, oy21, oy22, ly2, e3, e4, e5, m0, m1, m2, z01, z12, z23, lr_succ, vadd1, bm0, bm1, bm2, Bool.not_true, Bool.not_false, ub25, f0, f1, f2, f3, f4, f5, f6, f7]
    | (refine condK_cases (fun h => ?_) (fun h => ?_) <;> (try simp only [h]) <;> (try simp only [athA, ne_eq] at h) <;> (try (exfalso; omega)))

  refine HW.loopA mixed (fun k : Nat => (.undef :: .undef :: .undef :: .undef :: .undef :: .undef :: .undef :: .undef :: .undef :: .undef :: .undef :: .undef :: .undef :: .undef :: .undef :: .undef :: .int .i64 0 :: .undef :: .undef :: .undef :: .undef :: .undef :: .undef :: .undef :: .undef :: .undef :: .undef :: .undef :: .undef :: .undef :: .undef :: .undef :: .undef :: .undef :: .undef :: .undef :: .undef :: .undef :: .undef :: .undef :: .undef :: .undef :: .undef :: .undef :: .undef :: .undef :: .undef :: .undef :: .undef :: .undef :: .undef :: .undef :: .undef :: .undef :: .undef :: .undef :: .undef :: .undef :: .undef :: .undef :: .undef :: .undef :: .undef :: .undef :: .undef :: .undef :: .undef :: .undef :: .undef :: .undef :: .undef :: .undef :: .undef :: .undef :: .undef :: .undef :: .undef :: .undef :: .undef :: .undef :: .undef :: .undef :: .undef :: .undef :: .undef :: y2 :: .int .i64 ((3 : Nat) : Int) :: .int .i64 0 :: .undef :: .undef :: .undef :: .undef :: a :: .int .i64 (La.length : Nat) :: .int .i64 (k : Nat) :: .undef :: .undef :: .undef :: .undef :: .undef :: .undef :: .undef :: .undef :: .undef :: [])) (fun k => My 1 y2 3 [a, b, c] :: Vw 1 a La.length ((List.replicate (La.length) (mk 0)).map HV.str) :: Vw 1 va (La.length + 20) ((List.replicate (La.length + 20) (mk 0)).map HV.str) :: Vw 1 b Lb.length ((List.replicate (Lb.length) (mk 1)).map HV.str) :: Vw 1 vb (Lb.length + 20) ((List.replicate (Lb.length + 20) (mk 1)).map HV.str) :: Vw 1 c Lc.length ((List.replicate (Lc.length) (mk 2)).map HV.str) :: Vw 1 vc (Lc.length + 20) ((List.replicate (Lc.length + 20) (mk 2)).map HV.str) :: My 1 y 3 [va, vb, vc] :: l) (fun k => La.length - k) (fun k => k ≤ La.length) 0 (Nat.zero_le _) (by (repeat first | exact Less.nil | refine Less.undef _ ?_ | refine Less.keep _ ?_)) H ?_
  clear H m0 m1 m2
  rintro k hs hk H
  have m0 := (Sat.rd (v := y2) (by with_reducible first | exact H | exact H.p1 | exact H.p2 | exact H.p3 | exact H.p4 | exact H.p5 | exact H.p6 | exact H.p7)).ld1 (i := 0) e3 rfl
  have m1 := (Sat.rd (v := y2) (by with_reducible first | exact H | exact H.p1 | exact H.p2 | exact H.p3 | exact H.p4 | exact H.p5 | exact H.p6 | exact H.p7)).ld1 (i := 1) e4 rfl
  have m2 := (Sat.rd (v := y2) (by with_reducible first | exact H | exact H.p1 | exact H.p2 | exact H.p3 | exact H.p4 | exact H.p5 | exact H.p6 | exact H.p7)).ld1 (i := 2) e5 rfl
  by_cases h3 : k < La.length
  · have R := (Sat.rdV (v := a) (by with_reducible first | exact H | exact H.p1 | exact H.p2 | exact H.p3 | exact H.p4 | exact H.p5 | exact H.p6 | exact H.p7))
    obtain ⟨p, hix, _⟩ := R.idx1 (rep_get (m := mk 0) h3) .i64
    have hld := R.ld1 hix (rep_get (m := mk 0) h3)
    have so := R.sOk
    have d0 : decide (((k : Nat) : Int) < ((La.length : Nat) : Int)) = true := decide_eq_true (by omega)
    repeat' first
      | simp -implicitDefEqProofs (disch := first | omega | decide | exact rfl | assumption | exact Nat.le_of_ble_eq_true rfl | exact One.c | exact One.o) only [vsA, vsB, eq_self, if_true, if_false, implies_true, false_implies, evp, HX.ev, Nat.reduceAdd, HOp.looks, Nat.reduceEqDiff, overw, Nat.reduceBEq, d0, hix, hld, so, bm0, bm1, bm2, Bool.not_true, Bool.not_false, vadd1, ub25]
      | ((with_reducible show actK _ (HAct.call (HX.cst (HV.func (Fn.func 45) _ _)) _) _ _ _ _ _); refine vcall_of ok45 rfl (mark45 0 (by omega)) ?_; rintro _ _ ⟨rfl, rfl⟩)

    exact ⟨k + 1, _, by omega, by omega, (by (repeat first | exact Less.nil | refine Less.undef _ ?_ | refine Less.keep _ ?_)), Weak.refl _, H⟩
  obtain rfl : k = La.length := by omega
  have d0 : decide (((La.length : Nat) : Int) < ((La.length : Nat) : Int)) = false := decide_eq_false (by omega)
  first | have f0 := Sat.pf (H) | have f0 := trivial
  first | have f1 := Sat.pf (H.t) | have f1 := trivial
  first | have f2 := Sat.pf (H.t.t) | have f2 := trivial
  first | have f3 := Sat.pf (H.t.t.t) | have f3 := trivial
  first | have f4 := Sat.pf (H.t.t.t.t) | have f4 := trivial
  first | have f5 := Sat.pf (H.t.t.t.t.t) | have f5 := trivial
  first | have f6 := Sat.pf (H.t.t.t.t.t.t) | have f6 := trivial
  first | have f7 := Sat.pf (H.t.t.t.t.t.t.t) | have f7 := trivial
  repeat' first
    | simp -implicitDefEqProofs (disch := first | omega | decide | exact rfl | assumption | exact Nat.le_of_ble_eq_true rfl | exact One.c | exact One.o) only [vsA, vsB, eq_self, if_true, if_false, implies_true, false_implies, evp, HX.ev, Nat.reduceAdd, HOp.looks, Nat.reduceEqDiff, overw, Nat.reduceBEq, d0, oa1, oa2, ob1, ob2, oc1, oc2, la, lb, lc, oy21, oy22, ly2, e3, e4, e5, m0, m1, m2, z01, z12, z23, lr_succ, vadd1, bm0, bm1, bm2, Bool.not_true, Bool.not_false, ub25, f0, f1, f2, f3, f4, f5, f6, f7]
    | (refine condK_cases (fun h => ?_) (fun h => ?_) <;> (try simp only [h]) <;> (try simp only [athA, ne_eq] at h) <;> (try (exfalso; omega)))

  refine HW.loopA mixed (fun k : Nat => (.undef :: .undef :: .undef :: .undef :: .undef :: .undef :: .undef :: .undef :: .undef :: .undef :: .undef :: .undef :: .undef :: .undef :: .undef :: .undef :: .int .i64 1 :: .undef :: .undef :: .undef :: .undef :: .undef :: .undef :: .undef :: .undef :: .undef :: .undef :: .undef :: .undef :: .undef :: .undef :: .undef :: .undef :: .undef :: .undef :: .undef :: .undef :: .undef :: .undef :: .undef :: .undef :: .undef :: .undef :: .undef :: .undef :: .undef :: .undef :: .undef :: .undef :: .undef :: .undef :: .undef :: .undef :: .undef :: .undef :: .undef :: .undef :: .undef :: .undef :: .undef :: .undef :: .undef :: .undef :: .undef :: .undef :: .undef :: .undef :: .undef :: .undef :: .undef :: .undef :: .undef :: .undef :: .undef :: .undef :: .undef :: .undef :: .undef :: .undef :: .undef :: .undef :: .undef :: .undef :: .undef :: .undef :: y2 :: .int .i64 ((3 : Nat) : Int) :: .int .i64 1 :: .undef :: .undef :: .undef :: .undef :: b :: .int .i64 (Lb.length : Nat) :: .int .i64 (k : Nat) :: .undef :: .undef :: .undef :: .undef :: .undef :: .undef :: .undef :: .undef :: .undef :: [])) (fun k => My 1 y2 3 [a, b, c] :: Vw 1 a La.length ((List.replicate (La.length) (mk 0)).map HV.str) :: Vw 1 va (La.length + 20) ((List.replicate (La.length + 20) (mk 0)).map HV.str) :: Vw 1 b Lb.length ((List.replicate (Lb.length) (mk 1)).map HV.str) :: Vw 1 vb (Lb.length + 20) ((List.replicate (Lb.length + 20) (mk 1)).map HV.str) :: Vw 1 c Lc.length ((List.replicate (Lc.length) (mk 2)).map HV.str) :: Vw 1 vc (Lc.length + 20) ((List.replicate (Lc.length + 20) (mk 2)).map HV.str) :: My 1 y 3 [va, vb, vc] :: l) (fun k => Lb.length - k) (fun k => k ≤ Lb.length) 0 (Nat.zero_le _) (by (repeat first | exact Less.nil | refine Less.undef _ ?_ | refine Less.keep _ ?_)) H ?_
  clear H m0 m1 m2
  rintro k hs hk H
  have m0 := (Sat.rd (v := y2) (by with_reducible first | exact H | exact H.p1 | exact H.p2 | exact H.p3 | exact H.p4 | exact H.p5 | exact H.p6 | exact H.p7)).ld1 (i := 0) e3 rfl
  have m1 := (Sat.rd (v := y2) (by with_reducible first | exact H | exact H.p1 | exact H.p2 | exact H.p3 | exact H.p4 | exact H.p5 | exact H.p6 | exact H.p7)).ld1 (i := 1) e4 rfl
  have m2 := (Sat.rd (v := y2) (by with_reducible first | exact H | exact H.p1 | exact H.p2 | exact H.p3 | exact H.p4 | exact H.p5 | exact H.p6 | exact H.p7)).ld1 (i := 2) e5 rfl
  by_cases h3 : k < Lb.length
  · have R := (Sat.rdV (v := b) (by with_reducible first | exact H | exact H.p1 | exact H.p2 | exact H.p3 | exact H.p4 | exact H.p5 | exact H.p6 | exact H.p7))
    obtain ⟨p, hix, _⟩ := R.idx1 (rep_get (m := mk 1) h3) .i64
    have hld := R.ld1 hix (rep_get (m := mk 1) h3)
    have so := R.sOk
    have d0 : decide (((k : Nat) : Int) < ((Lb.length : Nat) : Int)) = true := decide_eq_true (by omega)
    repeat' first
      | simp -implicitDefEqProofs (disch := first | omega | decide | exact rfl | assumption | exact Nat.le_of_ble_eq_true rfl | exact One.c | exact One.o) only [vsA, vsB, eq_self, if_true, if_false, implies_true, false_implies, evp, HX.ev, Nat.reduceAdd, HOp.looks, Nat.reduceEqDiff, overw, Nat.reduceBEq, d0, hix, hld, so, bm0, bm1, bm2, Bool.not_true, Bool.not_false, vadd1, ub25]
      | ((with_reducible show actK _ (HAct.call (HX.cst (HV.func (Fn.func 45) _ _)) _) _ _ _ _ _); refine vcall_of ok45 rfl (mark45 1 (by omega)) ?_; rintro _ _ ⟨rfl, rfl⟩)

    exact ⟨k + 1, _, by omega, by omega, (by (repeat first | exact Less.nil | refine Less.undef _ ?_ | refine Less.keep _ ?_)), Weak.refl _, H⟩
  obtain rfl : k = Lb.length := by omega
  have d0 : decide (((Lb.length : Nat) : Int) < ((Lb.length : Nat) : Int)) = false := decide_eq_false (by omega)
  first | have f0 := Sat.pf (H) | have f0 := trivial
  first | have f1 := Sat.pf (H.t) | have f1 := trivial
  first | have f2 := Sat.pf (H.t.t) | have f2 := trivial
  first | have f3 := Sat.pf (H.t.t.t) | have f3 := trivial
  first | have f4 := Sat.pf (H.t.t.t.t) | have f4 := trivial
  first | have f5 := Sat.pf (H.t.t.t.t.t) | have f5 := trivial
  first | have f6 := Sat.pf (H.t.t.t.t.t.t) | have f6 := trivial
  first | have f7 := Sat.pf (H.t.t.t.t.t.t.t) | have f7 := trivial
  repeat' first
    | simp -implicitDefEqProofs (disch := first | omega | decide | exact rfl | assumption | exact Nat.le_of_ble_eq_true rfl | exact One.c | exact One.o) only [vsA, vsB, eq_self, if_true, if_false, implies_true, false_implies, evp, HX.ev, Nat.reduceAdd, HOp.looks, Nat.reduceEqDiff, overw, Nat.reduceBEq, d0, oa1, oa2, ob1, ob2, oc1, oc2, la, lb, lc, oy21, oy22, ly2, e3, e4, e5, m0, m1, m2, z01, z12, z23, lr_succ, vadd1, bm0, bm1, bm2, Bool.not_true, Bool.not_false, ub25, f0, f1, f2, f3, f4, f5, f6, f7]
    | (refine condK_cases (fun h => ?_) (fun h => ?_) <;> (try simp only [h]) <;> (try simp only [athA, ne_eq] at h) <;> (try (exfalso; omega)))

  refine HW.loopA mixed (fun k : Nat => (.undef :: .undef :: .undef :: .undef :: .undef :: .undef :: .undef :: .undef :: .undef :: .undef :: .undef :: .undef :: .undef :: .undef :: .undef :: .undef :: .int .i64 2 :: .undef :: .undef :: .undef :: .undef :: .undef :: .undef :: .undef :: .undef :: .undef :: .undef :: .undef :: .undef :: .undef :: .undef :: .undef :: .undef :: .undef :: .undef :: .undef :: .undef :: .undef :: .undef :: .undef :: .undef :: .undef :: .undef :: .undef :: .undef :: .undef :: .undef :: .undef :: .undef :: .undef :: .undef :: .undef :: .undef :: .undef :: .undef :: .undef :: .undef :: .undef :: .undef :: .undef :: .undef :: .undef :: .undef :: .undef :: .undef :: .undef :: .undef :: .undef :: .undef :: .undef :: .undef :: .undef :: .undef :: .undef :: .undef :: .undef :: .undef :: .undef :: .undef :: .undef :: .undef :: .undef :: .undef :: .undef :: .undef :: y2 :: .int .i64 ((3 : Nat) : Int) :: .int .i64 2 :: .undef :: .undef :: .undef :: .undef :: c :: .int .i64 (Lc.length : Nat) :: .int .i64 (k : Nat) :: .undef :: .undef :: .undef :: .undef :: .undef :: .undef :: .undef :: .undef :: .undef :: [])) (fun k => My 1 y2 3 [a, b, c] :: Vw 1 a La.length ((List.replicate (La.length) (mk 0)).map HV.str) :: Vw 1 va (La.length + 20) ((List.replicate (La.length + 20) (mk 0)).map HV.str) :: Vw 1 b Lb.length ((List.replicate (Lb.length) (mk 1)).map HV.str) :: Vw 1 vb (Lb.length + 20) ((List.replicate (Lb.length + 20) (mk 1)).map HV.str) :: Vw 1 c Lc.length ((List.replicate (Lc.length) (mk 2)).map HV.str) :: Vw 1 vc (Lc.length + 20) ((List.replicate (Lc.length + 20) (mk 2)).map HV.str) :: My 1 y 3 [va, vb, vc] :: l) (fun k => Lc.length - k) (fun k => k ≤ Lc.length) 0 (Nat.zero_le _) (by (repeat first | exact Less.nil | refine Less.undef _ ?_ | refine Less.keep _ ?_)) H ?_
  clear H m0 m1 m2
  rintro k hs hk H
  have m0 := (Sat.rd (v := y2) (by with_reducible first | exact H | exact H.p1 | exact H.p2 | exact H.p3 | exact H.p4 | exact H.p5 | exact H.p6 | exact H.p7)).ld1 (i := 0) e3 rfl
  have m1 := (Sat.rd (v := y2) (by with_reducible first | exact H | exact H.p1 | exact H.p2 | exact H.p3 | exact H.p4 | exact H.p5 | exact H.p6 | exact H.p7)).ld1 (i := 1) e4 rfl
  have m2 := (Sat.rd (v := y2) (by with_reducible first | exact H | exact H.p1 | exact H.p2 | exact H.p3 | exact H.p4 | exact H.p5 | exact H.p6 | exact H.p7)).ld1 (i := 2) e5 rfl
  by_cases h3 : k < Lc.length
  · have R := (Sat.rdV (v := c) (by with_reducible first | exact H | exact H.p1 | exact H.p2 | exact H.p3 | exact H.p4 | exact H.p5 | exact H.p6 | exact H.p7))
    obtain ⟨p, hix, _⟩ := R.idx1 (rep_get (m := mk 2) h3) .i64
    have hld := R.ld1 hix (rep_get (m := mk 2) h3)
    have so := R.sOk
    have d0 : decide (((k : Nat) : Int) < ((Lc.length : Nat) : Int)) = true := decide_eq_true (by omega)
    repeat' first
      | simp -implicitDefEqProofs (disch := first | omega | decide | exact rfl | assumption | exact Nat.le_of_ble_eq_true rfl | exact One.c | exact One.o) only [vsA, vsB, eq_self, if_true, if_false, implies_true, false_implies, evp, HX.ev, Nat.reduceAdd, HOp.looks, Nat.reduceEqDiff, overw, Nat.reduceBEq, d0, hix, hld, so, bm0, bm1, bm2, Bool.not_true, Bool.not_false, vadd1, ub25]
      | ((with_reducible show actK _ (HAct.call (HX.cst (HV.func (Fn.func 45) _ _)) _) _ _ _ _ _); refine vcall_of ok45 rfl (mark45 2 (by omega)) ?_; rintro _ _ ⟨rfl, rfl⟩)

    exact ⟨k + 1, _, by omega, by omega, (by (repeat first | exact Less.nil | refine Less.undef _ ?_ | refine Less.keep _ ?_)), Weak.refl _, H⟩
  obtain rfl : k = Lc.length := by omega
  have d0 : decide (((Lc.length : Nat) : Int) < ((Lc.length : Nat) : Int)) = false := decide_eq_false (by omega)
  first | have f0 := Sat.pf (H) | have f0 := trivial
  first | have f1 := Sat.pf (H.t) | have f1 := trivial
  first | have f2 := Sat.pf (H.t.t) | have f2 := trivial
  first | have f3 := Sat.pf (H.t.t.t) | have f3 := trivial
  first | have f4 := Sat.pf (H.t.t.t.t) | have f4 := trivial
  first | have f5 := Sat.pf (H.t.t.t.t.t) | have f5 := trivial
  first | have f6 := Sat.pf (H.t.t.t.t.t.t) | have f6 := trivial
  first | have f7 := Sat.pf (H.t.t.t.t.t.t.t) | have f7 := trivial
  repeat' first
    | simp -implicitDefEqProofs (disch := first | omega | decide | exact rfl | assumption | exact Nat.le_of_ble_eq_true rfl | exact One.c | exact One.o) only [vsA, vsB, eq_self, if_true, if_false, implies_true, false_implies, evp, HX.ev, Nat.reduceAdd, HOp.looks, Nat.reduceEqDiff, overw, Nat.reduceBEq, d0, oa1, oa2, ob1, ob2, oc1, oc2, la, lb, lc, oy21, oy22, ly2, e3, e4, e5, m0, m1, m2, z01, z12, z23, lr_succ, vadd1, bm0, bm1, bm2, Bool.not_true, Bool.not_false, ub25, f0, f1, f2, f3, f4, f5, f6, f7]
    | (refine condK_cases (fun h => ?_) (fun h => ?_) <;> (try simp only [h]) <;> (try simp only [athA, ne_eq] at h) <;> (try (exfalso; omega)))

  exact H.t.t.t.t.t.t.t.t
end A
end Go.Proofs.YteedmbmgemiheaaDoor
namespace Go.Proofs.YteedmbmgemiheaaDoor
open Go Go.HL Go.Shelf Y
namespace A
set_option maxRecDepth 100000
set_option maxHeartbeats 40000000
set_option linter.unusedSimpArgs false
theorem exWriteN {hs : HS} {l : List SA} {s n : Nat} {v : HV} {xs cells : List HV} (H : Sat hs (Ex s v n xs :: l)) {i : Nat} (hi : i < n) (k : IntKind) (hc : cells.length = s) (h1 : cells.all HV.one = true) :
    ∃ p hs', hindexAddr s v (.int k (i : Nat)) = some p ∧ hstore s hs p (.agg cells) = some hs' ∧ Sat hs' (Ex s v n (overw xs (i * s) cells) :: l) := by
  obtain ⟨a, ⟨h0, hcc⟩, hB⟩ := H.open1
  have e2 : i * s + s ≤ n * s := by rw [← Nat.succ_mul]; exact Nat.mul_le_mul_right s (by omega)
  have hlen : (overw xs (i * s) cells).length = n * s := by
    unfold overw
    simp only [List.length_append, List.length_take, List.length_drop]
    omega
  rcases hcc with ⟨rfl, rfl⟩ | ⟨h, o, rfl, rfl⟩ | ⟨h, olds, rfl, hp⟩ | ⟨h, opn, olds, rfl, hp⟩
  · omega
  · omega
  · have P := hB _ hp
    refine ⟨_, _, by rw [vidx_some hi, Nat.zero_add], by rw [va_store, P.get]; exact va_stn hc h1 (by omega), ?_⟩
    exact Sat.exN (P.put (cs' := overw xs (i * s) cells) (ro' := false) (opn' := true)) hlen
  · have P := hB _ hp
    refine ⟨_, _, by rw [vidx_some hi, Nat.zero_add], by rw [va_store, P.get]; exact va_stn hc h1 (by omega), ?_⟩
    exact Sat.exC (P.put (cs' := overw xs (i * s) cells) (ro' := false) (opn' := opn)) hlen
attribute [local irreducible] pt My Ex Vw Gr GrK GrS GsK each grp exs Sat takeCells happend hbuildSlice hstore hbox hslice hmakeSlice hs2b hcopy HL.unit opC mk
def mp (i : Nat) : Pr := (mk i, [])
theorem pr_len (D : List Pr) : (D.flatMap prC).length = D.length * 2 := flat_len (s := 2) (fun _ => rfl) D
theorem repP_set {D : List Pr} {k i : Nat} (h : k < D.length) : overw ((List.replicate k (mp i) ++ D.drop k).flatMap prC) (k * 2) [.str (mk i), .str []] = (List.replicate (k + 1) (mp i) ++ D.drop (k + 1)).flatMap prC := by
  have e : D.drop k = D[k] :: D.drop (k + 1) := List.drop_eq_getElem_cons h
  have hl : ((List.replicate k (mp i)).flatMap prC).length = k * 2 := by rw [pr_len, List.length_replicate]
  rw [e, List.flatMap_append, List.flatMap_cons]
  unfold overw
  rw [← hl, List.take_left]
  have e2 : ((List.replicate k (mp i)).flatMap prC).length + ([HV.str (mk i), .str []] : List HV).length = ((List.replicate k (mp i)).flatMap prC ++ prC D[k]).length := by rw [List.length_append]; rfl
  rw [e2, ← List.append_assoc, List.drop_left, List.replicate_succ', List.flatMap_append, List.flatMap_append, List.flatMap_singleton]
  rfl
theorem repP_get {n k i : Nat} (h : k < n) : (List.replicate n (mp i))[k]? = some (mp i) := by simp [h]
theorem repP_snoc {n i : Nat} : (List.replicate n (mp i)).flatMap prC ++ [.str (mk i), .str []] = (List.replicate (n + 1) (mp i)).flatMap prC := by
  rw [List.replicate_succ', List.flatMap_append, List.flatMap_singleton]; rfl
theorem z34 : hbin .add none (.int .i64 3) (.int .i64 1) = some (.int .i64 4) := rfl
theorem z45 : hbin .add none (.int .i64 4) (.int .i64 1) = some (.int .i64 5) := rfl
theorem z56 : hbin .add none (.int .i64 5) (.int .i64 1) = some (.int .i64 6) := rfl
theorem r0 : hbin .rem none (.int .i64 0) (.int .i64 3) = some (.int .i64 0) := rfl
theorem r1 : hbin .rem none (.int .i64 1) (.int .i64 3) = some (.int .i64 1) := rfl
theorem r2 : hbin .rem none (.int .i64 2) (.int .i64 3) = some (.int .i64 2) := rfl
theorem r3 : hbin .rem none (.int .i64 3) (.int .i64 3) = some (.int .i64 0) := rfl
theorem r4 : hbin .rem none (.int .i64 4) (.int .i64 3) = some (.int .i64 1) := rfl
theorem r5 : hbin .rem none (.int .i64 5) (.int .i64 3) = some (.int .i64 2) := rfl
theorem bild {m : List UInt8} : hbuild [.str [], .str []] [(0, 1, .str m)] = some (.agg [.str m, .str []]) := rfl
theorem fil2 {m : List UInt8} : hfill [.str [], .str []] [(0, 2, .agg [.str m, .str []])] = some [.str m, .str []] := rfl
theorem six_idx {hs : HS} {v : HV} {xs : List HV} (R : Rd hs 1 v 6 xs) : ∃ p0 p1 p2 p3 p4 p5, hindexAddr 1 v (.int .i64 0) = some p0 ∧ hindexAddr 1 v (.int .i64 1) = some p1 ∧ hindexAddr 1 v (.int .i64 2) = some p2 ∧ hindexAddr 1 v (.int .i64 3) = some p3 ∧ hindexAddr 1 v (.int .i64 4) = some p4 ∧ hindexAddr 1 v (.int .i64 5) = some p5 := by
  have hl := R.1
  have g : ∀ i : Nat, i < 6 → ∃ p, hindexAddr 1 v (.int .i64 (i : Nat)) = some p := fun i h => by
    obtain ⟨p, a, _⟩ := R.idx1 (x := xs[i]'(by omega)) (List.getElem?_eq_getElem (by omega)) .i64
    exact ⟨p, a⟩
  obtain ⟨p0, h0⟩ := g 0 (by omega)
  obtain ⟨p1, h1⟩ := g 1 (by omega)
  obtain ⟨p2, h2⟩ := g 2 (by omega)
  obtain ⟨p3, h3⟩ := g 3 (by omega)
  obtain ⟨p4, h4⟩ := g 4 (by omega)
  obtain ⟨p5, h5⟩ := g 5 (by omega)
  exact ⟨p0, p1, p2, p3, p4, p5, h0, h1, h2, h3, h4, h5⟩
theorem apartPairs26 {hs : HS} {l : List SA} {a b c : HV} {La Lb Lc : List Pr} (H : Sat hs (Ex 2 a La.length (La.flatMap prC) :: Ex 2 b Lb.length (Lb.flatMap prC) :: Ex 2 c Lc.length (Lc.flatMap prC) :: l))
    (ha : La.length < 1073741824) (hb : Lb.length < 1073741824) (hc : Lc.length < 1073741824) : HC Tryd.prog 26 [a, b, c] hs fun v _ => v = .bool true := by
  have hmax : maxLen = 9223372036854775807 := rfl
  have oa1 := H.rdX.one
  have oa2 := H.rdX.cells
  have ob1 := H.p1.rdX.one
  have ob2 := H.p1.rdX.cells
  have oc1 := H.p2.rdX.one
  have oc2 := H.p2.rdX.cells
  have la := H.rdX.len
  have lb := H.p1.rdX.len
  have lc := H.p2.rdX.len
  refine HC.wp mixed Tryd.func26 c26 ?_
  have fill3 : hfill [.nilSlice, .nilSlice, .nilSlice] [(0, 1, a), (1, 1, b), (2, 1, c)] = some [a, b, c] := by
    rw [hf_one oa1 oa2 (by simp), hf_one ob1 ob2 (by simp), hf_one oc1 oc2 (by simp)]; rfl
  first | have f0 := Sat.pf (H) | have f0 := trivial
  first | have f1 := Sat.pf (H.t) | have f1 := trivial
  first | have f2 := Sat.pf (H.t.t) | have f2 := trivial
  first | have f3 := Sat.pf (H.t.t.t) | have f3 := trivial
  first | have f4 := Sat.pf (H.t.t.t.t) | have f4 := trivial
  first | have f5 := Sat.pf (H.t.t.t.t.t) | have f5 := trivial
  first | have f6 := Sat.pf (H.t.t.t.t.t.t) | have f6 := trivial
  first | have f7 := Sat.pf (H.t.t.t.t.t.t.t) | have f7 := trivial
  first | have f8 := Sat.pf (H.t.t.t.t.t.t.t.t) | have f8 := trivial
  repeat' first
    | ((with_reducible show Need _); refine need_of ?_; (first | have f0 := Sat.pf (H) | have f0 := trivial); (first | have f1 := Sat.pf (H.t) | have f1 := trivial); (first | have f2 := Sat.pf (H.t.t) | have f2 := trivial); (first | have f3 := Sat.pf (H.t.t.t) | have f3 := trivial); (first | have f4 := Sat.pf (H.t.t.t.t) | have f4 := trivial); (first | have f5 := Sat.pf (H.t.t.t.t.t) | have f5 := trivial); (first | have f6 := Sat.pf (H.t.t.t.t.t.t) | have f6 := trivial); (first | have f7 := Sat.pf (H.t.t.t.t.t.t.t) | have f7 := trivial); (first | have f8 := Sat.pf (H.t.t.t.t.t.t.t.t) | have f8 := trivial))
    | simp -implicitDefEqProofs (disch := first | omega | decide | exact rfl | assumption | exact Nat.le_of_ble_eq_true rfl | exact One.c | exact One.o) only [vsA, vsB, eq_self, if_true, if_false, implies_true, false_implies, evp, HX.ev, Nat.reduceAdd, HOp.looks, Nat.reduceEqDiff, overw, Nat.reduceBEq, h26, fill3, ub26, f0, f1, f2, f3, f4, f5, f6, f7, f8, frame0, List.replicate, Nat.sub]
    | refine opC_K ?_
    | ((with_reducible show opC (hbuildSlice _ _ _ _ _) _); refine sl_bsliceK H rfl rfl (by omega) fill3 rfl ?_; clear H f0 f1 f2 f3 f4 f5 f6 f7 f8; intro y hs H; refine need ?_)

  have oy1 := H.rd.one
  have oy2 := H.rd.cells
  have ly := H.rd.len
  obtain ⟨p0, p1, p2, e0, e1, e2⟩ := three_idx H.rd
  have l0 := H.rd.ld1 (i := 0) e0 rfl
  have l1 := H.rd.ld1 (i := 1) e1 rfl
  have l2 := H.rd.ld1 (i := 2) e2 rfl
  refine HW.rounds mixed 4 ?_
  first | have f0 := Sat.pf (H) | have f0 := trivial
  first | have f1 := Sat.pf (H.t) | have f1 := trivial
  first | have f2 := Sat.pf (H.t.t) | have f2 := trivial
  first | have f3 := Sat.pf (H.t.t.t) | have f3 := trivial
  first | have f4 := Sat.pf (H.t.t.t.t) | have f4 := trivial
  first | have f5 := Sat.pf (H.t.t.t.t.t) | have f5 := trivial
  first | have f6 := Sat.pf (H.t.t.t.t.t.t) | have f6 := trivial
  first | have f7 := Sat.pf (H.t.t.t.t.t.t.t) | have f7 := trivial
  first | have f8 := Sat.pf (H.t.t.t.t.t.t.t.t) | have f8 := trivial
  repeat' first
    | simp -implicitDefEqProofs (disch := first | omega | decide | exact rfl | assumption | exact Nat.le_of_ble_eq_true rfl | exact One.c | exact One.o) only [vsA, vsB, eq_self, if_true, if_false, implies_true, false_implies, evp, HX.ev, Nat.reduceAdd, HOp.looks, Nat.reduceEqDiff, overw, Nat.reduceBEq, oa1, oa2, ob1, ob2, oc1, oc2, la, lb, lc, oy1, oy2, ly, e0, e1, e2, l0, l1, l2, z01, z12, z23, lr_succ, vadd1, bild, ub26, f0, f1, f2, f3, f4, f5, f6, f7, f8]
    | (refine condK_cases (fun h => ?_) (fun h => ?_) <;> (try simp only [h]) <;> (try simp only [athA, ne_eq] at h) <;> (try (exfalso; omega)))

  refine HW.loopA mixed (fun k : Nat => (a :: b :: c :: .undef :: .undef :: .undef :: .undef :: y :: .int .i64 0 :: a :: .undef :: .undef :: .undef :: .undef :: .undef :: .undef :: .undef :: .undef :: .undef :: .undef :: y :: .int .i64 ((3 : Nat) : Int) :: .int .i64 0 :: .undef :: .undef :: .undef :: .undef :: .undef :: .int .i64 (La.length : Nat) :: .int .i64 (k : Nat) :: .undef :: .undef :: .undef :: .undef :: .undef :: .undef :: .undef :: .undef :: .undef :: .undef :: .undef :: .undef :: .undef :: .undef :: .undef :: .undef :: .undef :: .undef :: .undef :: .undef :: .undef :: .undef :: .undef :: .undef :: .undef :: .undef :: .undef :: .undef :: .undef :: .undef :: .undef :: .undef :: .undef :: .undef :: .undef :: .undef :: .undef :: .undef :: .undef :: .undef :: .undef :: .undef :: .undef :: .undef :: .undef :: .undef :: .undef :: .undef :: .undef :: .undef :: .undef :: .undef :: .undef :: .undef :: .undef :: .undef :: .undef :: .undef :: .undef :: .undef :: .undef :: .undef :: .undef :: .undef :: .undef :: .undef :: .undef :: .undef :: .undef :: [])) (fun k => Ex 2 a La.length ((List.replicate k (mp 0) ++ La.drop k).flatMap prC) :: My 1 y 3 [a, b, c] :: Ex 2 b Lb.length (Lb.flatMap prC) :: Ex 2 c Lc.length (Lc.flatMap prC) :: l) (fun k => La.length - k) (fun k => k ≤ La.length) 0 (Nat.zero_le _) (by (repeat first | exact Less.nil | refine Less.undef _ ?_ | refine Less.keep _ ?_)) H.p3.p3.p2.p3 ?_
  clear H l0 l1 l2
  rintro k hs hk H
  have l0 := (Sat.rd (v := y) (by with_reducible first | exact H | exact H.p1 | exact H.p2 | exact H.p3 | exact H.p4 | exact H.p5 | exact H.p6 | exact H.p7 | exact H.p8)).ld1 (i := 0) e0 rfl
  have l1 := (Sat.rd (v := y) (by with_reducible first | exact H | exact H.p1 | exact H.p2 | exact H.p3 | exact H.p4 | exact H.p5 | exact H.p6 | exact H.p7 | exact H.p8)).ld1 (i := 1) e1 rfl
  have l2 := (Sat.rd (v := y) (by with_reducible first | exact H | exact H.p1 | exact H.p2 | exact H.p3 | exact H.p4 | exact H.p5 | exact H.p6 | exact H.p7 | exact H.p8)).ld1 (i := 2) e2 rfl
  by_cases ha0 : k < La.length
  · obtain ⟨p, hs2, hix, hst, H2⟩ := exWriteN H ha0 .i64 (cells := [.str (mk 0), .str []]) rfl rfl
    rw [repP_set ha0] at H2
    have so := H.rdX.sOk
    have d0 : decide (((k : Nat) : Int) < ((La.length : Nat) : Int)) = true := decide_eq_true (by omega)
    repeat' first
      | simp -implicitDefEqProofs (disch := first | omega | decide | exact rfl | assumption | exact Nat.le_of_ble_eq_true rfl | exact One.c | exact One.o) only [vsA, vsB, eq_self, if_true, if_false, implies_true, false_implies, evp, HX.ev, Nat.reduceAdd, HOp.looks, Nat.reduceEqDiff, overw, Nat.reduceBEq, d0, hix, hst, so, bild, opC_some, vunit_sm, vadd1, ub26]
      | ((with_reducible show actK _ (HAct.call (HX.cst (HV.func (Fn.func 45) _ _)) _) _ _ _ _ _); refine vcall_of ok45 rfl (mark45 0 (by omega)) ?_; rintro _ _ ⟨rfl, rfl⟩)

    exact ⟨k + 1, _, by omega, by omega, (by (repeat first | exact Less.nil | refine Less.undef _ ?_ | refine Less.keep _ ?_)), Weak.refl _, H2⟩
  obtain rfl : k = La.length := by omega
  have d0 : decide (((La.length : Nat) : Int) < ((La.length : Nat) : Int)) = false := decide_eq_false (by omega)
  rw [List.drop_length, List.append_nil] at H
  first | have f0 := Sat.pf (H) | have f0 := trivial
  first | have f1 := Sat.pf (H.t) | have f1 := trivial
  first | have f2 := Sat.pf (H.t.t) | have f2 := trivial
  first | have f3 := Sat.pf (H.t.t.t) | have f3 := trivial
  first | have f4 := Sat.pf (H.t.t.t.t) | have f4 := trivial
  first | have f5 := Sat.pf (H.t.t.t.t.t) | have f5 := trivial
  first | have f6 := Sat.pf (H.t.t.t.t.t.t) | have f6 := trivial
  first | have f7 := Sat.pf (H.t.t.t.t.t.t.t) | have f7 := trivial
  first | have f8 := Sat.pf (H.t.t.t.t.t.t.t.t) | have f8 := trivial
  repeat' first
    | simp -implicitDefEqProofs (disch := first | omega | decide | exact rfl | assumption | exact Nat.le_of_ble_eq_true rfl | exact One.c | exact One.o) only [vsA, vsB, eq_self, if_true, if_false, implies_true, false_implies, evp, HX.ev, Nat.reduceAdd, HOp.looks, Nat.reduceEqDiff, overw, Nat.reduceBEq, d0, oa1, oa2, ob1, ob2, oc1, oc2, la, lb, lc, oy1, oy2, ly, e0, e1, e2, l0, l1, l2, z01, z12, z23, lr_succ, vadd1, bild, ub26, f0, f1, f2, f3, f4, f5, f6, f7, f8]
    | (refine condK_cases (fun h => ?_) (fun h => ?_) <;> (try simp only [h]) <;> (try simp only [athA, ne_eq] at h) <;> (try (exfalso; omega)))

  refine HW.loopA mixed (fun k : Nat => (a :: b :: c :: .undef :: .undef :: .undef :: .undef :: y :: .int .i64 1 :: b :: .undef :: .undef :: .undef :: .undef :: .undef :: .undef :: .undef :: .undef :: .undef :: .undef :: y :: .int .i64 ((3 : Nat) : Int) :: .int .i64 1 :: .undef :: .undef :: .undef :: .undef :: .undef :: .int .i64 (Lb.length : Nat) :: .int .i64 (k : Nat) :: .undef :: .undef :: .undef :: .undef :: .undef :: .undef :: .undef :: .undef :: .undef :: .undef :: .undef :: .undef :: .undef :: .undef :: .undef :: .undef :: .undef :: .undef :: .undef :: .undef :: .undef :: .undef :: .undef :: .undef :: .undef :: .undef :: .undef :: .undef :: .undef :: .undef :: .undef :: .undef :: .undef :: .undef :: .undef :: .undef :: .undef :: .undef :: .undef :: .undef :: .undef :: .undef :: .undef :: .undef :: .undef :: .undef :: .undef :: .undef :: .undef :: .undef :: .undef :: .undef :: .undef :: .undef :: .undef :: .undef :: .undef :: .undef :: .undef :: .undef :: .undef :: .undef :: .undef :: .undef :: .undef :: .undef :: .undef :: .undef :: .undef :: [])) (fun k => Ex 2 b Lb.length ((List.replicate k (mp 1) ++ Lb.drop k).flatMap prC) :: Ex 2 a La.length ((List.replicate (La.length) (mp 0)).flatMap prC) :: My 1 y 3 [a, b, c] :: Ex 2 c Lc.length (Lc.flatMap prC) :: l) (fun k => Lb.length - k) (fun k => k ≤ Lb.length) 0 (Nat.zero_le _) (by (repeat first | exact Less.nil | refine Less.undef _ ?_ | refine Less.keep _ ?_)) H.p3.p2.p2.p3 ?_
  clear H l0 l1 l2
  rintro k hs hk H
  have l0 := (Sat.rd (v := y) (by with_reducible first | exact H | exact H.p1 | exact H.p2 | exact H.p3 | exact H.p4 | exact H.p5 | exact H.p6 | exact H.p7 | exact H.p8)).ld1 (i := 0) e0 rfl
  have l1 := (Sat.rd (v := y) (by with_reducible first | exact H | exact H.p1 | exact H.p2 | exact H.p3 | exact H.p4 | exact H.p5 | exact H.p6 | exact H.p7 | exact H.p8)).ld1 (i := 1) e1 rfl
  have l2 := (Sat.rd (v := y) (by with_reducible first | exact H | exact H.p1 | exact H.p2 | exact H.p3 | exact H.p4 | exact H.p5 | exact H.p6 | exact H.p7 | exact H.p8)).ld1 (i := 2) e2 rfl
  by_cases hb1 : k < Lb.length
  · obtain ⟨p, hs2, hix, hst, H2⟩ := exWriteN H hb1 .i64 (cells := [.str (mk 1), .str []]) rfl rfl
    rw [repP_set hb1] at H2
    have so := H.rdX.sOk
    have d0 : decide (((k : Nat) : Int) < ((Lb.length : Nat) : Int)) = true := decide_eq_true (by omega)
    repeat' first
      | simp -implicitDefEqProofs (disch := first | omega | decide | exact rfl | assumption | exact Nat.le_of_ble_eq_true rfl | exact One.c | exact One.o) only [vsA, vsB, eq_self, if_true, if_false, implies_true, false_implies, evp, HX.ev, Nat.reduceAdd, HOp.looks, Nat.reduceEqDiff, overw, Nat.reduceBEq, d0, hix, hst, so, bild, opC_some, vunit_sm, vadd1, ub26]
      | ((with_reducible show actK _ (HAct.call (HX.cst (HV.func (Fn.func 45) _ _)) _) _ _ _ _ _); refine vcall_of ok45 rfl (mark45 1 (by omega)) ?_; rintro _ _ ⟨rfl, rfl⟩)

    exact ⟨k + 1, _, by omega, by omega, (by (repeat first | exact Less.nil | refine Less.undef _ ?_ | refine Less.keep _ ?_)), Weak.refl _, H2⟩
  obtain rfl : k = Lb.length := by omega
  have d0 : decide (((Lb.length : Nat) : Int) < ((Lb.length : Nat) : Int)) = false := decide_eq_false (by omega)
  rw [List.drop_length, List.append_nil] at H
  first | have f0 := Sat.pf (H) | have f0 := trivial
  first | have f1 := Sat.pf (H.t) | have f1 := trivial
  first | have f2 := Sat.pf (H.t.t) | have f2 := trivial
  first | have f3 := Sat.pf (H.t.t.t) | have f3 := trivial
  first | have f4 := Sat.pf (H.t.t.t.t) | have f4 := trivial
  first | have f5 := Sat.pf (H.t.t.t.t.t) | have f5 := trivial
  first | have f6 := Sat.pf (H.t.t.t.t.t.t) | have f6 := trivial
  first | have f7 := Sat.pf (H.t.t.t.t.t.t.t) | have f7 := trivial
  first | have f8 := Sat.pf (H.t.t.t.t.t.t.t.t) | have f8 := trivial
  repeat' first
    | simp -implicitDefEqProofs (disch := first | omega | decide | exact rfl | assumption | exact Nat.le_of_ble_eq_true rfl | exact One.c | exact One.o) only [vsA, vsB, eq_self, if_true, if_false, implies_true, false_implies, evp, HX.ev, Nat.reduceAdd, HOp.looks, Nat.reduceEqDiff, overw, Nat.reduceBEq, d0, oa1, oa2, ob1, ob2, oc1, oc2, la, lb, lc, oy1, oy2, ly, e0, e1, e2, l0, l1, l2, z01, z12, z23, lr_succ, vadd1, bild, ub26, f0, f1, f2, f3, f4, f5, f6, f7, f8]
    | (refine condK_cases (fun h => ?_) (fun h => ?_) <;> (try simp only [h]) <;> (try simp only [athA, ne_eq] at h) <;> (try (exfalso; omega)))

  refine HW.loopA mixed (fun k : Nat => (a :: b :: c :: .undef :: .undef :: .undef :: .undef :: y :: .int .i64 2 :: c :: .undef :: .undef :: .undef :: .undef :: .undef :: .undef :: .undef :: .undef :: .undef :: .undef :: y :: .int .i64 ((3 : Nat) : Int) :: .int .i64 2 :: .undef :: .undef :: .undef :: .undef :: .undef :: .int .i64 (Lc.length : Nat) :: .int .i64 (k : Nat) :: .undef :: .undef :: .undef :: .undef :: .undef :: .undef :: .undef :: .undef :: .undef :: .undef :: .undef :: .undef :: .undef :: .undef :: .undef :: .undef :: .undef :: .undef :: .undef :: .undef :: .undef :: .undef :: .undef :: .undef :: .undef :: .undef :: .undef :: .undef :: .undef :: .undef :: .undef :: .undef :: .undef :: .undef :: .undef :: .undef :: .undef :: .undef :: .undef :: .undef :: .undef :: .undef :: .undef :: .undef :: .undef :: .undef :: .undef :: .undef :: .undef :: .undef :: .undef :: .undef :: .undef :: .undef :: .undef :: .undef :: .undef :: .undef :: .undef :: .undef :: .undef :: .undef :: .undef :: .undef :: .undef :: .undef :: .undef :: .undef :: .undef :: [])) (fun k => Ex 2 c Lc.length ((List.replicate k (mp 2) ++ Lc.drop k).flatMap prC) :: Ex 2 b Lb.length ((List.replicate (Lb.length) (mp 1)).flatMap prC) :: Ex 2 a La.length ((List.replicate (La.length) (mp 0)).flatMap prC) :: My 1 y 3 [a, b, c] :: l) (fun k => Lc.length - k) (fun k => k ≤ Lc.length) 0 (Nat.zero_le _) (by (repeat first | exact Less.nil | refine Less.undef _ ?_ | refine Less.keep _ ?_)) H.p2.p2.p2.p3 ?_
  clear H l0 l1 l2
  rintro k hs hk H
  have l0 := (Sat.rd (v := y) (by with_reducible first | exact H | exact H.p1 | exact H.p2 | exact H.p3 | exact H.p4 | exact H.p5 | exact H.p6 | exact H.p7 | exact H.p8)).ld1 (i := 0) e0 rfl
  have l1 := (Sat.rd (v := y) (by with_reducible first | exact H | exact H.p1 | exact H.p2 | exact H.p3 | exact H.p4 | exact H.p5 | exact H.p6 | exact H.p7 | exact H.p8)).ld1 (i := 1) e1 rfl
  have l2 := (Sat.rd (v := y) (by with_reducible first | exact H | exact H.p1 | exact H.p2 | exact H.p3 | exact H.p4 | exact H.p5 | exact H.p6 | exact H.p7 | exact H.p8)).ld1 (i := 2) e2 rfl
  by_cases hc2 : k < Lc.length
  · obtain ⟨p, hs2, hix, hst, H2⟩ := exWriteN H hc2 .i64 (cells := [.str (mk 2), .str []]) rfl rfl
    rw [repP_set hc2] at H2
    have so := H.rdX.sOk
    have d0 : decide (((k : Nat) : Int) < ((Lc.length : Nat) : Int)) = true := decide_eq_true (by omega)
    repeat' first
      | simp -implicitDefEqProofs (disch := first | omega | decide | exact rfl | assumption | exact Nat.le_of_ble_eq_true rfl | exact One.c | exact One.o) only [vsA, vsB, eq_self, if_true, if_false, implies_true, false_implies, evp, HX.ev, Nat.reduceAdd, HOp.looks, Nat.reduceEqDiff, overw, Nat.reduceBEq, d0, hix, hst, so, bild, opC_some, vunit_sm, vadd1, ub26]
      | ((with_reducible show actK _ (HAct.call (HX.cst (HV.func (Fn.func 45) _ _)) _) _ _ _ _ _); refine vcall_of ok45 rfl (mark45 2 (by omega)) ?_; rintro _ _ ⟨rfl, rfl⟩)

    exact ⟨k + 1, _, by omega, by omega, (by (repeat first | exact Less.nil | refine Less.undef _ ?_ | refine Less.keep _ ?_)), Weak.refl _, H2⟩
  obtain rfl : k = Lc.length := by omega
  have d0 : decide (((Lc.length : Nat) : Int) < ((Lc.length : Nat) : Int)) = false := decide_eq_false (by omega)
  rw [List.drop_length, List.append_nil] at H
  first | have f0 := Sat.pf (H) | have f0 := trivial
  first | have f1 := Sat.pf (H.t) | have f1 := trivial
  first | have f2 := Sat.pf (H.t.t) | have f2 := trivial
  first | have f3 := Sat.pf (H.t.t.t) | have f3 := trivial
  first | have f4 := Sat.pf (H.t.t.t.t) | have f4 := trivial
  first | have f5 := Sat.pf (H.t.t.t.t.t) | have f5 := trivial
  first | have f6 := Sat.pf (H.t.t.t.t.t.t) | have f6 := trivial
  first | have f7 := Sat.pf (H.t.t.t.t.t.t.t) | have f7 := trivial
  first | have f8 := Sat.pf (H.t.t.t.t.t.t.t.t) | have f8 := trivial
  repeat' first
    | simp -implicitDefEqProofs (disch := first | omega | decide | exact rfl | assumption | exact Nat.le_of_ble_eq_true rfl | exact One.c | exact One.o) only [vsA, vsB, eq_self, if_true, if_false, implies_true, false_implies, evp, HX.ev, Nat.reduceAdd, HOp.looks, Nat.reduceEqDiff, overw, Nat.reduceBEq, d0, oa1, oa2, ob1, ob2, oc1, oc2, la, lb, lc, oy1, oy2, ly, e0, e1, e2, l0, l1, l2, z01, z12, z23, lr_succ, vadd1, bild, ub26, f0, f1, f2, f3, f4, f5, f6, f7, f8]
    | (refine condK_cases (fun h => ?_) (fun h => ?_) <;> (try simp only [h]) <;> (try simp only [athA, ne_eq] at h) <;> (try (exfalso; omega)))

  refine HW.rounds mixed 4 ?_
  first | have f0 := Sat.pf (H) | have f0 := trivial
  first | have f1 := Sat.pf (H.t) | have f1 := trivial
  first | have f2 := Sat.pf (H.t.t) | have f2 := trivial
  first | have f3 := Sat.pf (H.t.t.t) | have f3 := trivial
  first | have f4 := Sat.pf (H.t.t.t.t) | have f4 := trivial
  first | have f5 := Sat.pf (H.t.t.t.t.t) | have f5 := trivial
  first | have f6 := Sat.pf (H.t.t.t.t.t.t) | have f6 := trivial
  first | have f7 := Sat.pf (H.t.t.t.t.t.t.t) | have f7 := trivial
  first | have f8 := Sat.pf (H.t.t.t.t.t.t.t.t) | have f8 := trivial
  repeat' first
    | simp -implicitDefEqProofs (disch := first | omega | decide | exact rfl | assumption | exact Nat.le_of_ble_eq_true rfl | exact One.c | exact One.o) only [vsA, vsB, eq_self, if_true, if_false, implies_true, false_implies, evp, HX.ev, Nat.reduceAdd, HOp.looks, Nat.reduceEqDiff, overw, Nat.reduceBEq, d0, oa1, oa2, ob1, ob2, oc1, oc2, la, lb, lc, oy1, oy2, ly, e0, e1, e2, l0, l1, l2, z01, z12, z23, lr_succ, vadd1, bild, ub26, f0, f1, f2, f3, f4, f5, f6, f7, f8]
    | (refine condK_cases (fun h => ?_) (fun h => ?_) <;> (try simp only [h]) <;> (try simp only [athA, ne_eq] at h) <;> (try (exfalso; omega)))

  have Hx := H.p1.p1.p3.p3
  refine HW.loopA mixed (fun t : Nat × HV => (a :: b :: c :: .undef :: .undef :: .undef :: .undef :: y :: .undef :: .undef :: .undef :: .int .i64 0 :: .undef :: .undef :: .undef :: .undef :: .undef :: .undef :: .undef :: .undef :: .undef :: .undef :: .undef :: .undef :: .undef :: .undef :: .undef :: .undef :: .undef :: .undef :: .undef :: .undef :: .undef :: .undef :: .undef :: .undef :: .undef :: .undef :: .undef :: .undef :: .undef :: .int .i64 ((3 : Nat) : Int) :: .int .i64 0 :: .undef :: .undef :: .int .i64 (t.1 : Nat) :: .undef :: .undef :: .undef :: .undef :: .undef :: .undef :: .undef :: .undef :: .undef :: .undef :: .undef :: .undef :: .undef :: .undef :: .undef :: .undef :: .undef :: .undef :: .undef :: .undef :: .undef :: .undef :: .undef :: .undef :: .undef :: .undef :: .undef :: .undef :: .undef :: .undef :: .undef :: .undef :: .undef :: .undef :: .undef :: .undef :: .undef :: .undef :: .undef :: .undef :: .undef :: .undef :: .undef :: .undef :: .undef :: .undef :: .undef :: .undef :: .undef :: .undef :: .undef :: .undef :: .undef :: [])) (fun t => GsK 2 t.1 a t.2 La.length (La.length + t.1) ((List.replicate (La.length) (mp 0)).flatMap prC) ((List.replicate (La.length + t.1) (mp 0)).flatMap prC) :: My 1 y 3 [t.2, b, c] :: Ex 2 c Lc.length ((List.replicate (Lc.length) (mp 2)).flatMap prC) :: Ex 2 b Lb.length ((List.replicate (Lb.length) (mp 1)).flatMap prC) :: l) (fun t => 20 - t.1) (fun t => t.1 ≤ 20) (0, a) (Nat.zero_le _) (by (repeat first | exact Less.nil | refine Less.undef _ ?_ | refine Less.keep _ ?_)) (gsk_start Hx) ?_
  clear H Hx l0 l1 l2
  rintro ⟨k, va⟩ hs hk H
  simp only at hk H
  have ly := (Sat.rd (v := y) (by with_reducible first | exact H | exact H.p1 | exact H.p2 | exact H.p3 | exact H.p4 | exact H.p5 | exact H.p6 | exact H.p7 | exact H.p8)).len
  have l0 := (Sat.rd (v := y) (by with_reducible first | exact H | exact H.p1 | exact H.p2 | exact H.p3 | exact H.p4 | exact H.p5 | exact H.p6 | exact H.p7 | exact H.p8)).ld1 (i := 0) e0 rfl
  have l1 := (Sat.rd (v := y) (by with_reducible first | exact H | exact H.p1 | exact H.p2 | exact H.p3 | exact H.p4 | exact H.p5 | exact H.p6 | exact H.p7 | exact H.p8)).ld1 (i := 1) e1 rfl
  have l2 := (Sat.rd (v := y) (by with_reducible first | exact H | exact H.p1 | exact H.p2 | exact H.p3 | exact H.p4 | exact H.p5 | exact H.p6 | exact H.p7 | exact H.p8)).ld1 (i := 2) e2 rfl
  have ov1 := (gsk_one H).1
  have ov2 := (gsk_one H).2
  by_cases h2a : k < 20
  · have d0 : decide (((k : Nat) : Int) < 20) = true := decide_eq_true (by omega)
    have oz1 := True.intro
    have oz2 := True.intro
    first | have f0 := Sat.pf (H) | have f0 := trivial
    first | have f1 := Sat.pf (H.t) | have f1 := trivial
    first | have f2 := Sat.pf (H.t.t) | have f2 := trivial
    first | have f3 := Sat.pf (H.t.t.t) | have f3 := trivial
    first | have f4 := Sat.pf (H.t.t.t.t) | have f4 := trivial
    first | have f5 := Sat.pf (H.t.t.t.t.t) | have f5 := trivial
    first | have f6 := Sat.pf (H.t.t.t.t.t.t) | have f6 := trivial
    first | have f7 := Sat.pf (H.t.t.t.t.t.t.t) | have f7 := trivial
    first | have f8 := Sat.pf (H.t.t.t.t.t.t.t.t) | have f8 := trivial
    repeat' first
      | ((with_reducible show Need _); refine need_of ?_; (first | have f0 := Sat.pf (H) | have f0 := trivial); (first | have f1 := Sat.pf (H.t) | have f1 := trivial); (first | have f2 := Sat.pf (H.t.t) | have f2 := trivial); (first | have f3 := Sat.pf (H.t.t.t) | have f3 := trivial); (first | have f4 := Sat.pf (H.t.t.t.t) | have f4 := trivial); (first | have f5 := Sat.pf (H.t.t.t.t.t) | have f5 := trivial); (first | have f6 := Sat.pf (H.t.t.t.t.t.t) | have f6 := trivial); (first | have f7 := Sat.pf (H.t.t.t.t.t.t.t) | have f7 := trivial); (first | have f8 := Sat.pf (H.t.t.t.t.t.t.t.t) | have f8 := trivial); (first | have l0 := (Sat.rd (v := y) (by with_reducible first | exact H | exact H.p1 | exact H.p2 | exact H.p3 | exact H.p4 | exact H.p5 | exact H.p6 | exact H.p7 | exact H.p8)).ld1 (i := 0) e0 rfl | skip); (first | have l1 := (Sat.rd (v := y) (by with_reducible first | exact H | exact H.p1 | exact H.p2 | exact H.p3 | exact H.p4 | exact H.p5 | exact H.p6 | exact H.p7 | exact H.p8)).ld1 (i := 1) e1 rfl | skip); (first | have l2 := (Sat.rd (v := y) (by with_reducible first | exact H | exact H.p1 | exact H.p2 | exact H.p3 | exact H.p4 | exact H.p5 | exact H.p6 | exact H.p7 | exact H.p8)).ld1 (i := 2) e2 rfl | skip))
      | simp -implicitDefEqProofs (disch := first | omega | decide | exact rfl | assumption | exact Nat.le_of_ble_eq_true rfl | exact One.c | exact One.o) only [vsA, vsB, eq_self, if_true, if_false, implies_true, false_implies, evp, HX.ev, Nat.reduceAdd, HOp.looks, Nat.reduceEqDiff, overw, Nat.reduceBEq, d0, oa1, oa2, ob1, ob2, oc1, oc2, la, lb, lc, oy1, oy2, ly, e0, e1, e2, l0, l1, l2, z01, z12, z23, lr_succ, vadd1, bild, ov1, ov2, oz1, oz2, vadd1, ub26, f0, f1, f2, f3, f4, f5, f6, f7, f8]
      | ((with_reducible show drK _ _ _ _ _ _ _ _ _ (some ⟨_, HAct.call (HX.cst (HV.func (Fn.func 45) _ _)) _, none⟩)); refine vdr_call ok45 rfl (mark45 0 (by omega)) ?_; rintro _ _ ⟨rfl, rfl⟩)
      | refine opC_D ?_
      | ((with_reducible show opC (hbuildSlice _ _ _ _ _) _); refine sl_bslice H rfl rfl (by omega) fil2 rfl ?_; clear H f0 f1 f2 f3 f4 f5 f6 f7 f8; intro y9 hs H hy; have T := hy.take; refine need ?_)
      | ((with_reducible show opC (happend _ _ _ _ _) _); refine sl_growS (m := La.length + k) (by with_reducible first | exact H | exact H.p1 | exact H.p2 | exact H.p3 | exact H.p4 | exact H.p5 | exact H.p6 | exact H.p7 | exact H.p8) T (by first | exact roomFor_of (by omega) | exact roomFor_wide (by omega)) (by omega) ?_; clear H f0 f1 f2 f3 f4 f5 f6 f7 f8; intro vn hs H; have oz1 := (gsk_one H).1; have oz2 := (gsk_one H).2; refine need ?_)
      | (refine sl_setM (i := 0) (by with_reducible first | exact H | exact H.p1 | exact H.p2 | exact H.p3 | exact H.p4 | exact H.p5 | exact H.p6 | exact H.p7 | exact H.p8) e0 (by omega) (by first | exact rfl | (simp only [f0, f1, f2, f3, f4, f5, f6, f7, f8]; done) | (simp only [onA, *]; done)) (by first | exact rfl | (simp only [f0, f1, f2, f3, f4, f5, f6, f7, f8]; done) | (simp only [onA, *]; done)) ?_; intro _; clear H f0 f1 f2 f3 f4 f5 f6 f7 f8; intro hs H; refine need ?_)
      | refine hwp_draw mixed rfl ?_

    rw [repP_snoc] at H
    exact ⟨(k + 1, vn), _, by simp only; omega, by simp only; omega, (by (repeat first | exact Less.nil | refine Less.undef _ ?_ | refine Less.keep _ ?_)), Weak.refl _, H.p1⟩
  obtain rfl : k = 20 := by omega
  have d0 : decide (((20 : Nat) : Int) < 20) = false := by decide
  first | have f0 := Sat.pf (H) | have f0 := trivial
  first | have f1 := Sat.pf (H.t) | have f1 := trivial
  first | have f2 := Sat.pf (H.t.t) | have f2 := trivial
  first | have f3 := Sat.pf (H.t.t.t) | have f3 := trivial
  first | have f4 := Sat.pf (H.t.t.t.t) | have f4 := trivial
  first | have f5 := Sat.pf (H.t.t.t.t.t) | have f5 := trivial
  first | have f6 := Sat.pf (H.t.t.t.t.t.t) | have f6 := trivial
  first | have f7 := Sat.pf (H.t.t.t.t.t.t.t) | have f7 := trivial
  first | have f8 := Sat.pf (H.t.t.t.t.t.t.t.t) | have f8 := trivial
  repeat' first
    | simp -implicitDefEqProofs (disch := first | omega | decide | exact rfl | assumption | exact Nat.le_of_ble_eq_true rfl | exact One.c | exact One.o) only [vsA, vsB, eq_self, if_true, if_false, implies_true, false_implies, evp, HX.ev, Nat.reduceAdd, HOp.looks, Nat.reduceEqDiff, overw, Nat.reduceBEq, d0, oa1, oa2, ob1, ob2, oc1, oc2, la, lb, lc, oy1, oy2, ly, e0, e1, e2, l0, l1, l2, z01, z12, z23, lr_succ, vadd1, bild, ub26, f0, f1, f2, f3, f4, f5, f6, f7, f8]
    | (refine condK_cases (fun h => ?_) (fun h => ?_) <;> (try simp only [h]) <;> (try simp only [athA, ne_eq] at h) <;> (try (exfalso; omega)))

  have Hx := H.p2.p1.p2.p3
  refine HW.loopA mixed (fun t : Nat × HV => (a :: b :: c :: .undef :: .undef :: .undef :: .undef :: y :: .undef :: .undef :: .undef :: .int .i64 1 :: .undef :: .undef :: .undef :: .undef :: .undef :: .undef :: .undef :: .undef :: .undef :: .undef :: .undef :: .undef :: .undef :: .undef :: .undef :: .undef :: .undef :: .undef :: .undef :: .undef :: .undef :: .undef :: .undef :: .undef :: .undef :: .undef :: .undef :: .undef :: .undef :: .int .i64 ((3 : Nat) : Int) :: .int .i64 1 :: .undef :: .undef :: .int .i64 (t.1 : Nat) :: .undef :: .undef :: .undef :: .undef :: .undef :: .undef :: .undef :: .undef :: .undef :: .undef :: .undef :: .undef :: .undef :: .undef :: .undef :: .undef :: .undef :: .undef :: .undef :: .undef :: .undef :: .undef :: .undef :: .undef :: .undef :: .undef :: .undef :: .undef :: .undef :: .undef :: .undef :: .undef :: .undef :: .undef :: .undef :: .undef :: .undef :: .undef :: .undef :: .undef :: .undef :: .undef :: .undef :: .undef :: .undef :: .undef :: .undef :: .undef :: .undef :: .undef :: .undef :: .undef :: .undef :: [])) (fun t => GsK 2 t.1 b t.2 Lb.length (Lb.length + t.1) ((List.replicate (Lb.length) (mp 1)).flatMap prC) ((List.replicate (Lb.length + t.1) (mp 1)).flatMap prC) :: My 1 y 3 [va, t.2, c] :: GsK 2 20 a va La.length (La.length + 20) ((List.replicate (La.length) (mp 0)).flatMap prC) ((List.replicate (La.length + 20) (mp 0)).flatMap prC) :: Ex 2 c Lc.length ((List.replicate (Lc.length) (mp 2)).flatMap prC) :: l) (fun t => 20 - t.1) (fun t => t.1 ≤ 20) (0, b) (Nat.zero_le _) (by (repeat first | exact Less.nil | refine Less.undef _ ?_ | refine Less.keep _ ?_)) (gsk_start Hx) ?_
  clear H Hx l0 l1 l2
  rintro ⟨k, vb⟩ hs hk H
  simp only at hk H
  have ly := (Sat.rd (v := y) (by with_reducible first | exact H | exact H.p1 | exact H.p2 | exact H.p3 | exact H.p4 | exact H.p5 | exact H.p6 | exact H.p7 | exact H.p8)).len
  have l0 := (Sat.rd (v := y) (by with_reducible first | exact H | exact H.p1 | exact H.p2 | exact H.p3 | exact H.p4 | exact H.p5 | exact H.p6 | exact H.p7 | exact H.p8)).ld1 (i := 0) e0 rfl
  have l1 := (Sat.rd (v := y) (by with_reducible first | exact H | exact H.p1 | exact H.p2 | exact H.p3 | exact H.p4 | exact H.p5 | exact H.p6 | exact H.p7 | exact H.p8)).ld1 (i := 1) e1 rfl
  have l2 := (Sat.rd (v := y) (by with_reducible first | exact H | exact H.p1 | exact H.p2 | exact H.p3 | exact H.p4 | exact H.p5 | exact H.p6 | exact H.p7 | exact H.p8)).ld1 (i := 2) e2 rfl
  have ov1 := (gsk_one H).1
  have ov2 := (gsk_one H).2
  by_cases h2b : k < 20
  · have d0 : decide (((k : Nat) : Int) < 20) = true := decide_eq_true (by omega)
    have oz1 := True.intro
    have oz2 := True.intro
    first | have f0 := Sat.pf (H) | have f0 := trivial
    first | have f1 := Sat.pf (H.t) | have f1 := trivial
    first | have f2 := Sat.pf (H.t.t) | have f2 := trivial
    first | have f3 := Sat.pf (H.t.t.t) | have f3 := trivial
    first | have f4 := Sat.pf (H.t.t.t.t) | have f4 := trivial
    first | have f5 := Sat.pf (H.t.t.t.t.t) | have f5 := trivial
    first | have f6 := Sat.pf (H.t.t.t.t.t.t) | have f6 := trivial
    first | have f7 := Sat.pf (H.t.t.t.t.t.t.t) | have f7 := trivial
    first | have f8 := Sat.pf (H.t.t.t.t.t.t.t.t) | have f8 := trivial
    repeat' first
      | ((with_reducible show Need _); refine need_of ?_; (first | have f0 := Sat.pf (H) | have f0 := trivial); (first | have f1 := Sat.pf (H.t) | have f1 := trivial); (first | have f2 := Sat.pf (H.t.t) | have f2 := trivial); (first | have f3 := Sat.pf (H.t.t.t) | have f3 := trivial); (first | have f4 := Sat.pf (H.t.t.t.t) | have f4 := trivial); (first | have f5 := Sat.pf (H.t.t.t.t.t) | have f5 := trivial); (first | have f6 := Sat.pf (H.t.t.t.t.t.t) | have f6 := trivial); (first | have f7 := Sat.pf (H.t.t.t.t.t.t.t) | have f7 := trivial); (first | have f8 := Sat.pf (H.t.t.t.t.t.t.t.t) | have f8 := trivial); (first | have l0 := (Sat.rd (v := y) (by with_reducible first | exact H | exact H.p1 | exact H.p2 | exact H.p3 | exact H.p4 | exact H.p5 | exact H.p6 | exact H.p7 | exact H.p8)).ld1 (i := 0) e0 rfl | skip); (first | have l1 := (Sat.rd (v := y) (by with_reducible first | exact H | exact H.p1 | exact H.p2 | exact H.p3 | exact H.p4 | exact H.p5 | exact H.p6 | exact H.p7 | exact H.p8)).ld1 (i := 1) e1 rfl | skip); (first | have l2 := (Sat.rd (v := y) (by with_reducible first | exact H | exact H.p1 | exact H.p2 | exact H.p3 | exact H.p4 | exact H.p5 | exact H.p6 | exact H.p7 | exact H.p8)).ld1 (i := 2) e2 rfl | skip))
      | simp -implicitDefEqProofs (disch := first | omega | decide | exact rfl | assumption | exact Nat.le_of_ble_eq_true rfl | exact One.c | exact One.o) only [vsA, vsB, eq_self, if_true, if_false, implies_true, false_implies, evp, HX.ev, Nat.reduceAdd, HOp.looks, Nat.reduceEqDiff, overw, Nat.reduceBEq, d0, oa1, oa2, ob1, ob2, oc1, oc2, la, lb, lc, oy1, oy2, ly, e0, e1, e2, l0, l1, l2, z01, z12, z23, lr_succ, vadd1, bild, ov1, ov2, oz1, oz2, vadd1, ub26, f0, f1, f2, f3, f4, f5, f6, f7, f8]
      | ((with_reducible show drK _ _ _ _ _ _ _ _ _ (some ⟨_, HAct.call (HX.cst (HV.func (Fn.func 45) _ _)) _, none⟩)); refine vdr_call ok45 rfl (mark45 1 (by omega)) ?_; rintro _ _ ⟨rfl, rfl⟩)
      | refine opC_D ?_
      | ((with_reducible show opC (hbuildSlice _ _ _ _ _) _); refine sl_bslice H rfl rfl (by omega) fil2 rfl ?_; clear H f0 f1 f2 f3 f4 f5 f6 f7 f8; intro y9 hs H hy; have T := hy.take; refine need ?_)
      | ((with_reducible show opC (happend _ _ _ _ _) _); refine sl_growS (m := Lb.length + k) (by with_reducible first | exact H | exact H.p1 | exact H.p2 | exact H.p3 | exact H.p4 | exact H.p5 | exact H.p6 | exact H.p7 | exact H.p8) T (by first | exact roomFor_of (by omega) | exact roomFor_wide (by omega)) (by omega) ?_; clear H f0 f1 f2 f3 f4 f5 f6 f7 f8; intro vn hs H; have oz1 := (gsk_one H).1; have oz2 := (gsk_one H).2; refine need ?_)
      | (refine sl_setM (i := 1) (by with_reducible first | exact H | exact H.p1 | exact H.p2 | exact H.p3 | exact H.p4 | exact H.p5 | exact H.p6 | exact H.p7 | exact H.p8) e1 (by omega) (by first | exact rfl | (simp only [f0, f1, f2, f3, f4, f5, f6, f7, f8]; done) | (simp only [onA, *]; done)) (by first | exact rfl | (simp only [f0, f1, f2, f3, f4, f5, f6, f7, f8]; done) | (simp only [onA, *]; done)) ?_; intro _; clear H f0 f1 f2 f3 f4 f5 f6 f7 f8; intro hs H; refine need ?_)
      | refine hwp_draw mixed rfl ?_

    rw [repP_snoc] at H
    exact ⟨(k + 1, vn), _, by simp only; omega, by simp only; omega, (by (repeat first | exact Less.nil | refine Less.undef _ ?_ | refine Less.keep _ ?_)), Weak.refl _, H.p1⟩
  obtain rfl : k = 20 := by omega
  have d0 : decide (((20 : Nat) : Int) < 20) = false := by decide
  first | have f0 := Sat.pf (H) | have f0 := trivial
  first | have f1 := Sat.pf (H.t) | have f1 := trivial
  first | have f2 := Sat.pf (H.t.t) | have f2 := trivial
  first | have f3 := Sat.pf (H.t.t.t) | have f3 := trivial
  first | have f4 := Sat.pf (H.t.t.t.t) | have f4 := trivial
  first | have f5 := Sat.pf (H.t.t.t.t.t) | have f5 := trivial
  first | have f6 := Sat.pf (H.t.t.t.t.t.t) | have f6 := trivial
  first | have f7 := Sat.pf (H.t.t.t.t.t.t.t) | have f7 := trivial
  first | have f8 := Sat.pf (H.t.t.t.t.t.t.t.t) | have f8 := trivial
  repeat' first
    | simp -implicitDefEqProofs (disch := first | omega | decide | exact rfl | assumption | exact Nat.le_of_ble_eq_true rfl | exact One.c | exact One.o) only [vsA, vsB, eq_self, if_true, if_false, implies_true, false_implies, evp, HX.ev, Nat.reduceAdd, HOp.looks, Nat.reduceEqDiff, overw, Nat.reduceBEq, d0, oa1, oa2, ob1, ob2, oc1, oc2, la, lb, lc, oy1, oy2, ly, e0, e1, e2, l0, l1, l2, z01, z12, z23, lr_succ, vadd1, bild, ub26, f0, f1, f2, f3, f4, f5, f6, f7, f8]
    | (refine condK_cases (fun h => ?_) (fun h => ?_) <;> (try simp only [h]) <;> (try simp only [athA, ne_eq] at h) <;> (try (exfalso; omega)))

  have Hx := H.p2.p1.p2.p3
  refine HW.loopA mixed (fun t : Nat × HV => (a :: b :: c :: .undef :: .undef :: .undef :: .undef :: y :: .undef :: .undef :: .undef :: .int .i64 2 :: .undef :: .undef :: .undef :: .undef :: .undef :: .undef :: .undef :: .undef :: .undef :: .undef :: .undef :: .undef :: .undef :: .undef :: .undef :: .undef :: .undef :: .undef :: .undef :: .undef :: .undef :: .undef :: .undef :: .undef :: .undef :: .undef :: .undef :: .undef :: .undef :: .int .i64 ((3 : Nat) : Int) :: .int .i64 2 :: .undef :: .undef :: .int .i64 (t.1 : Nat) :: .undef :: .undef :: .undef :: .undef :: .undef :: .undef :: .undef :: .undef :: .undef :: .undef :: .undef :: .undef :: .undef :: .undef :: .undef :: .undef :: .undef :: .undef :: .undef :: .undef :: .undef :: .undef :: .undef :: .undef :: .undef :: .undef :: .undef :: .undef :: .undef :: .undef :: .undef :: .undef :: .undef :: .undef :: .undef :: .undef :: .undef :: .undef :: .undef :: .undef :: .undef :: .undef :: .undef :: .undef :: .undef :: .undef :: .undef :: .undef :: .undef :: .undef :: .undef :: .undef :: .undef :: [])) (fun t => GsK 2 t.1 c t.2 Lc.length (Lc.length + t.1) ((List.replicate (Lc.length) (mp 2)).flatMap prC) ((List.replicate (Lc.length + t.1) (mp 2)).flatMap prC) :: My 1 y 3 [va, vb, t.2] :: GsK 2 20 b vb Lb.length (Lb.length + 20) ((List.replicate (Lb.length) (mp 1)).flatMap prC) ((List.replicate (Lb.length + 20) (mp 1)).flatMap prC) :: GsK 2 20 a va La.length (La.length + 20) ((List.replicate (La.length) (mp 0)).flatMap prC) ((List.replicate (La.length + 20) (mp 0)).flatMap prC) :: l) (fun t => 20 - t.1) (fun t => t.1 ≤ 20) (0, c) (Nat.zero_le _) (by (repeat first | exact Less.nil | refine Less.undef _ ?_ | refine Less.keep _ ?_)) (gsk_start Hx) ?_
  clear H Hx l0 l1 l2
  rintro ⟨k, vc⟩ hs hk H
  simp only at hk H
  have ly := (Sat.rd (v := y) (by with_reducible first | exact H | exact H.p1 | exact H.p2 | exact H.p3 | exact H.p4 | exact H.p5 | exact H.p6 | exact H.p7 | exact H.p8)).len
  have l0 := (Sat.rd (v := y) (by with_reducible first | exact H | exact H.p1 | exact H.p2 | exact H.p3 | exact H.p4 | exact H.p5 | exact H.p6 | exact H.p7 | exact H.p8)).ld1 (i := 0) e0 rfl
  have l1 := (Sat.rd (v := y) (by with_reducible first | exact H | exact H.p1 | exact H.p2 | exact H.p3 | exact H.p4 | exact H.p5 | exact H.p6 | exact H.p7 | exact H.p8)).ld1 (i := 1) e1 rfl
  have l2 := (Sat.rd (v := y) (by with_reducible first | exact H | exact H.p1 | exact H.p2 | exact H.p3 | exact H.p4 | exact H.p5 | exact H.p6 | exact H.p7 | exact H.p8)).ld1 (i := 2) e2 rfl
  have ov1 := (gsk_one H).1
  have ov2 := (gsk_one H).2
  by_cases h2c : k < 20
  · have d0 : decide (((k : Nat) : Int) < 20) = true := decide_eq_true (by omega)
    have oz1 := True.intro
    have oz2 := True.intro
    first | have f0 := Sat.pf (H) | have f0 := trivial
    first | have f1 := Sat.pf (H.t) | have f1 := trivial
    first | have f2 := Sat.pf (H.t.t) | have f2 := trivial
    first | have f3 := Sat.pf (H.t.t.t) | have f3 := trivial
    first | have f4 := Sat.pf (H.t.t.t.t) | have f4 := trivial
    first | have f5 := Sat.pf (H.t.t.t.t.t) | have f5 := trivial
    first | have f6 := Sat.pf (H.t.t.t.t.t.t) | have f6 := trivial
    first | have f7 := Sat.pf (H.t.t.t.t.t.t.t) | have f7 := trivial
    first | have f8 := Sat.pf (H.t.t.t.t.t.t.t.t) | have f8 := trivial
    repeat' first
      | ((with_reducible show Need _); refine need_of ?_; (first | have f0 := Sat.pf (H) | have f0 := trivial); (first | have f1 := Sat.pf (H.t) | have f1 := trivial); (first | have f2 := Sat.pf (H.t.t) | have f2 := trivial); (first | have f3 := Sat.pf (H.t.t.t) | have f3 := trivial); (first | have f4 := Sat.pf (H.t.t.t.t) | have f4 := trivial); (first | have f5 := Sat.pf (H.t.t.t.t.t) | have f5 := trivial); (first | have f6 := Sat.pf (H.t.t.t.t.t.t) | have f6 := trivial); (first | have f7 := Sat.pf (H.t.t.t.t.t.t.t) | have f7 := trivial); (first | have f8 := Sat.pf (H.t.t.t.t.t.t.t.t) | have f8 := trivial); (first | have l0 := (Sat.rd (v := y) (by with_reducible first | exact H | exact H.p1 | exact H.p2 | exact H.p3 | exact H.p4 | exact H.p5 | exact H.p6 | exact H.p7 | exact H.p8)).ld1 (i := 0) e0 rfl | skip); (first | have l1 := (Sat.rd (v := y) (by with_reducible first | exact H | exact H.p1 | exact H.p2 | exact H.p3 | exact H.p4 | exact H.p5 | exact H.p6 | exact H.p7 | exact H.p8)).ld1 (i := 1) e1 rfl | skip); (first | have l2 := (Sat.rd (v := y) (by with_reducible first | exact H | exact H.p1 | exact H.p2 | exact H.p3 | exact H.p4 | exact H.p5 | exact H.p6 | exact H.p7 | exact H.p8)).ld1 (i := 2) e2 rfl | skip))
      | simp -implicitDefEqProofs (disch := first | omega | decide | exact rfl | assumption | exact Nat.le_of_ble_eq_true rfl | exact One.c | exact One.o) only [vsA, vsB, eq_self, if_true, if_false, implies_true, false_implies, evp, HX.ev, Nat.reduceAdd, HOp.looks, Nat.reduceEqDiff, overw, Nat.reduceBEq, d0, oa1, oa2, ob1, ob2, oc1, oc2, la, lb, lc, oy1, oy2, ly, e0, e1, e2, l0, l1, l2, z01, z12, z23, lr_succ, vadd1, bild, ov1, ov2, oz1, oz2, vadd1, ub26, f0, f1, f2, f3, f4, f5, f6, f7, f8]
      | ((with_reducible show drK _ _ _ _ _ _ _ _ _ (some ⟨_, HAct.call (HX.cst (HV.func (Fn.func 45) _ _)) _, none⟩)); refine vdr_call ok45 rfl (mark45 2 (by omega)) ?_; rintro _ _ ⟨rfl, rfl⟩)
      | refine opC_D ?_
      | ((with_reducible show opC (hbuildSlice _ _ _ _ _) _); refine sl_bslice H rfl rfl (by omega) fil2 rfl ?_; clear H f0 f1 f2 f3 f4 f5 f6 f7 f8; intro y9 hs H hy; have T := hy.take; refine need ?_)
      | ((with_reducible show opC (happend _ _ _ _ _) _); refine sl_growS (m := Lc.length + k) (by with_reducible first | exact H | exact H.p1 | exact H.p2 | exact H.p3 | exact H.p4 | exact H.p5 | exact H.p6 | exact H.p7 | exact H.p8) T (by first | exact roomFor_of (by omega) | exact roomFor_wide (by omega)) (by omega) ?_; clear H f0 f1 f2 f3 f4 f5 f6 f7 f8; intro vn hs H; have oz1 := (gsk_one H).1; have oz2 := (gsk_one H).2; refine need ?_)
      | (refine sl_setM (i := 2) (by with_reducible first | exact H | exact H.p1 | exact H.p2 | exact H.p3 | exact H.p4 | exact H.p5 | exact H.p6 | exact H.p7 | exact H.p8) e2 (by omega) (by first | exact rfl | (simp only [f0, f1, f2, f3, f4, f5, f6, f7, f8]; done) | (simp only [onA, *]; done)) (by first | exact rfl | (simp only [f0, f1, f2, f3, f4, f5, f6, f7, f8]; done) | (simp only [onA, *]; done)) ?_; intro _; clear H f0 f1 f2 f3 f4 f5 f6 f7 f8; intro hs H; refine need ?_)
      | refine hwp_draw mixed rfl ?_

    rw [repP_snoc] at H
    exact ⟨(k + 1, vn), _, by simp only; omega, by simp only; omega, (by (repeat first | exact Less.nil | refine Less.undef _ ?_ | refine Less.keep _ ?_)), Weak.refl _, H.p1⟩
  obtain rfl : k = 20 := by omega
  have d0 : decide (((20 : Nat) : Int) < 20) = false := by decide
  have ova1 := (gsk_one (v := va) (by with_reducible first | exact H | exact H.p1 | exact H.p2 | exact H.p3 | exact H.p4 | exact H.p5 | exact H.p6 | exact H.p7 | exact H.p8)).1
  have ova2 := (gsk_one (v := va) (by with_reducible first | exact H | exact H.p1 | exact H.p2 | exact H.p3 | exact H.p4 | exact H.p5 | exact H.p6 | exact H.p7 | exact H.p8)).2
  have ovb1 := (gsk_one (v := vb) (by with_reducible first | exact H | exact H.p1 | exact H.p2 | exact H.p3 | exact H.p4 | exact H.p5 | exact H.p6 | exact H.p7 | exact H.p8)).1
  have ovb2 := (gsk_one (v := vb) (by with_reducible first | exact H | exact H.p1 | exact H.p2 | exact H.p3 | exact H.p4 | exact H.p5 | exact H.p6 | exact H.p7 | exact H.p8)).2
  have ovc1 := (gsk_one (v := vc) (by with_reducible first | exact H | exact H.p1 | exact H.p2 | exact H.p3 | exact H.p4 | exact H.p5 | exact H.p6 | exact H.p7 | exact H.p8)).1
  have ovc2 := (gsk_one (v := vc) (by with_reducible first | exact H | exact H.p1 | exact H.p2 | exact H.p3 | exact H.p4 | exact H.p5 | exact H.p6 | exact H.p7 | exact H.p8)).2
  have fill6 : hfill [.nilSlice, .nilSlice, .nilSlice, .nilSlice, .nilSlice, .nilSlice] [(0, 1, va), (1, 1, vb), (2, 1, vc), (3, 1, a), (4, 1, b), (5, 1, c)] = some [va, vb, vc, a, b, c] := by
    rw [hf_one ova1 ova2 (by simp), hf_one ovb1 ovb2 (by simp), hf_one ovc1 ovc2 (by simp), hf_one oa1 oa2 (by simp), hf_one ob1 ob2 (by simp), hf_one oc1 oc2 (by simp)]; rfl
  first | have f0 := Sat.pf (H) | have f0 := trivial
  first | have f1 := Sat.pf (H.t) | have f1 := trivial
  first | have f2 := Sat.pf (H.t.t) | have f2 := trivial
  first | have f3 := Sat.pf (H.t.t.t) | have f3 := trivial
  first | have f4 := Sat.pf (H.t.t.t.t) | have f4 := trivial
  first | have f5 := Sat.pf (H.t.t.t.t.t) | have f5 := trivial
  first | have f6 := Sat.pf (H.t.t.t.t.t.t) | have f6 := trivial
  first | have f7 := Sat.pf (H.t.t.t.t.t.t.t) | have f7 := trivial
  first | have f8 := Sat.pf (H.t.t.t.t.t.t.t.t) | have f8 := trivial
  repeat' first
    | ((with_reducible show Need _); refine need_of ?_; (first | have f0 := Sat.pf (H) | have f0 := trivial); (first | have f1 := Sat.pf (H.t) | have f1 := trivial); (first | have f2 := Sat.pf (H.t.t) | have f2 := trivial); (first | have f3 := Sat.pf (H.t.t.t) | have f3 := trivial); (first | have f4 := Sat.pf (H.t.t.t.t) | have f4 := trivial); (first | have f5 := Sat.pf (H.t.t.t.t.t) | have f5 := trivial); (first | have f6 := Sat.pf (H.t.t.t.t.t.t) | have f6 := trivial); (first | have f7 := Sat.pf (H.t.t.t.t.t.t.t) | have f7 := trivial); (first | have f8 := Sat.pf (H.t.t.t.t.t.t.t.t) | have f8 := trivial); (first | have l0 := (Sat.rd (v := y) (by with_reducible first | exact H | exact H.p1 | exact H.p2 | exact H.p3 | exact H.p4 | exact H.p5 | exact H.p6 | exact H.p7 | exact H.p8)).ld1 (i := 0) e0 rfl | skip); (first | have l1 := (Sat.rd (v := y) (by with_reducible first | exact H | exact H.p1 | exact H.p2 | exact H.p3 | exact H.p4 | exact H.p5 | exact H.p6 | exact H.p7 | exact H.p8)).ld1 (i := 1) e1 rfl | skip); (first | have l2 := (Sat.rd (v := y) (by with_reducible first | exact H | exact H.p1 | exact H.p2 | exact H.p3 | exact H.p4 | exact H.p5 | exact H.p6 | exact H.p7 | exact H.p8)).ld1 (i := 2) e2 rfl | skip))
    | simp -implicitDefEqProofs (disch := first | omega | decide | exact rfl | assumption | exact Nat.le_of_ble_eq_true rfl | exact One.c | exact One.o) only [vsA, vsB, eq_self, if_true, if_false, implies_true, false_implies, evp, HX.ev, Nat.reduceAdd, HOp.looks, Nat.reduceEqDiff, overw, Nat.reduceBEq, d0, oa1, oa2, ob1, ob2, oc1, oc2, la, lb, lc, oy1, oy2, ly, e0, e1, e2, l0, l1, l2, z01, z12, z23, lr_succ, vadd1, bild, fill6, ub26, f0, f1, f2, f3, f4, f5, f6, f7, f8]
    | (refine condK_cases (fun h => ?_) (fun h => ?_) <;> (try simp only [h]) <;> (try simp only [athA, ne_eq] at h) <;> (try (exfalso; omega)))
    | refine opC_K ?_
    | ((with_reducible show opC (hbuildSlice _ _ _ _ _) _); refine sl_bsliceK (len := 6) H rfl rfl (by omega) fill6 rfl ?_; clear H f0 f1 f2 f3 f4 f5 f6 f7 f8; intro y6 hs H; refine need ?_)

  have H9 := H
  clear H l0 l1 l2
  have H := H9
  clear H9
  obtain ⟨gc, wc, Hc⟩ := gsk_freeze (by decide) H.p4.p4.p4.p3.p4
  refine HWr.weak wc ?_
  clear wc H
  have H := Hc
  clear Hc
  obtain ⟨gb, wb, Hb⟩ := gsk_freeze (by decide) H.p5.p4.p4.p4.p4.p5
  refine HWr.weak wb ?_
  clear wb H
  have H := Hb
  clear Hb
  obtain ⟨ga, wa, Ha⟩ := gsk_freeze (by decide) H.p5.p5.p5.p5.p5.p5.p6
  refine HWr.weak wa ?_
  clear wa H
  have H := Ha
  clear Ha
  have oy61 := (Sat.rd (v := y6) (by with_reducible first | exact H | exact H.p1 | exact H.p2 | exact H.p3 | exact H.p4 | exact H.p5 | exact H.p6 | exact H.p7 | exact H.p8)).one
  have oy62 := (Sat.rd (v := y6) (by with_reducible first | exact H | exact H.p1 | exact H.p2 | exact H.p3 | exact H.p4 | exact H.p5 | exact H.p6 | exact H.p7 | exact H.p8)).cells
  have ly6 := (Sat.rd (v := y6) (by with_reducible first | exact H | exact H.p1 | exact H.p2 | exact H.p3 | exact H.p4 | exact H.p5 | exact H.p6 | exact H.p7 | exact H.p8)).len
  obtain ⟨q0, q1, q2, q3, q4, q5, s0, s1, s2, s3, s4, s5⟩ := six_idx (Sat.rd (v := y6) (by with_reducible first | exact H | exact H.p1 | exact H.p2 | exact H.p3 | exact H.p4 | exact H.p5 | exact H.p6 | exact H.p7 | exact H.p8))
  have m0 := (Sat.rd (v := y6) (by with_reducible first | exact H | exact H.p1 | exact H.p2 | exact H.p3 | exact H.p4 | exact H.p5 | exact H.p6 | exact H.p7 | exact H.p8)).ld1 (i := 0) s0 rfl
  have m1 := (Sat.rd (v := y6) (by with_reducible first | exact H | exact H.p1 | exact H.p2 | exact H.p3 | exact H.p4 | exact H.p5 | exact H.p6 | exact H.p7 | exact H.p8)).ld1 (i := 1) s1 rfl
  have m2 := (Sat.rd (v := y6) (by with_reducible first | exact H | exact H.p1 | exact H.p2 | exact H.p3 | exact H.p4 | exact H.p5 | exact H.p6 | exact H.p7 | exact H.p8)).ld1 (i := 2) s2 rfl
  have m3 := (Sat.rd (v := y6) (by with_reducible first | exact H | exact H.p1 | exact H.p2 | exact H.p3 | exact H.p4 | exact H.p5 | exact H.p6 | exact H.p7 | exact H.p8)).ld1 (i := 3) s3 rfl
  have m4 := (Sat.rd (v := y6) (by with_reducible first | exact H | exact H.p1 | exact H.p2 | exact H.p3 | exact H.p4 | exact H.p5 | exact H.p6 | exact H.p7 | exact H.p8)).ld1 (i := 4) s4 rfl
  have m5 := (Sat.rd (v := y6) (by with_reducible first | exact H | exact H.p1 | exact H.p2 | exact H.p3 | exact H.p4 | exact H.p5 | exact H.p6 | exact H.p7 | exact H.p8)).ld1 (i := 5) s5 rfl
  have bm0 : (mk 0 == mk 0) = true := by simp
  have bm1 : (mk 1 == mk 1) = true := by simp
  have bm2 : (mk 2 == mk 2) = true := by simp
  have bn : (([] : List UInt8) == []) = true := rfl
  have lva := (Sat.rdV (v := va) (by with_reducible first | exact H | exact H.p1 | exact H.p2 | exact H.p3 | exact H.p4 | exact H.p5 | exact H.p6 | exact H.p7 | exact H.p8)).len
  have lvb := (Sat.rdV (v := vb) (by with_reducible first | exact H | exact H.p1 | exact H.p2 | exact H.p3 | exact H.p4 | exact H.p5 | exact H.p6 | exact H.p7 | exact H.p8)).len
  have lvc := (Sat.rdV (v := vc) (by with_reducible first | exact H | exact H.p1 | exact H.p2 | exact H.p3 | exact H.p4 | exact H.p5 | exact H.p6 | exact H.p7 | exact H.p8)).len
  refine HW.rounds mixed 7 ?_
  first | have f0 := Sat.pf (H) | have f0 := trivial
  first | have f1 := Sat.pf (H.t) | have f1 := trivial
  first | have f2 := Sat.pf (H.t.t) | have f2 := trivial
  first | have f3 := Sat.pf (H.t.t.t) | have f3 := trivial
  first | have f4 := Sat.pf (H.t.t.t.t) | have f4 := trivial
  first | have f5 := Sat.pf (H.t.t.t.t.t) | have f5 := trivial
  first | have f6 := Sat.pf (H.t.t.t.t.t.t) | have f6 := trivial
  first | have f7 := Sat.pf (H.t.t.t.t.t.t.t) | have f7 := trivial
  first | have f8 := Sat.pf (H.t.t.t.t.t.t.t.t) | have f8 := trivial
  repeat' first
    | simp -implicitDefEqProofs (disch := first | omega | decide | exact rfl | assumption | exact Nat.le_of_ble_eq_true rfl | exact One.c | exact One.o) only [vsA, vsB, eq_self, if_true, if_false, implies_true, false_implies, evp, HX.ev, Nat.reduceAdd, HOp.looks, Nat.reduceEqDiff, overw, Nat.reduceBEq, la, lb, lc, oy61, oy62, ly6, s0, s1, s2, s3, s4, s5, m0, m1, m2, m3, m4, m5, z01, z12, z23, z34, z45, z56, lr_succ, vadd1, lva, lvb, lvc, ub26, f0, f1, f2, f3, f4, f5, f6, f7, f8]
    | (refine condK_cases (fun h => ?_) (fun h => ?_) <;> (try simp only [h]) <;> (try simp only [athA, ne_eq] at h) <;> (try (exfalso; omega)))

  refine HW.loopA mixed (fun k : Nat => (.undef :: .undef :: .undef :: .undef :: .undef :: .undef :: .undef :: .undef :: .undef :: .undef :: .undef :: .undef :: .int .i64 0 :: .undef :: .undef :: .undef :: .undef :: .undef :: .undef :: .undef :: .undef :: .undef :: .undef :: .undef :: .undef :: .undef :: .undef :: .undef :: .undef :: .undef :: .undef :: .undef :: .undef :: .undef :: .undef :: .undef :: .undef :: .undef :: .undef :: .undef :: .undef :: .undef :: .undef :: .undef :: .undef :: .undef :: .undef :: .undef :: .undef :: .undef :: .undef :: .undef :: .undef :: .undef :: .undef :: .undef :: .undef :: .undef :: .undef :: .undef :: .undef :: .undef :: .undef :: .undef :: .undef :: .undef :: .undef :: .undef :: .undef :: .undef :: .undef :: .undef :: .undef :: y6 :: .int .i64 ((6 : Nat) : Int) :: .int .i64 0 :: .undef :: .undef :: .undef :: .undef :: va :: .int .i64 (((La.length + 20) : Nat) : Int) :: .int .i64 (k : Nat) :: .undef :: .undef :: .undef :: .undef :: .undef :: .undef :: .undef :: .undef :: .undef :: .undef :: .undef :: .undef :: .undef :: .undef :: .undef :: .undef :: [])) (fun k => Vw 2 a La.length ((List.replicate (La.length) (mp 0)).flatMap prC) :: Vw 2 va (La.length + 20) ((List.replicate (La.length + 20) (mp 0)).flatMap prC) :: Vw 2 b Lb.length ((List.replicate (Lb.length) (mp 1)).flatMap prC) :: Vw 2 vb (Lb.length + 20) ((List.replicate (Lb.length + 20) (mp 1)).flatMap prC) :: Vw 2 c Lc.length ((List.replicate (Lc.length) (mp 2)).flatMap prC) :: Vw 2 vc (Lc.length + 20) ((List.replicate (Lc.length + 20) (mp 2)).flatMap prC) :: My 1 y6 6 [va, vb, vc, a, b, c] :: My 1 y 3 [va, vb, vc] :: l) (fun k => (La.length + 20) - k) (fun k => k ≤ (La.length + 20)) 0 (Nat.zero_le _) (by (repeat first | exact Less.nil | refine Less.undef _ ?_ | refine Less.keep _ ?_)) H ?_
  clear H m0 m1 m2 m3 m4 m5
  rintro k hs hk H
  have m0 := (Sat.rd (v := y6) (by with_reducible first | exact H | exact H.p1 | exact H.p2 | exact H.p3 | exact H.p4 | exact H.p5 | exact H.p6 | exact H.p7 | exact H.p8)).ld1 (i := 0) s0 rfl
  have m1 := (Sat.rd (v := y6) (by with_reducible first | exact H | exact H.p1 | exact H.p2 | exact H.p3 | exact H.p4 | exact H.p5 | exact H.p6 | exact H.p7 | exact H.p8)).ld1 (i := 1) s1 rfl
  have m2 := (Sat.rd (v := y6) (by with_reducible first | exact H | exact H.p1 | exact H.p2 | exact H.p3 | exact H.p4 | exact H.p5 | exact H.p6 | exact H.p7 | exact H.p8)).ld1 (i := 2) s2 rfl
  have m3 := (Sat.rd (v := y6) (by with_reducible first | exact H | exact H.p1 | exact H.p2 | exact H.p3 | exact H.p4 | exact H.p5 | exact H.p6 | exact H.p7 | exact H.p8)).ld1 (i := 3) s3 rfl
  have m4 := (Sat.rd (v := y6) (by with_reducible first | exact H | exact H.p1 | exact H.p2 | exact H.p3 | exact H.p4 | exact H.p5 | exact H.p6 | exact H.p7 | exact H.p8)).ld1 (i := 4) s4 rfl
  have m5 := (Sat.rd (v := y6) (by with_reducible first | exact H | exact H.p1 | exact H.p2 | exact H.p3 | exact H.p4 | exact H.p5 | exact H.p6 | exact H.p7 | exact H.p8)).ld1 (i := 5) s5 rfl
  by_cases h3 : k < (La.length + 20)
  · have R := (Sat.rdV (v := va) (by with_reducible first | exact H | exact H.p1 | exact H.p2 | exact H.p3 | exact H.p4 | exact H.p5 | exact H.p6 | exact H.p7 | exact H.p8))
    obtain ⟨hh, oo, hix, _, hld⟩ := R.idxF (s := 2) (fun _ => rfl) (by simp) (repP_get (i := 0) h3) .i64
    unfold prC mp at hld
    have so := R.sOk
    have d0 : decide (((k : Nat) : Int) < (((La.length + 20) : Nat) : Int)) = true := decide_eq_true (by omega)
    first | have f0 := Sat.pf (H) | have f0 := trivial
    first | have f1 := Sat.pf (H.t) | have f1 := trivial
    first | have f2 := Sat.pf (H.t.t) | have f2 := trivial
    first | have f3 := Sat.pf (H.t.t.t) | have f3 := trivial
    first | have f4 := Sat.pf (H.t.t.t.t) | have f4 := trivial
    first | have f5 := Sat.pf (H.t.t.t.t.t) | have f5 := trivial
    first | have f6 := Sat.pf (H.t.t.t.t.t.t) | have f6 := trivial
    first | have f7 := Sat.pf (H.t.t.t.t.t.t.t) | have f7 := trivial
    first | have f8 := Sat.pf (H.t.t.t.t.t.t.t.t) | have f8 := trivial
    repeat' first
      | ((with_reducible show Need _); refine need_of ?_; (first | have f0 := Sat.pf (H) | have f0 := trivial); (first | have f1 := Sat.pf (H.t) | have f1 := trivial); (first | have f2 := Sat.pf (H.t.t) | have f2 := trivial); (first | have f3 := Sat.pf (H.t.t.t) | have f3 := trivial); (first | have f4 := Sat.pf (H.t.t.t.t) | have f4 := trivial); (first | have f5 := Sat.pf (H.t.t.t.t.t) | have f5 := trivial); (first | have f6 := Sat.pf (H.t.t.t.t.t.t) | have f6 := trivial); (first | have f7 := Sat.pf (H.t.t.t.t.t.t.t) | have f7 := trivial); (first | have f8 := Sat.pf (H.t.t.t.t.t.t.t.t) | have f8 := trivial))
      | simp -implicitDefEqProofs (disch := first | omega | decide | exact rfl | assumption | exact Nat.le_of_ble_eq_true rfl | exact One.c | exact One.o) only [vsA, vsB, eq_self, if_true, if_false, implies_true, false_implies, evp, HX.ev, Nat.reduceAdd, HOp.looks, Nat.reduceEqDiff, overw, Nat.reduceBEq, d0, hix, hld, so, bm0, bm1, bm2, bn, r0, Bool.not_true, Bool.not_false, vadd1, va_ldA, va_loadA, ub26, f0, f1, f2, f3, f4, f5, f6, f7, f8]
      | (clear H f0 f1 f2 f3 f4 f5 f6 f7 f8; (with_reducible intro v2 hs H); (try simp only [setA, overw, Nat.reduceAdd] at H); refine need ?_)
      | ((with_reducible show drK _ _ _ _ _ _ _ _ _ (some ⟨_, HAct.call (HX.cst (HV.func (Fn.func 45) _ _)) _, none⟩)); refine vdr_call ok45 rfl (mark45 0 (by omega)) ?_; rintro _ _ ⟨rfl, rfl⟩)
      | refine opC_K ?_
      | ((with_reducible show opC (unit (hstore _ _ _ _)) _); refine sl_storeN (by with_reducible first | exact H | exact H.p1 | exact H.p2 | exact H.p3 | exact H.p4 | exact H.p5 | exact H.p6 | exact H.p7 | exact H.p8) rfl (Nat.le_of_ble_eq_true rfl) (by first | exact rfl | (simp only [f0, f1, f2, f3, f4, f5, f6, f7, f8]; done) | (simp only [onA, *]; done)) ?_)
      | ((with_reducible show opC (hbox _ _) _); refine sl_boxA H (by first | exact rfl | (simp only [f0, f1, f2, f3, f4, f5, f6, f7, f8]; done) | (simp only [onA, *]; done)) ?_)
      | refine hwp_draw mixed rfl ?_

    exact ⟨k + 1, _, by omega, by omega, (by (repeat first | exact Less.nil | refine Less.undef _ ?_ | refine Less.keep _ ?_)), Weak.refl _, H.t⟩
  obtain rfl : k = (La.length + 20) := by omega
  have d0 : decide ((((La.length + 20) : Nat) : Int) < (((La.length + 20) : Nat) : Int)) = false := decide_eq_false (by omega)
  first | have f0 := Sat.pf (H) | have f0 := trivial
  first | have f1 := Sat.pf (H.t) | have f1 := trivial
  first | have f2 := Sat.pf (H.t.t) | have f2 := trivial
  first | have f3 := Sat.pf (H.t.t.t) | have f3 := trivial
  first | have f4 := Sat.pf (H.t.t.t.t) | have f4 := trivial
  first | have f5 := Sat.pf (H.t.t.t.t.t) | have f5 := trivial
  first | have f6 := Sat.pf (H.t.t.t.t.t.t) | have f6 := trivial
  first | have f7 := Sat.pf (H.t.t.t.t.t.t.t) | have f7 := trivial
  first | have f8 := Sat.pf (H.t.t.t.t.t.t.t.t) | have f8 := trivial
  repeat' first
    | simp -implicitDefEqProofs (disch := first | omega | decide | exact rfl | assumption | exact Nat.le_of_ble_eq_true rfl | exact One.c | exact One.o) only [vsA, vsB, eq_self, if_true, if_false, implies_true, false_implies, evp, HX.ev, Nat.reduceAdd, HOp.looks, Nat.reduceEqDiff, overw, Nat.reduceBEq, d0, la, lb, lc, oy61, oy62, ly6, s0, s1, s2, s3, s4, s5, m0, m1, m2, m3, m4, m5, z01, z12, z23, z34, z45, z56, lr_succ, vadd1, lva, lvb, lvc, ub26, f0, f1, f2, f3, f4, f5, f6, f7, f8]
    | (refine condK_cases (fun h => ?_) (fun h => ?_) <;> (try simp only [h]) <;> (try simp only [athA, ne_eq] at h) <;> (try (exfalso; omega)))

  refine HW.loopA mixed (fun k : Nat => (.undef :: .undef :: .undef :: .undef :: .undef :: .undef :: .undef :: .undef :: .undef :: .undef :: .undef :: .undef :: .int .i64 1 :: .undef :: .undef :: .undef :: .undef :: .undef :: .undef :: .undef :: .undef :: .undef :: .undef :: .undef :: .undef :: .undef :: .undef :: .undef :: .undef :: .undef :: .undef :: .undef :: .undef :: .undef :: .undef :: .undef :: .undef :: .undef :: .undef :: .undef :: .undef :: .undef :: .undef :: .undef :: .undef :: .undef :: .undef :: .undef :: .undef :: .undef :: .undef :: .undef :: .undef :: .undef :: .undef :: .undef :: .undef :: .undef :: .undef :: .undef :: .undef :: .undef :: .undef :: .undef :: .undef :: .undef :: .undef :: .undef :: .undef :: .undef :: .undef :: .undef :: .undef :: y6 :: .int .i64 ((6 : Nat) : Int) :: .int .i64 1 :: .undef :: .undef :: .undef :: .undef :: vb :: .int .i64 (((Lb.length + 20) : Nat) : Int) :: .int .i64 (k : Nat) :: .undef :: .undef :: .undef :: .undef :: .undef :: .undef :: .undef :: .undef :: .undef :: .undef :: .undef :: .undef :: .undef :: .undef :: .undef :: .undef :: [])) (fun k => Vw 2 a La.length ((List.replicate (La.length) (mp 0)).flatMap prC) :: Vw 2 va (La.length + 20) ((List.replicate (La.length + 20) (mp 0)).flatMap prC) :: Vw 2 b Lb.length ((List.replicate (Lb.length) (mp 1)).flatMap prC) :: Vw 2 vb (Lb.length + 20) ((List.replicate (Lb.length + 20) (mp 1)).flatMap prC) :: Vw 2 c Lc.length ((List.replicate (Lc.length) (mp 2)).flatMap prC) :: Vw 2 vc (Lc.length + 20) ((List.replicate (Lc.length + 20) (mp 2)).flatMap prC) :: My 1 y6 6 [va, vb, vc, a, b, c] :: My 1 y 3 [va, vb, vc] :: l) (fun k => (Lb.length + 20) - k) (fun k => k ≤ (Lb.length + 20)) 0 (Nat.zero_le _) (by (repeat first | exact Less.nil | refine Less.undef _ ?_ | refine Less.keep _ ?_)) H ?_
  clear H m0 m1 m2 m3 m4 m5
  rintro k hs hk H
  have m0 := (Sat.rd (v := y6) (by with_reducible first | exact H | exact H.p1 | exact H.p2 | exact H.p3 | exact H.p4 | exact H.p5 | exact H.p6 | exact H.p7 | exact H.p8)).ld1 (i := 0) s0 rfl
  have m1 := (Sat.rd (v := y6) (by with_reducible first | exact H | exact H.p1 | exact H.p2 | exact H.p3 | exact H.p4 | exact H.p5 | exact H.p6 | exact H.p7 | exact H.p8)).ld1 (i := 1) s1 rfl
  have m2 := (Sat.rd (v := y6) (by with_reducible first | exact H | exact H.p1 | exact H.p2 | exact H.p3 | exact H.p4 | exact H.p5 | exact H.p6 | exact H.p7 | exact H.p8)).ld1 (i := 2) s2 rfl
  have m3 := (Sat.rd (v := y6) (by with_reducible first | exact H | exact H.p1 | exact H.p2 | exact H.p3 | exact H.p4 | exact H.p5 | exact H.p6 | exact H.p7 | exact H.p8)).ld1 (i := 3) s3 rfl
  have m4 := (Sat.rd (v := y6) (by with_reducible first | exact H | exact H.p1 | exact H.p2 | exact H.p3 | exact H.p4 | exact H.p5 | exact H.p6 | exact H.p7 | exact H.p8)).ld1 (i := 4) s4 rfl
  have m5 := (Sat.rd (v := y6) (by with_reducible first | exact H | exact H.p1 | exact H.p2 | exact H.p3 | exact H.p4 | exact H.p5 | exact H.p6 | exact H.p7 | exact H.p8)).ld1 (i := 5) s5 rfl
  by_cases h3 : k < (Lb.length + 20)
  · have R := (Sat.rdV (v := vb) (by with_reducible first | exact H | exact H.p1 | exact H.p2 | exact H.p3 | exact H.p4 | exact H.p5 | exact H.p6 | exact H.p7 | exact H.p8))
    obtain ⟨hh, oo, hix, _, hld⟩ := R.idxF (s := 2) (fun _ => rfl) (by simp) (repP_get (i := 1) h3) .i64
    unfold prC mp at hld
    have so := R.sOk
    have d0 : decide (((k : Nat) : Int) < (((Lb.length + 20) : Nat) : Int)) = true := decide_eq_true (by omega)
    first | have f0 := Sat.pf (H) | have f0 := trivial
    first | have f1 := Sat.pf (H.t) | have f1 := trivial
    first | have f2 := Sat.pf (H.t.t) | have f2 := trivial
    first | have f3 := Sat.pf (H.t.t.t) | have f3 := trivial
    first | have f4 := Sat.pf (H.t.t.t.t) | have f4 := trivial
    first | have f5 := Sat.pf (H.t.t.t.t.t) | have f5 := trivial
    first | have f6 := Sat.pf (H.t.t.t.t.t.t) | have f6 := trivial
    first | have f7 := Sat.pf (H.t.t.t.t.t.t.t) | have f7 := trivial
    first | have f8 := Sat.pf (H.t.t.t.t.t.t.t.t) | have f8 := trivial
    repeat' first
      | ((with_reducible show Need _); refine need_of ?_; (first | have f0 := Sat.pf (H) | have f0 := trivial); (first | have f1 := Sat.pf (H.t) | have f1 := trivial); (first | have f2 := Sat.pf (H.t.t) | have f2 := trivial); (first | have f3 := Sat.pf (H.t.t.t) | have f3 := trivial); (first | have f4 := Sat.pf (H.t.t.t.t) | have f4 := trivial); (first | have f5 := Sat.pf (H.t.t.t.t.t) | have f5 := trivial); (first | have f6 := Sat.pf (H.t.t.t.t.t.t) | have f6 := trivial); (first | have f7 := Sat.pf (H.t.t.t.t.t.t.t) | have f7 := trivial); (first | have f8 := Sat.pf (H.t.t.t.t.t.t.t.t) | have f8 := trivial))
      | simp -implicitDefEqProofs (disch := first | omega | decide | exact rfl | assumption | exact Nat.le_of_ble_eq_true rfl | exact One.c | exact One.o) only [vsA, vsB, eq_self, if_true, if_false, implies_true, false_implies, evp, HX.ev, Nat.reduceAdd, HOp.looks, Nat.reduceEqDiff, overw, Nat.reduceBEq, d0, hix, hld, so, bm0, bm1, bm2, bn, r1, Bool.not_true, Bool.not_false, vadd1, va_ldA, va_loadA, ub26, f0, f1, f2, f3, f4, f5, f6, f7, f8]
      | (clear H f0 f1 f2 f3 f4 f5 f6 f7 f8; (with_reducible intro v2 hs H); (try simp only [setA, overw, Nat.reduceAdd] at H); refine need ?_)
      | ((with_reducible show drK _ _ _ _ _ _ _ _ _ (some ⟨_, HAct.call (HX.cst (HV.func (Fn.func 45) _ _)) _, none⟩)); refine vdr_call ok45 rfl (mark45 1 (by omega)) ?_; rintro _ _ ⟨rfl, rfl⟩)
      | refine opC_K ?_
      | ((with_reducible show opC (unit (hstore _ _ _ _)) _); refine sl_storeN (by with_reducible first | exact H | exact H.p1 | exact H.p2 | exact H.p3 | exact H.p4 | exact H.p5 | exact H.p6 | exact H.p7 | exact H.p8) rfl (Nat.le_of_ble_eq_true rfl) (by first | exact rfl | (simp only [f0, f1, f2, f3, f4, f5, f6, f7, f8]; done) | (simp only [onA, *]; done)) ?_)
      | ((with_reducible show opC (hbox _ _) _); refine sl_boxA H (by first | exact rfl | (simp only [f0, f1, f2, f3, f4, f5, f6, f7, f8]; done) | (simp only [onA, *]; done)) ?_)
      | refine hwp_draw mixed rfl ?_

    exact ⟨k + 1, _, by omega, by omega, (by (repeat first | exact Less.nil | refine Less.undef _ ?_ | refine Less.keep _ ?_)), Weak.refl _, H.t⟩
  obtain rfl : k = (Lb.length + 20) := by omega
  have d0 : decide ((((Lb.length + 20) : Nat) : Int) < (((Lb.length + 20) : Nat) : Int)) = false := decide_eq_false (by omega)
  first | have f0 := Sat.pf (H) | have f0 := trivial
  first | have f1 := Sat.pf (H.t) | have f1 := trivial
  first | have f2 := Sat.pf (H.t.t) | have f2 := trivial
  first | have f3 := Sat.pf (H.t.t.t) | have f3 := trivial
  first | have f4 := Sat.pf (H.t.t.t.t) | have f4 := trivial
  first | have f5 := Sat.pf (H.t.t.t.t.t) | have f5 := trivial
  first | have f6 := Sat.pf (H.t.t.t.t.t.t) | have f6 := trivial
  first | have f7 := Sat.pf (H.t.t.t.t.t.t.t) | have f7 := trivial
  first | have f8 := Sat.pf (H.t.t.t.t.t.t.t.t) | have f8 := trivial
  repeat' first
    | simp -implicitDefEqProofs (disch := first | omega | decide | exact rfl | assumption | exact Nat.le_of_ble_eq_true rfl | exact One.c | exact One.o) only [vsA, vsB, eq_self, if_true, if_false, implies_true, false_implies, evp, HX.ev, Nat.reduceAdd, HOp.looks, Nat.reduceEqDiff, overw, Nat.reduceBEq, d0, la, lb, lc, oy61, oy62, ly6, s0, s1, s2, s3, s4, s5, m0, m1, m2, m3, m4, m5, z01, z12, z23, z34, z45, z56, lr_succ, vadd1, lva, lvb, lvc, ub26, f0, f1, f2, f3, f4, f5, f6, f7, f8]
    | (refine condK_cases (fun h => ?_) (fun h => ?_) <;> (try simp only [h]) <;> (try simp only [athA, ne_eq] at h) <;> (try (exfalso; omega)))

  refine HW.loopA mixed (fun k : Nat => (.undef :: .undef :: .undef :: .undef :: .undef :: .undef :: .undef :: .undef :: .undef :: .undef :: .undef :: .undef :: .int .i64 2 :: .undef :: .undef :: .undef :: .undef :: .undef :: .undef :: .undef :: .undef :: .undef :: .undef :: .undef :: .undef :: .undef :: .undef :: .undef :: .undef :: .undef :: .undef :: .undef :: .undef :: .undef :: .undef :: .undef :: .undef :: .undef :: .undef :: .undef :: .undef :: .undef :: .undef :: .undef :: .undef :: .undef :: .undef :: .undef :: .undef :: .undef :: .undef :: .undef :: .undef :: .undef :: .undef :: .undef :: .undef :: .undef :: .undef :: .undef :: .undef :: .undef :: .undef :: .undef :: .undef :: .undef :: .undef :: .undef :: .undef :: .undef :: .undef :: .undef :: .undef :: y6 :: .int .i64 ((6 : Nat) : Int) :: .int .i64 2 :: .undef :: .undef :: .undef :: .undef :: vc :: .int .i64 (((Lc.length + 20) : Nat) : Int) :: .int .i64 (k : Nat) :: .undef :: .undef :: .undef :: .undef :: .undef :: .undef :: .undef :: .undef :: .undef :: .undef :: .undef :: .undef :: .undef :: .undef :: .undef :: .undef :: [])) (fun k => Vw 2 a La.length ((List.replicate (La.length) (mp 0)).flatMap prC) :: Vw 2 va (La.length + 20) ((List.replicate (La.length + 20) (mp 0)).flatMap prC) :: Vw 2 b Lb.length ((List.replicate (Lb.length) (mp 1)).flatMap prC) :: Vw 2 vb (Lb.length + 20) ((List.replicate (Lb.length + 20) (mp 1)).flatMap prC) :: Vw 2 c Lc.length ((List.replicate (Lc.length) (mp 2)).flatMap prC) :: Vw 2 vc (Lc.length + 20) ((List.replicate (Lc.length + 20) (mp 2)).flatMap prC) :: My 1 y6 6 [va, vb, vc, a, b, c] :: My 1 y 3 [va, vb, vc] :: l) (fun k => (Lc.length + 20) - k) (fun k => k ≤ (Lc.length + 20)) 0 (Nat.zero_le _) (by (repeat first | exact Less.nil | refine Less.undef _ ?_ | refine Less.keep _ ?_)) H ?_
  clear H m0 m1 m2 m3 m4 m5
  rintro k hs hk H
  have m0 := (Sat.rd (v := y6) (by with_reducible first | exact H | exact H.p1 | exact H.p2 | exact H.p3 | exact H.p4 | exact H.p5 | exact H.p6 | exact H.p7 | exact H.p8)).ld1 (i := 0) s0 rfl
  have m1 := (Sat.rd (v := y6) (by with_reducible first | exact H | exact H.p1 | exact H.p2 | exact H.p3 | exact H.p4 | exact H.p5 | exact H.p6 | exact H.p7 | exact H.p8)).ld1 (i := 1) s1 rfl
  have m2 := (Sat.rd (v := y6) (by with_reducible first | exact H | exact H.p1 | exact H.p2 | exact H.p3 | exact H.p4 | exact H.p5 | exact H.p6 | exact H.p7 | exact H.p8)).ld1 (i := 2) s2 rfl
  have m3 := (Sat.rd (v := y6) (by with_reducible first | exact H | exact H.p1 | exact H.p2 | exact H.p3 | exact H.p4 | exact H.p5 | exact H.p6 | exact H.p7 | exact H.p8)).ld1 (i := 3) s3 rfl
  have m4 := (Sat.rd (v := y6) (by with_reducible first | exact H | exact H.p1 | exact H.p2 | exact H.p3 | exact H.p4 | exact H.p5 | exact H.p6 | exact H.p7 | exact H.p8)).ld1 (i := 4) s4 rfl
  have m5 := (Sat.rd (v := y6) (by with_reducible first | exact H | exact H.p1 | exact H.p2 | exact H.p3 | exact H.p4 | exact H.p5 | exact H.p6 | exact H.p7 | exact H.p8)).ld1 (i := 5) s5 rfl
  by_cases h3 : k < (Lc.length + 20)
  · have R := (Sat.rdV (v := vc) (by with_reducible first | exact H | exact H.p1 | exact H.p2 | exact H.p3 | exact H.p4 | exact H.p5 | exact H.p6 | exact H.p7 | exact H.p8))
    obtain ⟨hh, oo, hix, _, hld⟩ := R.idxF (s := 2) (fun _ => rfl) (by simp) (repP_get (i := 2) h3) .i64
    unfold prC mp at hld
    have so := R.sOk
    have d0 : decide (((k : Nat) : Int) < (((Lc.length + 20) : Nat) : Int)) = true := decide_eq_true (by omega)
    first | have f0 := Sat.pf (H) | have f0 := trivial
    first | have f1 := Sat.pf (H.t) | have f1 := trivial
    first | have f2 := Sat.pf (H.t.t) | have f2 := trivial
    first | have f3 := Sat.pf (H.t.t.t) | have f3 := trivial
    first | have f4 := Sat.pf (H.t.t.t.t) | have f4 := trivial
    first | have f5 := Sat.pf (H.t.t.t.t.t) | have f5 := trivial
    first | have f6 := Sat.pf (H.t.t.t.t.t.t) | have f6 := trivial
    first | have f7 := Sat.pf (H.t.t.t.t.t.t.t) | have f7 := trivial
    first | have f8 := Sat.pf (H.t.t.t.t.t.t.t.t) | have f8 := trivial
    repeat' first
      | ((with_reducible show Need _); refine need_of ?_; (first | have f0 := Sat.pf (H) | have f0 := trivial); (first | have f1 := Sat.pf (H.t) | have f1 := trivial); (first | have f2 := Sat.pf (H.t.t) | have f2 := trivial); (first | have f3 := Sat.pf (H.t.t.t) | have f3 := trivial); (first | have f4 := Sat.pf (H.t.t.t.t) | have f4 := trivial); (first | have f5 := Sat.pf (H.t.t.t.t.t) | have f5 := trivial); (first | have f6 := Sat.pf (H.t.t.t.t.t.t) | have f6 := trivial); (first | have f7 := Sat.pf (H.t.t.t.t.t.t.t) | have f7 := trivial); (first | have f8 := Sat.pf (H.t.t.t.t.t.t.t.t) | have f8 := trivial))
      | simp -implicitDefEqProofs (disch := first | omega | decide | exact rfl | assumption | exact Nat.le_of_ble_eq_true rfl | exact One.c | exact One.o) only [vsA, vsB, eq_self, if_true, if_false, implies_true, false_implies, evp, HX.ev, Nat.reduceAdd, HOp.looks, Nat.reduceEqDiff, overw, Nat.reduceBEq, d0, hix, hld, so, bm0, bm1, bm2, bn, r2, Bool.not_true, Bool.not_false, vadd1, va_ldA, va_loadA, ub26, f0, f1, f2, f3, f4, f5, f6, f7, f8]
      | (clear H f0 f1 f2 f3 f4 f5 f6 f7 f8; (with_reducible intro v2 hs H); (try simp only [setA, overw, Nat.reduceAdd] at H); refine need ?_)
      | ((with_reducible show drK _ _ _ _ _ _ _ _ _ (some ⟨_, HAct.call (HX.cst (HV.func (Fn.func 45) _ _)) _, none⟩)); refine vdr_call ok45 rfl (mark45 2 (by omega)) ?_; rintro _ _ ⟨rfl, rfl⟩)
      | refine opC_K ?_
      | ((with_reducible show opC (unit (hstore _ _ _ _)) _); refine sl_storeN (by with_reducible first | exact H | exact H.p1 | exact H.p2 | exact H.p3 | exact H.p4 | exact H.p5 | exact H.p6 | exact H.p7 | exact H.p8) rfl (Nat.le_of_ble_eq_true rfl) (by first | exact rfl | (simp only [f0, f1, f2, f3, f4, f5, f6, f7, f8]; done) | (simp only [onA, *]; done)) ?_)
      | ((with_reducible show opC (hbox _ _) _); refine sl_boxA H (by first | exact rfl | (simp only [f0, f1, f2, f3, f4, f5, f6, f7, f8]; done) | (simp only [onA, *]; done)) ?_)
      | refine hwp_draw mixed rfl ?_

    exact ⟨k + 1, _, by omega, by omega, (by (repeat first | exact Less.nil | refine Less.undef _ ?_ | refine Less.keep _ ?_)), Weak.refl _, H.t⟩
  obtain rfl : k = (Lc.length + 20) := by omega
  have d0 : decide ((((Lc.length + 20) : Nat) : Int) < (((Lc.length + 20) : Nat) : Int)) = false := decide_eq_false (by omega)
  first | have f0 := Sat.pf (H) | have f0 := trivial
  first | have f1 := Sat.pf (H.t) | have f1 := trivial
  first | have f2 := Sat.pf (H.t.t) | have f2 := trivial
  first | have f3 := Sat.pf (H.t.t.t) | have f3 := trivial
  first | have f4 := Sat.pf (H.t.t.t.t) | have f4 := trivial
  first | have f5 := Sat.pf (H.t.t.t.t.t) | have f5 := trivial
  first | have f6 := Sat.pf (H.t.t.t.t.t.t) | have f6 := trivial
  first | have f7 := Sat.pf (H.t.t.t.t.t.t.t) | have f7 := trivial
  first | have f8 := Sat.pf (H.t.t.t.t.t.t.t.t) | have f8 := trivial
  repeat' first
    | simp -implicitDefEqProofs (disch := first | omega | decide | exact rfl | assumption | exact Nat.le_of_ble_eq_true rfl | exact One.c | exact One.o) only [vsA, vsB, eq_self, if_true, if_false, implies_true, false_implies, evp, HX.ev, Nat.reduceAdd, HOp.looks, Nat.reduceEqDiff, overw, Nat.reduceBEq, d0, la, lb, lc, oy61, oy62, ly6, s0, s1, s2, s3, s4, s5, m0, m1, m2, m3, m4, m5, z01, z12, z23, z34, z45, z56, lr_succ, vadd1, lva, lvb, lvc, ub26, f0, f1, f2, f3, f4, f5, f6, f7, f8]
    | (refine condK_cases (fun h => ?_) (fun h => ?_) <;> (try simp only [h]) <;> (try simp only [athA, ne_eq] at h) <;> (try (exfalso; omega)))

  refine HW.loopA mixed (fun k : Nat => (.undef :: .undef :: .undef :: .undef :: .undef :: .undef :: .undef :: .undef :: .undef :: .undef :: .undef :: .undef :: .int .i64 3 :: .undef :: .undef :: .undef :: .undef :: .undef :: .undef :: .undef :: .undef :: .undef :: .undef :: .undef :: .undef :: .undef :: .undef :: .undef :: .undef :: .undef :: .undef :: .undef :: .undef :: .undef :: .undef :: .undef :: .undef :: .undef :: .undef :: .undef :: .undef :: .undef :: .undef :: .undef :: .undef :: .undef :: .undef :: .undef :: .undef :: .undef :: .undef :: .undef :: .undef :: .undef :: .undef :: .undef :: .undef :: .undef :: .undef :: .undef :: .undef :: .undef :: .undef :: .undef :: .undef :: .undef :: .undef :: .undef :: .undef :: .undef :: .undef :: .undef :: .undef :: y6 :: .int .i64 ((6 : Nat) : Int) :: .int .i64 3 :: .undef :: .undef :: .undef :: .undef :: a :: .int .i64 ((La.length : Nat) : Int) :: .int .i64 (k : Nat) :: .undef :: .undef :: .undef :: .undef :: .undef :: .undef :: .undef :: .undef :: .undef :: .undef :: .undef :: .undef :: .undef :: .undef :: .undef :: .undef :: [])) (fun k => Vw 2 a La.length ((List.replicate (La.length) (mp 0)).flatMap prC) :: Vw 2 va (La.length + 20) ((List.replicate (La.length + 20) (mp 0)).flatMap prC) :: Vw 2 b Lb.length ((List.replicate (Lb.length) (mp 1)).flatMap prC) :: Vw 2 vb (Lb.length + 20) ((List.replicate (Lb.length + 20) (mp 1)).flatMap prC) :: Vw 2 c Lc.length ((List.replicate (Lc.length) (mp 2)).flatMap prC) :: Vw 2 vc (Lc.length + 20) ((List.replicate (Lc.length + 20) (mp 2)).flatMap prC) :: My 1 y6 6 [va, vb, vc, a, b, c] :: My 1 y 3 [va, vb, vc] :: l) (fun k => La.length - k) (fun k => k ≤ La.length) 0 (Nat.zero_le _) (by (repeat first | exact Less.nil | refine Less.undef _ ?_ | refine Less.keep _ ?_)) H ?_
  clear H m0 m1 m2 m3 m4 m5
  rintro k hs hk H
  have m0 := (Sat.rd (v := y6) (by with_reducible first | exact H | exact H.p1 | exact H.p2 | exact H.p3 | exact H.p4 | exact H.p5 | exact H.p6 | exact H.p7 | exact H.p8)).ld1 (i := 0) s0 rfl
  have m1 := (Sat.rd (v := y6) (by with_reducible first | exact H | exact H.p1 | exact H.p2 | exact H.p3 | exact H.p4 | exact H.p5 | exact H.p6 | exact H.p7 | exact H.p8)).ld1 (i := 1) s1 rfl
  have m2 := (Sat.rd (v := y6) (by with_reducible first | exact H | exact H.p1 | exact H.p2 | exact H.p3 | exact H.p4 | exact H.p5 | exact H.p6 | exact H.p7 | exact H.p8)).ld1 (i := 2) s2 rfl
  have m3 := (Sat.rd (v := y6) (by with_reducible first | exact H | exact H.p1 | exact H.p2 | exact H.p3 | exact H.p4 | exact H.p5 | exact H.p6 | exact H.p7 | exact H.p8)).ld1 (i := 3) s3 rfl
  have m4 := (Sat.rd (v := y6) (by with_reducible first | exact H | exact H.p1 | exact H.p2 | exact H.p3 | exact H.p4 | exact H.p5 | exact H.p6 | exact H.p7 | exact H.p8)).ld1 (i := 4) s4 rfl
  have m5 := (Sat.rd (v := y6) (by with_reducible first | exact H | exact H.p1 | exact H.p2 | exact H.p3 | exact H.p4 | exact H.p5 | exact H.p6 | exact H.p7 | exact H.p8)).ld1 (i := 5) s5 rfl
  by_cases h3 : k < La.length
  · have R := (Sat.rdV (v := a) (by with_reducible first | exact H | exact H.p1 | exact H.p2 | exact H.p3 | exact H.p4 | exact H.p5 | exact H.p6 | exact H.p7 | exact H.p8))
    obtain ⟨hh, oo, hix, _, hld⟩ := R.idxF (s := 2) (fun _ => rfl) (by simp) (repP_get (i := 0) h3) .i64
    unfold prC mp at hld
    have so := R.sOk
    have d0 : decide (((k : Nat) : Int) < ((La.length : Nat) : Int)) = true := decide_eq_true (by omega)
    first | have f0 := Sat.pf (H) | have f0 := trivial
    first | have f1 := Sat.pf (H.t) | have f1 := trivial
    first | have f2 := Sat.pf (H.t.t) | have f2 := trivial
    first | have f3 := Sat.pf (H.t.t.t) | have f3 := trivial
    first | have f4 := Sat.pf (H.t.t.t.t) | have f4 := trivial
    first | have f5 := Sat.pf (H.t.t.t.t.t) | have f5 := trivial
    first | have f6 := Sat.pf (H.t.t.t.t.t.t) | have f6 := trivial
    first | have f7 := Sat.pf (H.t.t.t.t.t.t.t) | have f7 := trivial
    first | have f8 := Sat.pf (H.t.t.t.t.t.t.t.t) | have f8 := trivial
    repeat' first
      | ((with_reducible show Need _); refine need_of ?_; (first | have f0 := Sat.pf (H) | have f0 := trivial); (first | have f1 := Sat.pf (H.t) | have f1 := trivial); (first | have f2 := Sat.pf (H.t.t) | have f2 := trivial); (first | have f3 := Sat.pf (H.t.t.t) | have f3 := trivial); (first | have f4 := Sat.pf (H.t.t.t.t) | have f4 := trivial); (first | have f5 := Sat.pf (H.t.t.t.t.t) | have f5 := trivial); (first | have f6 := Sat.pf (H.t.t.t.t.t.t) | have f6 := trivial); (first | have f7 := Sat.pf (H.t.t.t.t.t.t.t) | have f7 := trivial); (first | have f8 := Sat.pf (H.t.t.t.t.t.t.t.t) | have f8 := trivial))
      | simp -implicitDefEqProofs (disch := first | omega | decide | exact rfl | assumption | exact Nat.le_of_ble_eq_true rfl | exact One.c | exact One.o) only [vsA, vsB, eq_self, if_true, if_false, implies_true, false_implies, evp, HX.ev, Nat.reduceAdd, HOp.looks, Nat.reduceEqDiff, overw, Nat.reduceBEq, d0, hix, hld, so, bm0, bm1, bm2, bn, r3, Bool.not_true, Bool.not_false, vadd1, va_ldA, va_loadA, ub26, f0, f1, f2, f3, f4, f5, f6, f7, f8]
      | (clear H f0 f1 f2 f3 f4 f5 f6 f7 f8; (with_reducible intro v2 hs H); (try simp only [setA, overw, Nat.reduceAdd] at H); refine need ?_)
      | ((with_reducible show drK _ _ _ _ _ _ _ _ _ (some ⟨_, HAct.call (HX.cst (HV.func (Fn.func 45) _ _)) _, none⟩)); refine vdr_call ok45 rfl (mark45 0 (by omega)) ?_; rintro _ _ ⟨rfl, rfl⟩)
      | refine opC_K ?_
      | ((with_reducible show opC (unit (hstore _ _ _ _)) _); refine sl_storeN (by with_reducible first | exact H | exact H.p1 | exact H.p2 | exact H.p3 | exact H.p4 | exact H.p5 | exact H.p6 | exact H.p7 | exact H.p8) rfl (Nat.le_of_ble_eq_true rfl) (by first | exact rfl | (simp only [f0, f1, f2, f3, f4, f5, f6, f7, f8]; done) | (simp only [onA, *]; done)) ?_)
      | ((with_reducible show opC (hbox _ _) _); refine sl_boxA H (by first | exact rfl | (simp only [f0, f1, f2, f3, f4, f5, f6, f7, f8]; done) | (simp only [onA, *]; done)) ?_)
      | refine hwp_draw mixed rfl ?_

    exact ⟨k + 1, _, by omega, by omega, (by (repeat first | exact Less.nil | refine Less.undef _ ?_ | refine Less.keep _ ?_)), Weak.refl _, H.t⟩
  obtain rfl : k = La.length := by omega
  have d0 : decide (((La.length : Nat) : Int) < ((La.length : Nat) : Int)) = false := decide_eq_false (by omega)
  first | have f0 := Sat.pf (H) | have f0 := trivial
  first | have f1 := Sat.pf (H.t) | have f1 := trivial
  first | have f2 := Sat.pf (H.t.t) | have f2 := trivial
  first | have f3 := Sat.pf (H.t.t.t) | have f3 := trivial
  first | have f4 := Sat.pf (H.t.t.t.t) | have f4 := trivial
  first | have f5 := Sat.pf (H.t.t.t.t.t) | have f5 := trivial
  first | have f6 := Sat.pf (H.t.t.t.t.t.t) | have f6 := trivial
  first | have f7 := Sat.pf (H.t.t.t.t.t.t.t) | have f7 := trivial
  first | have f8 := Sat.pf (H.t.t.t.t.t.t.t.t) | have f8 := trivial
  repeat' first
    | simp -implicitDefEqProofs (disch := first | omega | decide | exact rfl | assumption | exact Nat.le_of_ble_eq_true rfl | exact One.c | exact One.o) only [vsA, vsB, eq_self, if_true, if_false, implies_true, false_implies, evp, HX.ev, Nat.reduceAdd, HOp.looks, Nat.reduceEqDiff, overw, Nat.reduceBEq, d0, la, lb, lc, oy61, oy62, ly6, s0, s1, s2, s3, s4, s5, m0, m1, m2, m3, m4, m5, z01, z12, z23, z34, z45, z56, lr_succ, vadd1, lva, lvb, lvc, ub26, f0, f1, f2, f3, f4, f5, f6, f7, f8]
    | (refine condK_cases (fun h => ?_) (fun h => ?_) <;> (try simp only [h]) <;> (try simp only [athA, ne_eq] at h) <;> (try (exfalso; omega)))

  refine HW.loopA mixed (fun k : Nat => (.undef :: .undef :: .undef :: .undef :: .undef :: .undef :: .undef :: .undef :: .undef :: .undef :: .undef :: .undef :: .int .i64 4 :: .undef :: .undef :: .undef :: .undef :: .undef :: .undef :: .undef :: .undef :: .undef :: .undef :: .undef :: .undef :: .undef :: .undef :: .undef :: .undef :: .undef :: .undef :: .undef :: .undef :: .undef :: .undef :: .undef :: .undef :: .undef :: .undef :: .undef :: .undef :: .undef :: .undef :: .undef :: .undef :: .undef :: .undef :: .undef :: .undef :: .undef :: .undef :: .undef :: .undef :: .undef :: .undef :: .undef :: .undef :: .undef :: .undef :: .undef :: .undef :: .undef :: .undef :: .undef :: .undef :: .undef :: .undef :: .undef :: .undef :: .undef :: .undef :: .undef :: .undef :: y6 :: .int .i64 ((6 : Nat) : Int) :: .int .i64 4 :: .undef :: .undef :: .undef :: .undef :: b :: .int .i64 ((Lb.length : Nat) : Int) :: .int .i64 (k : Nat) :: .undef :: .undef :: .undef :: .undef :: .undef :: .undef :: .undef :: .undef :: .undef :: .undef :: .undef :: .undef :: .undef :: .undef :: .undef :: .undef :: [])) (fun k => Vw 2 a La.length ((List.replicate (La.length) (mp 0)).flatMap prC) :: Vw 2 va (La.length + 20) ((List.replicate (La.length + 20) (mp 0)).flatMap prC) :: Vw 2 b Lb.length ((List.replicate (Lb.length) (mp 1)).flatMap prC) :: Vw 2 vb (Lb.length + 20) ((List.replicate (Lb.length + 20) (mp 1)).flatMap prC) :: Vw 2 c Lc.length ((List.replicate (Lc.length) (mp 2)).flatMap prC) :: Vw 2 vc (Lc.length + 20) ((List.replicate (Lc.length + 20) (mp 2)).flatMap prC) :: My 1 y6 6 [va, vb, vc, a, b, c] :: My 1 y 3 [va, vb, vc] :: l) (fun k => Lb.length - k) (fun k => k ≤ Lb.length) 0 (Nat.zero_le _) (by (repeat first | exact Less.nil | refine Less.undef _ ?_ | refine Less.keep _ ?_)) H ?_
  clear H m0 m1 m2 m3 m4 m5
  rintro k hs hk H
  have m0 := (Sat.rd (v := y6) (by with_reducible first | exact H | exact H.p1 | exact H.p2 | exact H.p3 | exact H.p4 | exact H.p5 | exact H.p6 | exact H.p7 | exact H.p8)).ld1 (i := 0) s0 rfl
  have m1 := (Sat.rd (v := y6) (by with_reducible first | exact H | exact H.p1 | exact H.p2 | exact H.p3 | exact H.p4 | exact H.p5 | exact H.p6 | exact H.p7 | exact H.p8)).ld1 (i := 1) s1 rfl
  have m2 := (Sat.rd (v := y6) (by with_reducible first | exact H | exact H.p1 | exact H.p2 | exact H.p3 | exact H.p4 | exact H.p5 | exact H.p6 | exact H.p7 | exact H.p8)).ld1 (i := 2) s2 rfl
  have m3 := (Sat.rd (v := y6) (by with_reducible first | exact H | exact H.p1 | exact H.p2 | exact H.p3 | exact H.p4 | exact H.p5 | exact H.p6 | exact H.p7 | exact H.p8)).ld1 (i := 3) s3 rfl
  have m4 := (Sat.rd (v := y6) (by with_reducible first | exact H | exact H.p1 | exact H.p2 | exact H.p3 | exact H.p4 | exact H.p5 | exact H.p6 | exact H.p7 | exact H.p8)).ld1 (i := 4) s4 rfl
  have m5 := (Sat.rd (v := y6) (by with_reducible first | exact H | exact H.p1 | exact H.p2 | exact H.p3 | exact H.p4 | exact H.p5 | exact H.p6 | exact H.p7 | exact H.p8)).ld1 (i := 5) s5 rfl
  by_cases h3 : k < Lb.length
  · have R := (Sat.rdV (v := b) (by with_reducible first | exact H | exact H.p1 | exact H.p2 | exact H.p3 | exact H.p4 | exact H.p5 | exact H.p6 | exact H.p7 | exact H.p8))
    obtain ⟨hh, oo, hix, _, hld⟩ := R.idxF (s := 2) (fun _ => rfl) (by simp) (repP_get (i := 1) h3) .i64
    unfold prC mp at hld
    have so := R.sOk
    have d0 : decide (((k : Nat) : Int) < ((Lb.length : Nat) : Int)) = true := decide_eq_true (by omega)
    first | have f0 := Sat.pf (H) | have f0 := trivial
    first | have f1 := Sat.pf (H.t) | have f1 := trivial
    first | have f2 := Sat.pf (H.t.t) | have f2 := trivial
    first | have f3 := Sat.pf (H.t.t.t) | have f3 := trivial
    first | have f4 := Sat.pf (H.t.t.t.t) | have f4 := trivial
    first | have f5 := Sat.pf (H.t.t.t.t.t) | have f5 := trivial
    first | have f6 := Sat.pf (H.t.t.t.t.t.t) | have f6 := trivial
    first | have f7 := Sat.pf (H.t.t.t.t.t.t.t) | have f7 := trivial
    first | have f8 := Sat.pf (H.t.t.t.t.t.t.t.t) | have f8 := trivial
    repeat' first
      | ((with_reducible show Need _); refine need_of ?_; (first | have f0 := Sat.pf (H) | have f0 := trivial); (first | have f1 := Sat.pf (H.t) | have f1 := trivial); (first | have f2 := Sat.pf (H.t.t) | have f2 := trivial); (first | have f3 := Sat.pf (H.t.t.t) | have f3 := trivial); (first | have f4 := Sat.pf (H.t.t.t.t) | have f4 := trivial); (first | have f5 := Sat.pf (H.t.t.t.t.t) | have f5 := trivial); (first | have f6 := Sat.pf (H.t.t.t.t.t.t) | have f6 := trivial); (first | have f7 := Sat.pf (H.t.t.t.t.t.t.t) | have f7 := trivial); (first | have f8 := Sat.pf (H.t.t.t.t.t.t.t.t) | have f8 := trivial))
      | simp -implicitDefEqProofs (disch := first | omega | decide | exact rfl | assumption | exact Nat.le_of_ble_eq_true rfl | exact One.c | exact One.o) only [vsA, vsB, eq_self, if_true, if_false, implies_true, false_implies, evp, HX.ev, Nat.reduceAdd, HOp.looks, Nat.reduceEqDiff, overw, Nat.reduceBEq, d0, hix, hld, so, bm0, bm1, bm2, bn, r4, Bool.not_true, Bool.not_false, vadd1, va_ldA, va_loadA, ub26, f0, f1, f2, f3, f4, f5, f6, f7, f8]
      | (clear H f0 f1 f2 f3 f4 f5 f6 f7 f8; (with_reducible intro v2 hs H); (try simp only [setA, overw, Nat.reduceAdd] at H); refine need ?_)
      | ((with_reducible show drK _ _ _ _ _ _ _ _ _ (some ⟨_, HAct.call (HX.cst (HV.func (Fn.func 45) _ _)) _, none⟩)); refine vdr_call ok45 rfl (mark45 1 (by omega)) ?_; rintro _ _ ⟨rfl, rfl⟩)
      | refine opC_K ?_
      | ((with_reducible show opC (unit (hstore _ _ _ _)) _); refine sl_storeN (by with_reducible first | exact H | exact H.p1 | exact H.p2 | exact H.p3 | exact H.p4 | exact H.p5 | exact H.p6 | exact H.p7 | exact H.p8) rfl (Nat.le_of_ble_eq_true rfl) (by first | exact rfl | (simp only [f0, f1, f2, f3, f4, f5, f6, f7, f8]; done) | (simp only [onA, *]; done)) ?_)
      | ((with_reducible show opC (hbox _ _) _); refine sl_boxA H (by first | exact rfl | (simp only [f0, f1, f2, f3, f4, f5, f6, f7, f8]; done) | (simp only [onA, *]; done)) ?_)
      | refine hwp_draw mixed rfl ?_

    exact ⟨k + 1, _, by omega, by omega, (by (repeat first | exact Less.nil | refine Less.undef _ ?_ | refine Less.keep _ ?_)), Weak.refl _, H.t⟩
  obtain rfl : k = Lb.length := by omega
  have d0 : decide (((Lb.length : Nat) : Int) < ((Lb.length : Nat) : Int)) = false := decide_eq_false (by omega)
  first | have f0 := Sat.pf (H) | have f0 := trivial
  first | have f1 := Sat.pf (H.t) | have f1 := trivial
  first | have f2 := Sat.pf (H.t.t) | have f2 := trivial
  first | have f3 := Sat.pf (H.t.t.t) | have f3 := trivial
  first | have f4 := Sat.pf (H.t.t.t.t) | have f4 := trivial
  first | have f5 := Sat.pf (H.t.t.t.t.t) | have f5 := trivial
  first | have f6 := Sat.pf (H.t.t.t.t.t.t) | have f6 := trivial
  first | have f7 := Sat.pf (H.t.t.t.t.t.t.t) | have f7 := trivial
  first | have f8 := Sat.pf (H.t.t.t.t.t.t.t.t) | have f8 := trivial
  repeat' first
    | simp -implicitDefEqProofs (disch := first | omega | decide | exact rfl | assumption | exact Nat.le_of_ble_eq_true rfl | exact One.c | exact One.o) only [vsA, vsB, eq_self, if_true, if_false, implies_true, false_implies, evp, HX.ev, Nat.reduceAdd, HOp.looks, Nat.reduceEqDiff, overw, Nat.reduceBEq, d0, la, lb, lc, oy61, oy62, ly6, s0, s1, s2, s3, s4, s5, m0, m1, m2, m3, m4, m5, z01, z12, z23, z34, z45, z56, lr_succ, vadd1, lva, lvb, lvc, ub26, f0, f1, f2, f3, f4, f5, f6, f7, f8]
    | (refine condK_cases (fun h => ?_) (fun h => ?_) <;> (try simp only [h]) <;> (try simp only [athA, ne_eq] at h) <;> (try (exfalso; omega)))

  refine HW.loopA mixed (fun k : Nat => (.undef :: .undef :: .undef :: .undef :: .undef :: .undef :: .undef :: .undef :: .undef :: .undef :: .undef :: .undef :: .int .i64 5 :: .undef :: .undef :: .undef :: .undef :: .undef :: .undef :: .undef :: .undef :: .undef :: .undef :: .undef :: .undef :: .undef :: .undef :: .undef :: .undef :: .undef :: .undef :: .undef :: .undef :: .undef :: .undef :: .undef :: .undef :: .undef :: .undef :: .undef :: .undef :: .undef :: .undef :: .undef :: .undef :: .undef :: .undef :: .undef :: .undef :: .undef :: .undef :: .undef :: .undef :: .undef :: .undef :: .undef :: .undef :: .undef :: .undef :: .undef :: .undef :: .undef :: .undef :: .undef :: .undef :: .undef :: .undef :: .undef :: .undef :: .undef :: .undef :: .undef :: .undef :: y6 :: .int .i64 ((6 : Nat) : Int) :: .int .i64 5 :: .undef :: .undef :: .undef :: .undef :: c :: .int .i64 ((Lc.length : Nat) : Int) :: .int .i64 (k : Nat) :: .undef :: .undef :: .undef :: .undef :: .undef :: .undef :: .undef :: .undef :: .undef :: .undef :: .undef :: .undef :: .undef :: .undef :: .undef :: .undef :: [])) (fun k => Vw 2 a La.length ((List.replicate (La.length) (mp 0)).flatMap prC) :: Vw 2 va (La.length + 20) ((List.replicate (La.length + 20) (mp 0)).flatMap prC) :: Vw 2 b Lb.length ((List.replicate (Lb.length) (mp 1)).flatMap prC) :: Vw 2 vb (Lb.length + 20) ((List.replicate (Lb.length + 20) (mp 1)).flatMap prC) :: Vw 2 c Lc.length ((List.replicate (Lc.length) (mp 2)).flatMap prC) :: Vw 2 vc (Lc.length + 20) ((List.replicate (Lc.length + 20) (mp 2)).flatMap prC) :: My 1 y6 6 [va, vb, vc, a, b, c] :: My 1 y 3 [va, vb, vc] :: l) (fun k => Lc.length - k) (fun k => k ≤ Lc.length) 0 (Nat.zero_le _) (by (repeat first | exact Less.nil | refine Less.undef _ ?_ | refine Less.keep _ ?_)) H ?_
  clear H m0 m1 m2 m3 m4 m5
  rintro k hs hk H
  have m0 := (Sat.rd (v := y6) (by with_reducible first | exact H | exact H.p1 | exact H.p2 | exact H.p3 | exact H.p4 | exact H.p5 | exact H.p6 | exact H.p7 | exact H.p8)).ld1 (i := 0) s0 rfl
  have m1 := (Sat.rd (v := y6) (by with_reducible first | exact H | exact H.p1 | exact H.p2 | exact H.p3 | exact H.p4 | exact H.p5 | exact H.p6 | exact H.p7 | exact H.p8)).ld1 (i := 1) s1 rfl
  have m2 := (Sat.rd (v := y6) (by with_reducible first | exact H | exact H.p1 | exact H.p2 | exact H.p3 | exact H.p4 | exact H.p5 | exact H.p6 | exact H.p7 | exact H.p8)).ld1 (i := 2) s2 rfl
  have m3 := (Sat.rd (v := y6) (by with_reducible first | exact H | exact H.p1 | exact H.p2 | exact H.p3 | exact H.p4 | exact H.p5 | exact H.p6 | exact H.p7 | exact H.p8)).ld1 (i := 3) s3 rfl
  have m4 := (Sat.rd (v := y6) (by with_reducible first | exact H | exact H.p1 | exact H.p2 | exact H.p3 | exact H.p4 | exact H.p5 | exact H.p6 | exact H.p7 | exact H.p8)).ld1 (i := 4) s4 rfl
  have m5 := (Sat.rd (v := y6) (by with_reducible first | exact H | exact H.p1 | exact H.p2 | exact H.p3 | exact H.p4 | exact H.p5 | exact H.p6 | exact H.p7 | exact H.p8)).ld1 (i := 5) s5 rfl
  by_cases h3 : k < Lc.length
  · have R := (Sat.rdV (v := c) (by with_reducible first | exact H | exact H.p1 | exact H.p2 | exact H.p3 | exact H.p4 | exact H.p5 | exact H.p6 | exact H.p7 | exact H.p8))
    obtain ⟨hh, oo, hix, _, hld⟩ := R.idxF (s := 2) (fun _ => rfl) (by simp) (repP_get (i := 2) h3) .i64
    unfold prC mp at hld
    have so := R.sOk
    have d0 : decide (((k : Nat) : Int) < ((Lc.length : Nat) : Int)) = true := decide_eq_true (by omega)
    first | have f0 := Sat.pf (H) | have f0 := trivial
    first | have f1 := Sat.pf (H.t) | have f1 := trivial
    first | have f2 := Sat.pf (H.t.t) | have f2 := trivial
    first | have f3 := Sat.pf (H.t.t.t) | have f3 := trivial
    first | have f4 := Sat.pf (H.t.t.t.t) | have f4 := trivial
    first | have f5 := Sat.pf (H.t.t.t.t.t) | have f5 := trivial
    first | have f6 := Sat.pf (H.t.t.t.t.t.t) | have f6 := trivial
    first | have f7 := Sat.pf (H.t.t.t.t.t.t.t) | have f7 := trivial
    first | have f8 := Sat.pf (H.t.t.t.t.t.t.t.t) | have f8 := trivial
    repeat' first
      | ((with_reducible show Need _); refine need_of ?_; (first | have f0 := Sat.pf (H) | have f0 := trivial); (first | have f1 := Sat.pf (H.t) | have f1 := trivial); (first | have f2 := Sat.pf (H.t.t) | have f2 := trivial); (first | have f3 := Sat.pf (H.t.t.t) | have f3 := trivial); (first | have f4 := Sat.pf (H.t.t.t.t) | have f4 := trivial); (first | have f5 := Sat.pf (H.t.t.t.t.t) | have f5 := trivial); (first | have f6 := Sat.pf (H.t.t.t.t.t.t) | have f6 := trivial); (first | have f7 := Sat.pf (H.t.t.t.t.t.t.t) | have f7 := trivial); (first | have f8 := Sat.pf (H.t.t.t.t.t.t.t.t) | have f8 := trivial))
      | simp -implicitDefEqProofs (disch := first | omega | decide | exact rfl | assumption | exact Nat.le_of_ble_eq_true rfl | exact One.c | exact One.o) only [vsA, vsB, eq_self, if_true, if_false, implies_true, false_implies, evp, HX.ev, Nat.reduceAdd, HOp.looks, Nat.reduceEqDiff, overw, Nat.reduceBEq, d0, hix, hld, so, bm0, bm1, bm2, bn, r5, Bool.not_true, Bool.not_false, vadd1, va_ldA, va_loadA, ub26, f0, f1, f2, f3, f4, f5, f6, f7, f8]
      | (clear H f0 f1 f2 f3 f4 f5 f6 f7 f8; (with_reducible intro v2 hs H); (try simp only [setA, overw, Nat.reduceAdd] at H); refine need ?_)
      | ((with_reducible show drK _ _ _ _ _ _ _ _ _ (some ⟨_, HAct.call (HX.cst (HV.func (Fn.func 45) _ _)) _, none⟩)); refine vdr_call ok45 rfl (mark45 2 (by omega)) ?_; rintro _ _ ⟨rfl, rfl⟩)
      | refine opC_K ?_
      | ((with_reducible show opC (unit (hstore _ _ _ _)) _); refine sl_storeN (by with_reducible first | exact H | exact H.p1 | exact H.p2 | exact H.p3 | exact H.p4 | exact H.p5 | exact H.p6 | exact H.p7 | exact H.p8) rfl (Nat.le_of_ble_eq_true rfl) (by first | exact rfl | (simp only [f0, f1, f2, f3, f4, f5, f6, f7, f8]; done) | (simp only [onA, *]; done)) ?_)
      | ((with_reducible show opC (hbox _ _) _); refine sl_boxA H (by first | exact rfl | (simp only [f0, f1, f2, f3, f4, f5, f6, f7, f8]; done) | (simp only [onA, *]; done)) ?_)
      | refine hwp_draw mixed rfl ?_

    exact ⟨k + 1, _, by omega, by omega, (by (repeat first | exact Less.nil | refine Less.undef _ ?_ | refine Less.keep _ ?_)), Weak.refl _, H.t⟩
  obtain rfl : k = Lc.length := by omega
  have d0 : decide (((Lc.length : Nat) : Int) < ((Lc.length : Nat) : Int)) = false := decide_eq_false (by omega)
  first | have f0 := Sat.pf (H) | have f0 := trivial
  first | have f1 := Sat.pf (H.t) | have f1 := trivial
  first | have f2 := Sat.pf (H.t.t) | have f2 := trivial
  first | have f3 := Sat.pf (H.t.t.t) | have f3 := trivial
  first | have f4 := Sat.pf (H.t.t.t.t) | have f4 := trivial
  first | have f5 := Sat.pf (H.t.t.t.t.t) | have f5 := trivial
  first | have f6 := Sat.pf (H.t.t.t.t.t.t) | have f6 := trivial
  first | have f7 := Sat.pf (H.t.t.t.t.t.t.t) | have f7 := trivial
  first | have f8 := Sat.pf (H.t.t.t.t.t.t.t.t) | have f8 := trivial
  repeat' first
    | simp -implicitDefEqProofs (disch := first | omega | decide | exact rfl | assumption | exact Nat.le_of_ble_eq_true rfl | exact One.c | exact One.o) only [vsA, vsB, eq_self, if_true, if_false, implies_true, false_implies, evp, HX.ev, Nat.reduceAdd, HOp.looks, Nat.reduceEqDiff, overw, Nat.reduceBEq, d0, la, lb, lc, oy61, oy62, ly6, s0, s1, s2, s3, s4, s5, m0, m1, m2, m3, m4, m5, z01, z12, z23, z34, z45, z56, lr_succ, vadd1, lva, lvb, lvc, ub26, f0, f1, f2, f3, f4, f5, f6, f7, f8]
    | (refine condK_cases (fun h => ?_) (fun h => ?_) <;> (try simp only [h]) <;> (try simp only [athA, ne_eq] at h) <;> (try (exfalso; omega)))

end A
end Go.Proofs.YteedmbmgemiheaaDoor
namespace Go.Proofs.YteedmbmgemiheaaDoor
open Go Go.HL Go.Shelf Y
namespace A
set_option maxRecDepth 100000
set_option maxHeartbeats 40000000
set_option linter.unusedSimpArgs false
attribute [local irreducible] pt My Ex Vw Gr GrK GrS GsK each grp exs Sat takeCells happend hbuildSlice hstore hbox hslice hmakeSlice hs2b hcopy HL.unit opC mk
def behind : List UInt8 := [98, 101, 104, 105, 110, 100]
theorem hi_cut {hs : HS} {w : HV} {n : Nat} {X : List UInt8} {k : Nat} (R0 : Rd hs 1 w n (bcells X)) (hk : k ≤ n) : ∃ y, hslice w none (some (.int .i64 (k : Nat))) none = some y ∧ y.one = true ∧ y.cells = [y] ∧
    ∀ hs X, Rd hs 1 w n (bcells X) → Rd hs 1 y k (bcells (X.take k)) := by
  have go : ∀ hs X, Rd hs 1 w n (bcells X) → ∃ y, hslice w none (some (.int .i64 (k : Nat))) none = some y ∧ Rd hs 1 y k (bcells (X.take k)) := fun hs X R => by
    obtain ⟨y, h1, h2⟩ := R.cut Lo.none (Hi.some (hi := k) (k := .i64)) (Nat.zero_le _) hk
    refine ⟨y, h1, ?_⟩
    rw [Nat.zero_mul, List.drop_zero, Nat.sub_zero, Nat.mul_one] at h2
    unfold bcells at h2 ⊢
    rw [List.map_take]
    exact h2
  obtain ⟨y, hy, r1⟩ := go _ _ R0
  refine ⟨y, hy, r1.one, r1.cells, fun hs X R => ?_⟩
  obtain ⟨y2, hy2, r2⟩ := go _ _ R
  rw [hy] at hy2; cases hy2
  exact r2
theorem listGo_len : ∀ {n : Nat} {r : List UInt8} {L : List (List UInt8)}, listGo n r = some L → L.length ≤ r.length := by
  intro n r L h
  obtain ⟨rfl, hx⟩ := listGo_some h
  clear h hx
  induction L with
  | nil => simp
  | cons s L ih => rw [List.flatMap_cons, List.length_append, List.length_cons]; have : 3 ≤ (lineL s).length := by simp [lineL]
                   omega
theorem readL_len (b : List UInt8) : ((readL b).getD []).length ≤ b.length := by
  cases h : readL b with
  | none => simp
  | some L =>
    unfold readL at h
    split at h
    · have := listGo_len h
      rw [List.length_drop] at this
      simp only [Option.getD_some]; omega
    · cases h
theorem readD_len (b : List UInt8) : ((readD b).getD []).length ≤ b.length := by
  cases h : readD b with
  | none => simp
  | some D =>
    obtain ⟨h1, hx⟩ := readD_iff.1 h
    rw [h1]
    simp only [Option.getD_some]
    unfold writeD
    rw [List.length_append]
    clear h h1 hx
    induction D with
    | nil => simp
    | cons p D ih =>
      have : 3 ≤ (lineD p).length := by simp [lineD]; omega
      rw [List.flatMap_cons, List.length_append, List.length_cons]
      omega
theorem sl_copyX {hs : HS} {l : List SA} {v y : HV} {n m : Nat} {xs ys : List HV} {C : HV → HS → Prop} (H : Sat hs (Ex 1 v n xs :: l)) (R : Rd hs 1 y m ys)
    (next : ∀ hs', Sat hs' (My 1 v n (ys.take (min m n) ++ xs.drop (min m n)) :: l) → C (.int .i64 (min m n : Nat)) hs') : opC (hcopy hs 1 v y) C := sl_copy H.my R next
theorem cp_eq {a b : List UInt8} {k j : Nat} : (bcells a).take k ++ (bcells b).drop j = bcells (a.take k ++ b.drop j) := by simp [bcells]
theorem reads5 {hs : HS} {l : List SA} {bv ov : HV} {b ot : List UInt8} (H : Sat hs l) (RB : Rdl l bv b.length (bcells b)) (RO : Rdl l ov ot.length (bcells ot)) (G : ∀ hs, Sat hs l → hs[0]? = some (some (HB.gint 1))) (hb : b.length ≤ 1048576) (ho : ot.length ≤ 1048576) :
    HC Tryd.prog 5 [bv, ov] hs fun v _ => v = .bool true := by
  have hmax : maxLen = 9223372036854775807 := rfl
  have one := (RB _ H).one
  have cel := (RB _ H).cells
  have len := (RB _ H).len
  have one2 := (RO _ H).one
  have cel2 := (RO _ H).cells
  have len2 := (RO _ H).len
  have tk := (RB _ H).take
  refine HC.wp mixed Tryd.func5 c5 ?_
  first | have f0 := Sat.pf (H) | have f0 := trivial
  first | have f1 := Sat.pf (H.t) | have f1 := trivial
  first | have f2 := Sat.pf (H.t.t) | have f2 := trivial
  first | have f3 := Sat.pf (H.t.t.t) | have f3 := trivial
  first | have f4 := Sat.pf (H.t.t.t.t) | have f4 := trivial
  first | have f5 := Sat.pf (H.t.t.t.t.t) | have f5 := trivial
  first | have f6 := Sat.pf (H.t.t.t.t.t.t) | have f6 := trivial
  first | have f7 := Sat.pf (H.t.t.t.t.t.t.t) | have f7 := trivial
  first | have f8 := Sat.pf (H.t.t.t.t.t.t.t.t) | have f8 := trivial
  first | have f9 := Sat.pf (H.t.t.t.t.t.t.t.t.t) | have f9 := trivial
  first | have f10 := Sat.pf (H.t.t.t.t.t.t.t.t.t.t) | have f10 := trivial
  first | have f11 := Sat.pf (H.t.t.t.t.t.t.t.t.t.t.t) | have f11 := trivial
  first | have f12 := Sat.pf (H.t.t.t.t.t.t.t.t.t.t.t.t) | have f12 := trivial
  first | have f13 := Sat.pf (H.t.t.t.t.t.t.t.t.t.t.t.t.t) | have f13 := trivial
  repeat' first
    | ((with_reducible show Need _); refine need_of ?_; (first | have f0 := Sat.pf (H) | have f0 := trivial); (first | have f1 := Sat.pf (H.t) | have f1 := trivial); (first | have f2 := Sat.pf (H.t.t) | have f2 := trivial); (first | have f3 := Sat.pf (H.t.t.t) | have f3 := trivial); (first | have f4 := Sat.pf (H.t.t.t.t) | have f4 := trivial); (first | have f5 := Sat.pf (H.t.t.t.t.t) | have f5 := trivial); (first | have f6 := Sat.pf (H.t.t.t.t.t.t) | have f6 := trivial); (first | have f7 := Sat.pf (H.t.t.t.t.t.t.t) | have f7 := trivial); (first | have f8 := Sat.pf (H.t.t.t.t.t.t.t.t) | have f8 := trivial); (first | have f9 := Sat.pf (H.t.t.t.t.t.t.t.t.t) | have f9 := trivial); (first | have f10 := Sat.pf (H.t.t.t.t.t.t.t.t.t.t) | have f10 := trivial); (first | have f11 := Sat.pf (H.t.t.t.t.t.t.t.t.t.t.t) | have f11 := trivial); (first | have f12 := Sat.pf (H.t.t.t.t.t.t.t.t.t.t.t.t) | have f12 := trivial); (first | have f13 := Sat.pf (H.t.t.t.t.t.t.t.t.t.t.t.t.t) | have f13 := trivial); (first | have tk := (RB _ (by with_reducible first | exact H | exact H.t | exact H.t.t | exact H.t.t.t | exact H.t.t.t.t | exact H.t.t.t.t.t | exact H.t.t.t.t.t.t | exact H.t.t.t.t.t.t.t | exact H.t.t.t.t.t.t.t.t | exact H.t.t.t.t.t.t.t.t.t | exact H.t.t.t.t.t.t.t.t.t.t | exact H.t.t.t.t.t.t.t.t.t.t.t | exact H.t.t.t.t.t.t.t.t.t.t.t.t | exact H.t.t.t.t.t.t.t.t.t.t.t.t.t)).take | skip))
    | simp -implicitDefEqProofs (disch := first | omega | decide | exact rfl | assumption | exact Nat.le_of_ble_eq_true rfl | exact One.c | exact One.o) only [vsA, vsB, eq_self, if_true, if_false, implies_true, false_implies, evp, HX.ev, Nat.reduceAdd, HOp.looks, Nat.reduceEqDiff, overw, Nat.reduceBEq, h5, one, cel, len, one2, cel2, len2, ub5, f0, f1, f2, f3, f4, f5, f6, f7, f8, f9, f10, f11, f12, f13, frame0, List.replicate, Nat.sub]
    | ((with_reducible show actK _ (HAct.call (HX.cst (HV.func (Fn.func 9) _ _)) _) _ _ _ _ _); refine vcall_of ok9 rfl (shown9 H (G _ H)) ?_;  clear H f0 f1 f2 f3 f4 f5 f6 f7 f8 f9 f10 f11 f12 f13; rintro v hs ⟨rfl, H⟩; refine need ?_)
    | refine opC_K ?_
    | ((with_reducible show opC (happend _ _ _ _ _) _); refine sl_append0X (m := b.length) (ns := bcells b) H tk (by first | exact roomFor_of (by omega) | exact roomFor_wide (by omega)) (by omega) ?_; clear H f0 f1 f2 f3 f4 f5 f6 f7 f8 f9 f10 f11 f12 f13; intro w0 hs H; refine need ?_)
    | ((with_reducible show opC (happend _ _ _ _ _) _); refine sl_appendX (n := b.length) (xs := bcells b) (m := 6) (ns := bcells behind) (by with_reducible first | exact H | exact H.p1 | exact H.p2 | exact H.p3 | exact H.p4 | exact H.p5 | exact H.p6 | exact H.p7 | exact H.p8 | exact H.p9 | exact H.p10 | exact H.p11 | exact H.p12 | exact H.p13) (takeS (b := behind)) (by first | exact roomFor_of (by omega) | exact roomFor_wide (by omega)) (by omega) ?_; clear H f0 f1 f2 f3 f4 f5 f6 f7 f8 f9 f10 f11 f12 f13; intro w hs H; refine need ?_)

  rw [← bc_app] at H
  obtain ⟨X0, hX0⟩ : ∃ X, X = b ++ behind := ⟨_, rfl⟩
  have hX0l : X0.length = b.length + 6 := by rw [hX0, List.length_append]; rfl
  rw [← hX0] at H
  obtain ⟨y, hy, oy1, oy2, hyr⟩ := hi_cut (k := b.length) H.rdX (by omega)
  have hyt : X0.take b.length = b := by rw [hX0, List.take_left]
  have hyr1 : ∀ hs l, Sat hs (Ex 1 w (b.length + 6) (bcells X0) :: l) → Rd hs 1 y b.length (bcells b) := fun hs l H => by
    have h := hyr _ _ H.rdX
    rwa [hyt] at h
  have eL := refL_eq b
  have eD := refD_eq b
  first | have f0 := Sat.pf (H) | have f0 := trivial
  first | have f1 := Sat.pf (H.t) | have f1 := trivial
  first | have f2 := Sat.pf (H.t.t) | have f2 := trivial
  first | have f3 := Sat.pf (H.t.t.t) | have f3 := trivial
  first | have f4 := Sat.pf (H.t.t.t.t) | have f4 := trivial
  first | have f5 := Sat.pf (H.t.t.t.t.t) | have f5 := trivial
  first | have f6 := Sat.pf (H.t.t.t.t.t.t) | have f6 := trivial
  first | have f7 := Sat.pf (H.t.t.t.t.t.t.t) | have f7 := trivial
  first | have f8 := Sat.pf (H.t.t.t.t.t.t.t.t) | have f8 := trivial
  first | have f9 := Sat.pf (H.t.t.t.t.t.t.t.t.t) | have f9 := trivial
  first | have f10 := Sat.pf (H.t.t.t.t.t.t.t.t.t.t) | have f10 := trivial
  first | have f11 := Sat.pf (H.t.t.t.t.t.t.t.t.t.t.t) | have f11 := trivial
  first | have f12 := Sat.pf (H.t.t.t.t.t.t.t.t.t.t.t.t) | have f12 := trivial
  first | have f13 := Sat.pf (H.t.t.t.t.t.t.t.t.t.t.t.t.t) | have f13 := trivial
  repeat' first
    | simp -implicitDefEqProofs (disch := first | omega | decide | exact rfl | assumption | exact Nat.le_of_ble_eq_true rfl | exact One.c | exact One.o) only [vsA, vsB, eq_self, if_true, if_false, implies_true, false_implies, evp, HX.ev, Nat.reduceAdd, HOp.looks, Nat.reduceEqDiff, overw, Nat.reduceBEq, one, cel, len, one2, cel2, len2, hy, oy1, oy2, ub5, f0, f1, f2, f3, f4, f5, f6, f7, f8, f9, f10, f11, f12, f13]

  refine vcall_of ok15 rfl (readList15 H (fun _ h => hyr1 _ _ h) (fun _ h => G _ (by with_reducible first | exact h | exact h.t | exact h.t.t | exact h.t.t.t | exact h.t.t.t.t | exact h.t.t.t.t.t | exact h.t.t.t.t.t.t | exact h.t.t.t.t.t.t.t | exact h.t.t.t.t.t.t.t.t | exact h.t.t.t.t.t.t.t.t.t | exact h.t.t.t.t.t.t.t.t.t.t | exact h.t.t.t.t.t.t.t.t.t.t.t | exact h.t.t.t.t.t.t.t.t.t.t.t.t | exact h.t.t.t.t.t.t.t.t.t.t.t.t.t)) (by omega)) ?_
  (clear H f0 f1 f2 f3 f4 f5 f6 f7 f8 f9 f10 f11 f12 f13; rintro _ hs ⟨w1, rfl, H⟩)
  have o11 := H.rdX.one
  have o12 := H.rdX.cells
  first | have f0 := Sat.pf (H) | have f0 := trivial
  first | have f1 := Sat.pf (H.t) | have f1 := trivial
  first | have f2 := Sat.pf (H.t.t) | have f2 := trivial
  first | have f3 := Sat.pf (H.t.t.t) | have f3 := trivial
  first | have f4 := Sat.pf (H.t.t.t.t) | have f4 := trivial
  first | have f5 := Sat.pf (H.t.t.t.t.t) | have f5 := trivial
  first | have f6 := Sat.pf (H.t.t.t.t.t.t) | have f6 := trivial
  first | have f7 := Sat.pf (H.t.t.t.t.t.t.t) | have f7 := trivial
  first | have f8 := Sat.pf (H.t.t.t.t.t.t.t.t) | have f8 := trivial
  first | have f9 := Sat.pf (H.t.t.t.t.t.t.t.t.t) | have f9 := trivial
  first | have f10 := Sat.pf (H.t.t.t.t.t.t.t.t.t.t) | have f10 := trivial
  first | have f11 := Sat.pf (H.t.t.t.t.t.t.t.t.t.t.t) | have f11 := trivial
  first | have f12 := Sat.pf (H.t.t.t.t.t.t.t.t.t.t.t.t) | have f12 := trivial
  first | have f13 := Sat.pf (H.t.t.t.t.t.t.t.t.t.t.t.t.t) | have f13 := trivial
  repeat' first
    | simp -implicitDefEqProofs (disch := first | omega | decide | exact rfl | assumption | exact Nat.le_of_ble_eq_true rfl | exact One.c | exact One.o) only [vsA, vsB, eq_self, if_true, if_false, implies_true, false_implies, evp, HX.ev, Nat.reduceAdd, HOp.looks, Nat.reduceEqDiff, overw, Nat.reduceBEq, one, cel, len, one2, cel2, len2, hy, oy1, oy2, o11, o12, ub5, f0, f1, f2, f3, f4, f5, f6, f7, f8, f9, f10, f11, f12, f13]

  refine vcall_of ok15 rfl (readList15 H (fun _ h => hyr1 _ _ h.p1) (fun _ h => G _ (by with_reducible first | exact h | exact h.t | exact h.t.t | exact h.t.t.t | exact h.t.t.t.t | exact h.t.t.t.t.t | exact h.t.t.t.t.t.t | exact h.t.t.t.t.t.t.t | exact h.t.t.t.t.t.t.t.t | exact h.t.t.t.t.t.t.t.t.t | exact h.t.t.t.t.t.t.t.t.t.t | exact h.t.t.t.t.t.t.t.t.t.t.t | exact h.t.t.t.t.t.t.t.t.t.t.t.t | exact h.t.t.t.t.t.t.t.t.t.t.t.t.t)) (by omega)) ?_
  (clear H f0 f1 f2 f3 f4 f5 f6 f7 f8 f9 f10 f11 f12 f13; rintro _ hs ⟨w2, rfl, H⟩)
  have o21 := H.rdX.one
  have o22 := H.rdX.cells
  first | have f0 := Sat.pf (H) | have f0 := trivial
  first | have f1 := Sat.pf (H.t) | have f1 := trivial
  first | have f2 := Sat.pf (H.t.t) | have f2 := trivial
  first | have f3 := Sat.pf (H.t.t.t) | have f3 := trivial
  first | have f4 := Sat.pf (H.t.t.t.t) | have f4 := trivial
  first | have f5 := Sat.pf (H.t.t.t.t.t) | have f5 := trivial
  first | have f6 := Sat.pf (H.t.t.t.t.t.t) | have f6 := trivial
  first | have f7 := Sat.pf (H.t.t.t.t.t.t.t) | have f7 := trivial
  first | have f8 := Sat.pf (H.t.t.t.t.t.t.t.t) | have f8 := trivial
  first | have f9 := Sat.pf (H.t.t.t.t.t.t.t.t.t) | have f9 := trivial
  first | have f10 := Sat.pf (H.t.t.t.t.t.t.t.t.t.t) | have f10 := trivial
  first | have f11 := Sat.pf (H.t.t.t.t.t.t.t.t.t.t.t) | have f11 := trivial
  first | have f12 := Sat.pf (H.t.t.t.t.t.t.t.t.t.t.t.t) | have f12 := trivial
  first | have f13 := Sat.pf (H.t.t.t.t.t.t.t.t.t.t.t.t.t) | have f13 := trivial
  repeat' first
    | simp -implicitDefEqProofs (disch := first | omega | decide | exact rfl | assumption | exact Nat.le_of_ble_eq_true rfl | exact One.c | exact One.o) only [vsA, vsB, eq_self, if_true, if_false, implies_true, false_implies, evp, HX.ev, Nat.reduceAdd, HOp.looks, Nat.reduceEqDiff, overw, Nat.reduceBEq, one, cel, len, one2, cel2, len2, hy, oy1, oy2, o11, o12, o21, o22, ub5, f0, f1, f2, f3, f4, f5, f6, f7, f8, f9, f10, f11, f12, f13]

  refine vcall_of ok21 rfl (readDict21 H (fun _ h => hyr1 _ _ h.p2) (fun _ h => G _ (by with_reducible first | exact h | exact h.t | exact h.t.t | exact h.t.t.t | exact h.t.t.t.t | exact h.t.t.t.t.t | exact h.t.t.t.t.t.t | exact h.t.t.t.t.t.t.t | exact h.t.t.t.t.t.t.t.t | exact h.t.t.t.t.t.t.t.t.t | exact h.t.t.t.t.t.t.t.t.t.t | exact h.t.t.t.t.t.t.t.t.t.t.t | exact h.t.t.t.t.t.t.t.t.t.t.t.t | exact h.t.t.t.t.t.t.t.t.t.t.t.t.t)) (by omega)) ?_
  (clear H f0 f1 f2 f3 f4 f5 f6 f7 f8 f9 f10 f11 f12 f13; rintro _ hs ⟨d1, rfl, H⟩)
  have o31 := H.rdX.one
  have o32 := H.rdX.cells
  first | have f0 := Sat.pf (H) | have f0 := trivial
  first | have f1 := Sat.pf (H.t) | have f1 := trivial
  first | have f2 := Sat.pf (H.t.t) | have f2 := trivial
  first | have f3 := Sat.pf (H.t.t.t) | have f3 := trivial
  first | have f4 := Sat.pf (H.t.t.t.t) | have f4 := trivial
  first | have f5 := Sat.pf (H.t.t.t.t.t) | have f5 := trivial
  first | have f6 := Sat.pf (H.t.t.t.t.t.t) | have f6 := trivial
  first | have f7 := Sat.pf (H.t.t.t.t.t.t.t) | have f7 := trivial
  first | have f8 := Sat.pf (H.t.t.t.t.t.t.t.t) | have f8 := trivial
  first | have f9 := Sat.pf (H.t.t.t.t.t.t.t.t.t) | have f9 := trivial
  first | have f10 := Sat.pf (H.t.t.t.t.t.t.t.t.t.t) | have f10 := trivial
  first | have f11 := Sat.pf (H.t.t.t.t.t.t.t.t.t.t.t) | have f11 := trivial
  first | have f12 := Sat.pf (H.t.t.t.t.t.t.t.t.t.t.t.t) | have f12 := trivial
  first | have f13 := Sat.pf (H.t.t.t.t.t.t.t.t.t.t.t.t.t) | have f13 := trivial
  repeat' first
    | simp -implicitDefEqProofs (disch := first | omega | decide | exact rfl | assumption | exact Nat.le_of_ble_eq_true rfl | exact One.c | exact One.o) only [vsA, vsB, eq_self, if_true, if_false, implies_true, false_implies, evp, HX.ev, Nat.reduceAdd, HOp.looks, Nat.reduceEqDiff, overw, Nat.reduceBEq, one, cel, len, one2, cel2, len2, hy, oy1, oy2, o11, o12, o21, o22, o31, o32, ub5, f0, f1, f2, f3, f4, f5, f6, f7, f8, f9, f10, f11, f12, f13]

  refine vcall_of ok21 rfl (readDict21 H (fun _ h => hyr1 _ _ h.p3) (fun _ h => G _ (by with_reducible first | exact h | exact h.t | exact h.t.t | exact h.t.t.t | exact h.t.t.t.t | exact h.t.t.t.t.t | exact h.t.t.t.t.t.t | exact h.t.t.t.t.t.t.t | exact h.t.t.t.t.t.t.t.t | exact h.t.t.t.t.t.t.t.t.t | exact h.t.t.t.t.t.t.t.t.t.t | exact h.t.t.t.t.t.t.t.t.t.t.t | exact h.t.t.t.t.t.t.t.t.t.t.t.t | exact h.t.t.t.t.t.t.t.t.t.t.t.t.t)) (by omega)) ?_
  (clear H f0 f1 f2 f3 f4 f5 f6 f7 f8 f9 f10 f11 f12 f13; rintro _ hs ⟨d2, rfl, H⟩)
  have o41 := H.rdX.one
  have o42 := H.rdX.cells
  first | have f0 := Sat.pf (H) | have f0 := trivial
  first | have f1 := Sat.pf (H.t) | have f1 := trivial
  first | have f2 := Sat.pf (H.t.t) | have f2 := trivial
  first | have f3 := Sat.pf (H.t.t.t) | have f3 := trivial
  first | have f4 := Sat.pf (H.t.t.t.t) | have f4 := trivial
  first | have f5 := Sat.pf (H.t.t.t.t.t) | have f5 := trivial
  first | have f6 := Sat.pf (H.t.t.t.t.t.t) | have f6 := trivial
  first | have f7 := Sat.pf (H.t.t.t.t.t.t.t) | have f7 := trivial
  first | have f8 := Sat.pf (H.t.t.t.t.t.t.t.t) | have f8 := trivial
  first | have f9 := Sat.pf (H.t.t.t.t.t.t.t.t.t) | have f9 := trivial
  first | have f10 := Sat.pf (H.t.t.t.t.t.t.t.t.t.t) | have f10 := trivial
  first | have f11 := Sat.pf (H.t.t.t.t.t.t.t.t.t.t.t) | have f11 := trivial
  first | have f12 := Sat.pf (H.t.t.t.t.t.t.t.t.t.t.t.t) | have f12 := trivial
  first | have f13 := Sat.pf (H.t.t.t.t.t.t.t.t.t.t.t.t.t) | have f13 := trivial
  repeat' first
    | simp -implicitDefEqProofs (disch := first | omega | decide | exact rfl | assumption | exact Nat.le_of_ble_eq_true rfl | exact One.c | exact One.o) only [vsA, vsB, eq_self, if_true, if_false, implies_true, false_implies, evp, HX.ev, Nat.reduceAdd, HOp.looks, Nat.reduceEqDiff, overw, Nat.reduceBEq, one, cel, len, one2, cel2, len2, hy, oy1, oy2, o11, o12, o21, o22, o31, o32, o41, o42, ub5, f0, f1, f2, f3, f4, f5, f6, f7, f8, f9, f10, f11, f12, f13]

  refine vcall_of ok23 rfl (readList23 H (fun _ h => RB _ (by with_reducible first | exact h | exact h.t | exact h.t.t | exact h.t.t.t | exact h.t.t.t.t | exact h.t.t.t.t.t | exact h.t.t.t.t.t.t | exact h.t.t.t.t.t.t.t | exact h.t.t.t.t.t.t.t.t | exact h.t.t.t.t.t.t.t.t.t | exact h.t.t.t.t.t.t.t.t.t.t | exact h.t.t.t.t.t.t.t.t.t.t.t | exact h.t.t.t.t.t.t.t.t.t.t.t.t | exact h.t.t.t.t.t.t.t.t.t.t.t.t.t)) (by omega)) ?_
  (clear H f0 f1 f2 f3 f4 f5 f6 f7 f8 f9 f10 f11 f12 f13; rintro _ hs ⟨r1, rfl, H⟩; simp only [eL] at H ⊢)
  have o51 := H.rd.one
  have o52 := H.rd.cells
  first | have f0 := Sat.pf (H) | have f0 := trivial
  first | have f1 := Sat.pf (H.t) | have f1 := trivial
  first | have f2 := Sat.pf (H.t.t) | have f2 := trivial
  first | have f3 := Sat.pf (H.t.t.t) | have f3 := trivial
  first | have f4 := Sat.pf (H.t.t.t.t) | have f4 := trivial
  first | have f5 := Sat.pf (H.t.t.t.t.t) | have f5 := trivial
  first | have f6 := Sat.pf (H.t.t.t.t.t.t) | have f6 := trivial
  first | have f7 := Sat.pf (H.t.t.t.t.t.t.t) | have f7 := trivial
  first | have f8 := Sat.pf (H.t.t.t.t.t.t.t.t) | have f8 := trivial
  first | have f9 := Sat.pf (H.t.t.t.t.t.t.t.t.t) | have f9 := trivial
  first | have f10 := Sat.pf (H.t.t.t.t.t.t.t.t.t.t) | have f10 := trivial
  first | have f11 := Sat.pf (H.t.t.t.t.t.t.t.t.t.t.t) | have f11 := trivial
  first | have f12 := Sat.pf (H.t.t.t.t.t.t.t.t.t.t.t.t) | have f12 := trivial
  first | have f13 := Sat.pf (H.t.t.t.t.t.t.t.t.t.t.t.t.t) | have f13 := trivial
  repeat' first
    | simp -implicitDefEqProofs (disch := first | omega | decide | exact rfl | assumption | exact Nat.le_of_ble_eq_true rfl | exact One.c | exact One.o) only [vsA, vsB, eq_self, if_true, if_false, implies_true, false_implies, evp, HX.ev, Nat.reduceAdd, HOp.looks, Nat.reduceEqDiff, overw, Nat.reduceBEq, one, cel, len, one2, cel2, len2, hy, oy1, oy2, o11, o12, o21, o22, o31, o32, o41, o42, o51, o52, ub5, f0, f1, f2, f3, f4, f5, f6, f7, f8, f9, f10, f11, f12, f13]

  refine vcall_of ok24 rfl (readDict24 H (fun _ h => RB _ (by with_reducible first | exact h | exact h.t | exact h.t.t | exact h.t.t.t | exact h.t.t.t.t | exact h.t.t.t.t.t | exact h.t.t.t.t.t.t | exact h.t.t.t.t.t.t.t | exact h.t.t.t.t.t.t.t.t | exact h.t.t.t.t.t.t.t.t.t | exact h.t.t.t.t.t.t.t.t.t.t | exact h.t.t.t.t.t.t.t.t.t.t.t | exact h.t.t.t.t.t.t.t.t.t.t.t.t | exact h.t.t.t.t.t.t.t.t.t.t.t.t.t)) (by omega)) ?_
  (clear H f0 f1 f2 f3 f4 f5 f6 f7 f8 f9 f10 f11 f12 f13; rintro _ hs ⟨r2, rfl, H⟩; simp only [eD] at H ⊢)
  have o61 := H.rd.one
  have o62 := H.rd.cells
  obtain ⟨Lr, hLr⟩ : ∃ L, L = (readL b).getD [] := ⟨_, rfl⟩
  obtain ⟨Dr, hDr⟩ : ∃ D, D = (readD b).getD [] := ⟨_, rfl⟩
  obtain ⟨cl, hcl⟩ : ∃ c, c = okI (readL b).isSome := ⟨_, rfl⟩
  obtain ⟨cd, hcd⟩ : ∃ c, c = okI (readD b).isSome := ⟨_, rfl⟩
  rw [← hLr, ← hDr] at H
  rw [← hcl, ← hcd]
  have hLl : Lr.length ≤ b.length := by rw [hLr]; exact readL_len b
  have hDl : Dr.length ≤ b.length := by rw [hDr]; exact readD_len b
  have bL : (Lr == Lr) = true := by simp
  have bD : (Dr == Dr) = true := by simp
  have bX : (X0 == X0) = true := by simp
  have rs0 := rd_b2sK (Sat.rdX (v := w) (xs := bcells X0) (by with_reducible first | exact H | exact H.p1 | exact H.p2 | exact H.p3 | exact H.p4 | exact H.p5 | exact H.p6 | exact H.p7 | exact H.p8 | exact H.p9 | exact H.p10 | exact H.p11 | exact H.p12 | exact H.p13))
  have rs1 := rd_b2sK (RB _ (by with_reducible first | exact H | exact H.t | exact H.t.t | exact H.t.t.t | exact H.t.t.t.t | exact H.t.t.t.t.t | exact H.t.t.t.t.t.t | exact H.t.t.t.t.t.t.t | exact H.t.t.t.t.t.t.t.t | exact H.t.t.t.t.t.t.t.t.t | exact H.t.t.t.t.t.t.t.t.t.t | exact H.t.t.t.t.t.t.t.t.t.t.t | exact H.t.t.t.t.t.t.t.t.t.t.t.t | exact H.t.t.t.t.t.t.t.t.t.t.t.t.t))
  have vs : hbin .add none (.str b) (.str [98, 101, 104, 105, 110, 100]) = some (.str X0) := by rw [hX0]; exact vsadd (by simp; omega)
  first | have f0 := Sat.pf (H) | have f0 := trivial
  first | have f1 := Sat.pf (H.t) | have f1 := trivial
  first | have f2 := Sat.pf (H.t.t) | have f2 := trivial
  first | have f3 := Sat.pf (H.t.t.t) | have f3 := trivial
  first | have f4 := Sat.pf (H.t.t.t.t) | have f4 := trivial
  first | have f5 := Sat.pf (H.t.t.t.t.t) | have f5 := trivial
  first | have f6 := Sat.pf (H.t.t.t.t.t.t) | have f6 := trivial
  first | have f7 := Sat.pf (H.t.t.t.t.t.t.t) | have f7 := trivial
  first | have f8 := Sat.pf (H.t.t.t.t.t.t.t.t) | have f8 := trivial
  first | have f9 := Sat.pf (H.t.t.t.t.t.t.t.t.t) | have f9 := trivial
  first | have f10 := Sat.pf (H.t.t.t.t.t.t.t.t.t.t) | have f10 := trivial
  first | have f11 := Sat.pf (H.t.t.t.t.t.t.t.t.t.t.t) | have f11 := trivial
  first | have f12 := Sat.pf (H.t.t.t.t.t.t.t.t.t.t.t.t) | have f12 := trivial
  first | have f13 := Sat.pf (H.t.t.t.t.t.t.t.t.t.t.t.t.t) | have f13 := trivial
  repeat' first
    | simp -implicitDefEqProofs (disch := first | omega | decide | exact rfl | assumption | exact Nat.le_of_ble_eq_true rfl | exact One.c | exact One.o) only [vsA, vsB, eq_self, if_true, if_false, implies_true, false_implies, evp, HX.ev, Nat.reduceAdd, HOp.looks, Nat.reduceEqDiff, overw, Nat.reduceBEq, one, cel, len, one2, cel2, len2, hy, oy1, oy2, rs0, rs1, vs, bX, bL, bD, o11, o12, o21, o22, o31, o32, o41, o42, o51, o52, o61, o62, Bool.not_true, Bool.not_false, decide_true, ub5, f0, f1, f2, f3, f4, f5, f6, f7, f8, f9, f10, f11, f12, f13]
    | ((with_reducible show actK _ (HAct.call (HX.cst (HV.func (Fn.func 16) _ _)) _) _ _ _ _ _); refine vcall_of ok16 rfl (texts16 (x := Lr) (y := Lr) (Sat.rdX (v := w1) (by with_reducible first | exact H | exact H.p1 | exact H.p2 | exact H.p3 | exact H.p4 | exact H.p5 | exact H.p6 | exact H.p7 | exact H.p8 | exact H.p9 | exact H.p10 | exact H.p11 | exact H.p12 | exact H.p13)) (Sat.rd (v := r1) (by with_reducible first | exact H | exact H.p1 | exact H.p2 | exact H.p3 | exact H.p4 | exact H.p5 | exact H.p6 | exact H.p7 | exact H.p8 | exact H.p9 | exact H.p10 | exact H.p11 | exact H.p12 | exact H.p13)) (by omega) (by omega)) ?_;  (rw [bL]; rintro _ _ ⟨rfl, rfl⟩))
    | ((with_reducible show actK _ (HAct.call (HX.cst (HV.func (Fn.func 16) _ _)) _) _ _ _ _ _); refine vcall_of ok16 rfl (texts16 (x := Lr) (y := Lr) (Sat.rdX (v := w2) (by with_reducible first | exact H | exact H.p1 | exact H.p2 | exact H.p3 | exact H.p4 | exact H.p5 | exact H.p6 | exact H.p7 | exact H.p8 | exact H.p9 | exact H.p10 | exact H.p11 | exact H.p12 | exact H.p13)) (Sat.rd (v := r1) (by with_reducible first | exact H | exact H.p1 | exact H.p2 | exact H.p3 | exact H.p4 | exact H.p5 | exact H.p6 | exact H.p7 | exact H.p8 | exact H.p9 | exact H.p10 | exact H.p11 | exact H.p12 | exact H.p13)) (by omega) (by omega)) ?_;  (rw [bL]; rintro _ _ ⟨rfl, rfl⟩))
    | ((with_reducible show actK _ (HAct.call (HX.cst (HV.func (Fn.func 22) _ _)) _) _ _ _ _ _); refine vcall_of ok22 rfl (pairs22 (x := Dr) (y := Dr) (Sat.rdX (v := d1) (by with_reducible first | exact H | exact H.p1 | exact H.p2 | exact H.p3 | exact H.p4 | exact H.p5 | exact H.p6 | exact H.p7 | exact H.p8 | exact H.p9 | exact H.p10 | exact H.p11 | exact H.p12 | exact H.p13)) (Sat.rd (v := r2) (by with_reducible first | exact H | exact H.p1 | exact H.p2 | exact H.p3 | exact H.p4 | exact H.p5 | exact H.p6 | exact H.p7 | exact H.p8 | exact H.p9 | exact H.p10 | exact H.p11 | exact H.p12 | exact H.p13)) (by omega) (by omega)) ?_;  (rw [bD]; rintro _ _ ⟨rfl, rfl⟩))
    | ((with_reducible show actK _ (HAct.call (HX.cst (HV.func (Fn.func 22) _ _)) _) _ _ _ _ _); refine vcall_of ok22 rfl (pairs22 (x := Dr) (y := Dr) (Sat.rdX (v := d2) (by with_reducible first | exact H | exact H.p1 | exact H.p2 | exact H.p3 | exact H.p4 | exact H.p5 | exact H.p6 | exact H.p7 | exact H.p8 | exact H.p9 | exact H.p10 | exact H.p11 | exact H.p12 | exact H.p13)) (Sat.rd (v := r2) (by with_reducible first | exact H | exact H.p1 | exact H.p2 | exact H.p3 | exact H.p4 | exact H.p5 | exact H.p6 | exact H.p7 | exact H.p8 | exact H.p9 | exact H.p10 | exact H.p11 | exact H.p12 | exact H.p13)) (by omega) (by omega)) ?_;  (rw [bD]; rintro _ _ ⟨rfl, rfl⟩))
    | refine opC_K ?_

  refine sl_append0X (m := b.length) (ns := bcells b) H (RB _ (by with_reducible first | exact H | exact H.t | exact H.t.t | exact H.t.t.t | exact H.t.t.t.t | exact H.t.t.t.t.t | exact H.t.t.t.t.t.t | exact H.t.t.t.t.t.t.t | exact H.t.t.t.t.t.t.t.t | exact H.t.t.t.t.t.t.t.t.t | exact H.t.t.t.t.t.t.t.t.t.t | exact H.t.t.t.t.t.t.t.t.t.t.t | exact H.t.t.t.t.t.t.t.t.t.t.t.t | exact H.t.t.t.t.t.t.t.t.t.t.t.t.t)).take (roomFor_of (by omega)) (by omega) ?_
  (clear H f0 f1 f2 f3 f4 f5 f6 f7 f8 f9 f10 f11 f12 f13; intro nw hs H)
  have on1 := H.rdX.one
  have on2 := H.rdX.cells
  first | have f0 := Sat.pf (H) | have f0 := trivial
  first | have f1 := Sat.pf (H.t) | have f1 := trivial
  first | have f2 := Sat.pf (H.t.t) | have f2 := trivial
  first | have f3 := Sat.pf (H.t.t.t) | have f3 := trivial
  first | have f4 := Sat.pf (H.t.t.t.t) | have f4 := trivial
  first | have f5 := Sat.pf (H.t.t.t.t.t) | have f5 := trivial
  first | have f6 := Sat.pf (H.t.t.t.t.t.t) | have f6 := trivial
  first | have f7 := Sat.pf (H.t.t.t.t.t.t.t) | have f7 := trivial
  first | have f8 := Sat.pf (H.t.t.t.t.t.t.t.t) | have f8 := trivial
  first | have f9 := Sat.pf (H.t.t.t.t.t.t.t.t.t) | have f9 := trivial
  first | have f10 := Sat.pf (H.t.t.t.t.t.t.t.t.t.t) | have f10 := trivial
  first | have f11 := Sat.pf (H.t.t.t.t.t.t.t.t.t.t.t) | have f11 := trivial
  first | have f12 := Sat.pf (H.t.t.t.t.t.t.t.t.t.t.t.t) | have f12 := trivial
  first | have f13 := Sat.pf (H.t.t.t.t.t.t.t.t.t.t.t.t.t) | have f13 := trivial
  repeat' first
    | simp -implicitDefEqProofs (disch := first | omega | decide | exact rfl | assumption | exact Nat.le_of_ble_eq_true rfl | exact One.c | exact One.o) only [vsA, vsB, eq_self, if_true, if_false, implies_true, false_implies, evp, HX.ev, Nat.reduceAdd, HOp.looks, Nat.reduceEqDiff, overw, Nat.reduceBEq, one, cel, len, one2, cel2, len2, hy, oy1, oy2, on1, on2, o11, o12, o21, o22, o31, o32, o41, o42, o51, o52, o61, o62, ub5, f0, f1, f2, f3, f4, f5, f6, f7, f8, f9, f10, f11, f12, f13]
    | refine opC_K ?_

  obtain ⟨k, hk⟩ : ∃ k, k = min ot.length b.length := ⟨_, rfl⟩
  refine sl_copyX H (RO _ (by with_reducible first | exact H | exact H.t | exact H.t.t | exact H.t.t.t | exact H.t.t.t.t | exact H.t.t.t.t.t | exact H.t.t.t.t.t.t | exact H.t.t.t.t.t.t.t | exact H.t.t.t.t.t.t.t.t | exact H.t.t.t.t.t.t.t.t.t | exact H.t.t.t.t.t.t.t.t.t.t | exact H.t.t.t.t.t.t.t.t.t.t.t | exact H.t.t.t.t.t.t.t.t.t.t.t.t | exact H.t.t.t.t.t.t.t.t.t.t.t.t.t)) ?_
  (clear H f0 f1 f2 f3 f4 f5 f6 f7 f8 f9 f10 f11 f12 f13; intro hs H)
  rw [← hk, cp_eq] at H
  obtain ⟨NB, hNB⟩ : ∃ NB, NB = ot.take k ++ b.drop k := ⟨_, rfl⟩
  have hNl : NB.length = b.length := by rw [hNB, List.length_append, List.length_take, List.length_drop]; omega
  rw [← hNB] at H
  have on1 := H.rd.one
  have on2 := H.rd.cells
  first | have f0 := Sat.pf (H) | have f0 := trivial
  first | have f1 := Sat.pf (H.t) | have f1 := trivial
  first | have f2 := Sat.pf (H.t.t) | have f2 := trivial
  first | have f3 := Sat.pf (H.t.t.t) | have f3 := trivial
  first | have f4 := Sat.pf (H.t.t.t.t) | have f4 := trivial
  first | have f5 := Sat.pf (H.t.t.t.t.t) | have f5 := trivial
  first | have f6 := Sat.pf (H.t.t.t.t.t.t) | have f6 := trivial
  first | have f7 := Sat.pf (H.t.t.t.t.t.t.t) | have f7 := trivial
  first | have f8 := Sat.pf (H.t.t.t.t.t.t.t.t) | have f8 := trivial
  first | have f9 := Sat.pf (H.t.t.t.t.t.t.t.t.t) | have f9 := trivial
  first | have f10 := Sat.pf (H.t.t.t.t.t.t.t.t.t.t) | have f10 := trivial
  first | have f11 := Sat.pf (H.t.t.t.t.t.t.t.t.t.t.t) | have f11 := trivial
  first | have f12 := Sat.pf (H.t.t.t.t.t.t.t.t.t.t.t.t) | have f12 := trivial
  first | have f13 := Sat.pf (H.t.t.t.t.t.t.t.t.t.t.t.t.t) | have f13 := trivial
  repeat' first
    | simp -implicitDefEqProofs (disch := first | omega | decide | exact rfl | assumption | exact Nat.le_of_ble_eq_true rfl | exact One.c | exact One.o) only [vsA, vsB, eq_self, if_true, if_false, implies_true, false_implies, evp, HX.ev, Nat.reduceAdd, HOp.looks, Nat.reduceEqDiff, overw, Nat.reduceBEq, one, cel, len, one2, cel2, len2, hy, oy1, oy2, on1, on2, o11, o12, o21, o22, o31, o32, o41, o42, o51, o52, o61, o62, ub5, f0, f1, f2, f3, f4, f5, f6, f7, f8, f9, f10, f11, f12, f13]
    | refine opC_K ?_

  refine sl_copyX (v := w) (n := b.length + 6) (xs := bcells X0) (by with_reducible first | exact H | exact H.p1 | exact H.p2 | exact H.p3 | exact H.p4 | exact H.p5 | exact H.p6 | exact H.p7 | exact H.p8 | exact H.p9 | exact H.p10 | exact H.p11 | exact H.p12 | exact H.p13) (Sat.rd (v := nw) (n := b.length) (xs := bcells NB) (by with_reducible first | exact H | exact H.p1 | exact H.p2 | exact H.p3 | exact H.p4 | exact H.p5 | exact H.p6 | exact H.p7 | exact H.p8 | exact H.p9 | exact H.p10 | exact H.p11 | exact H.p12 | exact H.p13)) ?_
  (clear H f0 f1 f2 f3 f4 f5 f6 f7 f8 f9 f10 f11 f12 f13; intro hs H)
  rw [show min b.length (b.length + 6) = b.length by omega, cp_eq, List.take_of_length_le (show NB.length ≤ b.length by omega)] at H
  obtain ⟨X1, hX1⟩ : ∃ X1, X1 = NB ++ X0.drop b.length := ⟨_, rfl⟩
  rw [← hX1] at H
  have hyt1 : X1.take b.length = NB := by rw [hX1, ← hNl, List.take_left]
  have hyr2 : ∀ hs l, Sat hs (My 1 w (b.length + 6) (bcells X1) :: l) → Rd hs 1 y NB.length (bcells NB) := fun hs l H => by
    have h := hyr _ _ H.rd
    rwa [hyt1, ← hNl] at h
  have eL2 := refL_eq NB
  have eD2 := refD_eq NB
  first | have f0 := Sat.pf (H) | have f0 := trivial
  first | have f1 := Sat.pf (H.t) | have f1 := trivial
  first | have f2 := Sat.pf (H.t.t) | have f2 := trivial
  first | have f3 := Sat.pf (H.t.t.t) | have f3 := trivial
  first | have f4 := Sat.pf (H.t.t.t.t) | have f4 := trivial
  first | have f5 := Sat.pf (H.t.t.t.t.t) | have f5 := trivial
  first | have f6 := Sat.pf (H.t.t.t.t.t.t) | have f6 := trivial
  first | have f7 := Sat.pf (H.t.t.t.t.t.t.t) | have f7 := trivial
  first | have f8 := Sat.pf (H.t.t.t.t.t.t.t.t) | have f8 := trivial
  first | have f9 := Sat.pf (H.t.t.t.t.t.t.t.t.t) | have f9 := trivial
  first | have f10 := Sat.pf (H.t.t.t.t.t.t.t.t.t.t) | have f10 := trivial
  first | have f11 := Sat.pf (H.t.t.t.t.t.t.t.t.t.t.t) | have f11 := trivial
  first | have f12 := Sat.pf (H.t.t.t.t.t.t.t.t.t.t.t.t) | have f12 := trivial
  first | have f13 := Sat.pf (H.t.t.t.t.t.t.t.t.t.t.t.t.t) | have f13 := trivial
  repeat' first
    | simp -implicitDefEqProofs (disch := first | omega | decide | exact rfl | assumption | exact Nat.le_of_ble_eq_true rfl | exact One.c | exact One.o) only [vsA, vsB, eq_self, if_true, if_false, implies_true, false_implies, evp, HX.ev, Nat.reduceAdd, HOp.looks, Nat.reduceEqDiff, overw, Nat.reduceBEq, one, cel, len, one2, cel2, len2, hy, oy1, oy2, on1, on2, o11, o12, o21, o22, o31, o32, o41, o42, o51, o52, o61, o62, ub5, f0, f1, f2, f3, f4, f5, f6, f7, f8, f9, f10, f11, f12, f13]

  have hnw : ∀ hs l, Sat hs (My 1 nw b.length (bcells NB) :: l) → Rd hs 1 nw NB.length (bcells NB) := fun hs l H => by
    have h := H.rd
    rwa [← hNl] at h
  refine vcall_of ok15 rfl (readList15 H (fun _ h => hyr2 _ _ h) (fun _ h => G _ (by with_reducible first | exact h | exact h.t | exact h.t.t | exact h.t.t.t | exact h.t.t.t.t | exact h.t.t.t.t.t | exact h.t.t.t.t.t.t | exact h.t.t.t.t.t.t.t | exact h.t.t.t.t.t.t.t.t | exact h.t.t.t.t.t.t.t.t.t | exact h.t.t.t.t.t.t.t.t.t.t | exact h.t.t.t.t.t.t.t.t.t.t.t | exact h.t.t.t.t.t.t.t.t.t.t.t.t | exact h.t.t.t.t.t.t.t.t.t.t.t.t.t)) (by omega)) ?_
  (clear H f0 f1 f2 f3 f4 f5 f6 f7 f8 f9 f10 f11 f12 f13; rintro _ hs ⟨w3, rfl, H⟩)
  have o71 := H.rdX.one
  have o72 := H.rdX.cells
  first | have f0 := Sat.pf (H) | have f0 := trivial
  first | have f1 := Sat.pf (H.t) | have f1 := trivial
  first | have f2 := Sat.pf (H.t.t) | have f2 := trivial
  first | have f3 := Sat.pf (H.t.t.t) | have f3 := trivial
  first | have f4 := Sat.pf (H.t.t.t.t) | have f4 := trivial
  first | have f5 := Sat.pf (H.t.t.t.t.t) | have f5 := trivial
  first | have f6 := Sat.pf (H.t.t.t.t.t.t) | have f6 := trivial
  first | have f7 := Sat.pf (H.t.t.t.t.t.t.t) | have f7 := trivial
  first | have f8 := Sat.pf (H.t.t.t.t.t.t.t.t) | have f8 := trivial
  first | have f9 := Sat.pf (H.t.t.t.t.t.t.t.t.t) | have f9 := trivial
  first | have f10 := Sat.pf (H.t.t.t.t.t.t.t.t.t.t) | have f10 := trivial
  first | have f11 := Sat.pf (H.t.t.t.t.t.t.t.t.t.t.t) | have f11 := trivial
  first | have f12 := Sat.pf (H.t.t.t.t.t.t.t.t.t.t.t.t) | have f12 := trivial
  first | have f13 := Sat.pf (H.t.t.t.t.t.t.t.t.t.t.t.t.t) | have f13 := trivial
  repeat' first
    | simp -implicitDefEqProofs (disch := first | omega | decide | exact rfl | assumption | exact Nat.le_of_ble_eq_true rfl | exact One.c | exact One.o) only [vsA, vsB, eq_self, if_true, if_false, implies_true, false_implies, evp, HX.ev, Nat.reduceAdd, HOp.looks, Nat.reduceEqDiff, overw, Nat.reduceBEq, one, cel, len, one2, cel2, len2, hy, oy1, oy2, on1, on2, o11, o12, o21, o22, o31, o32, o41, o42, o51, o52, o61, o62, o71, o72, ub5, f0, f1, f2, f3, f4, f5, f6, f7, f8, f9, f10, f11, f12, f13]

  refine vcall_of ok21 rfl (readDict21 H (fun _ h => hyr2 _ _ h.p1) (fun _ h => G _ (by with_reducible first | exact h | exact h.t | exact h.t.t | exact h.t.t.t | exact h.t.t.t.t | exact h.t.t.t.t.t | exact h.t.t.t.t.t.t | exact h.t.t.t.t.t.t.t | exact h.t.t.t.t.t.t.t.t | exact h.t.t.t.t.t.t.t.t.t | exact h.t.t.t.t.t.t.t.t.t.t | exact h.t.t.t.t.t.t.t.t.t.t.t | exact h.t.t.t.t.t.t.t.t.t.t.t.t | exact h.t.t.t.t.t.t.t.t.t.t.t.t.t)) (by omega)) ?_
  (clear H f0 f1 f2 f3 f4 f5 f6 f7 f8 f9 f10 f11 f12 f13; rintro _ hs ⟨d3, rfl, H⟩)
  have o81 := H.rdX.one
  have o82 := H.rdX.cells
  first | have f0 := Sat.pf (H) | have f0 := trivial
  first | have f1 := Sat.pf (H.t) | have f1 := trivial
  first | have f2 := Sat.pf (H.t.t) | have f2 := trivial
  first | have f3 := Sat.pf (H.t.t.t) | have f3 := trivial
  first | have f4 := Sat.pf (H.t.t.t.t) | have f4 := trivial
  first | have f5 := Sat.pf (H.t.t.t.t.t) | have f5 := trivial
  first | have f6 := Sat.pf (H.t.t.t.t.t.t) | have f6 := trivial
  first | have f7 := Sat.pf (H.t.t.t.t.t.t.t) | have f7 := trivial
  first | have f8 := Sat.pf (H.t.t.t.t.t.t.t.t) | have f8 := trivial
  first | have f9 := Sat.pf (H.t.t.t.t.t.t.t.t.t) | have f9 := trivial
  first | have f10 := Sat.pf (H.t.t.t.t.t.t.t.t.t.t) | have f10 := trivial
  first | have f11 := Sat.pf (H.t.t.t.t.t.t.t.t.t.t.t) | have f11 := trivial
  first | have f12 := Sat.pf (H.t.t.t.t.t.t.t.t.t.t.t.t) | have f12 := trivial
  first | have f13 := Sat.pf (H.t.t.t.t.t.t.t.t.t.t.t.t.t) | have f13 := trivial
  repeat' first
    | simp -implicitDefEqProofs (disch := first | omega | decide | exact rfl | assumption | exact Nat.le_of_ble_eq_true rfl | exact One.c | exact One.o) only [vsA, vsB, eq_self, if_true, if_false, implies_true, false_implies, evp, HX.ev, Nat.reduceAdd, HOp.looks, Nat.reduceEqDiff, overw, Nat.reduceBEq, one, cel, len, one2, cel2, len2, hy, oy1, oy2, on1, on2, o11, o12, o21, o22, o31, o32, o41, o42, o51, o52, o61, o62, o71, o72, o81, o82, ub5, f0, f1, f2, f3, f4, f5, f6, f7, f8, f9, f10, f11, f12, f13]

  refine vcall_of ok23 rfl (readList23 H (fun _ h => hnw _ _ h.p3) (by omega)) ?_
  (clear H f0 f1 f2 f3 f4 f5 f6 f7 f8 f9 f10 f11 f12 f13; rintro _ hs ⟨r3, rfl, H⟩; simp only [eL2] at H ⊢)
  have o91 := H.rd.one
  have o92 := H.rd.cells
  first | have f0 := Sat.pf (H) | have f0 := trivial
  first | have f1 := Sat.pf (H.t) | have f1 := trivial
  first | have f2 := Sat.pf (H.t.t) | have f2 := trivial
  first | have f3 := Sat.pf (H.t.t.t) | have f3 := trivial
  first | have f4 := Sat.pf (H.t.t.t.t) | have f4 := trivial
  first | have f5 := Sat.pf (H.t.t.t.t.t) | have f5 := trivial
  first | have f6 := Sat.pf (H.t.t.t.t.t.t) | have f6 := trivial
  first | have f7 := Sat.pf (H.t.t.t.t.t.t.t) | have f7 := trivial
  first | have f8 := Sat.pf (H.t.t.t.t.t.t.t.t) | have f8 := trivial
  first | have f9 := Sat.pf (H.t.t.t.t.t.t.t.t.t) | have f9 := trivial
  first | have f10 := Sat.pf (H.t.t.t.t.t.t.t.t.t.t) | have f10 := trivial
  first | have f11 := Sat.pf (H.t.t.t.t.t.t.t.t.t.t.t) | have f11 := trivial
  first | have f12 := Sat.pf (H.t.t.t.t.t.t.t.t.t.t.t.t) | have f12 := trivial
  first | have f13 := Sat.pf (H.t.t.t.t.t.t.t.t.t.t.t.t.t) | have f13 := trivial
  repeat' first
    | simp -implicitDefEqProofs (disch := first | omega | decide | exact rfl | assumption | exact Nat.le_of_ble_eq_true rfl | exact One.c | exact One.o) only [vsA, vsB, eq_self, if_true, if_false, implies_true, false_implies, evp, HX.ev, Nat.reduceAdd, HOp.looks, Nat.reduceEqDiff, overw, Nat.reduceBEq, one, cel, len, one2, cel2, len2, hy, oy1, oy2, on1, on2, o11, o12, o21, o22, o31, o32, o41, o42, o51, o52, o61, o62, o71, o72, o81, o82, o91, o92, ub5, f0, f1, f2, f3, f4, f5, f6, f7, f8, f9, f10, f11, f12, f13]

  refine vcall_of ok24 rfl (readDict24 H (fun _ h => hnw _ _ h.p4) (by omega)) ?_
  (clear H f0 f1 f2 f3 f4 f5 f6 f7 f8 f9 f10 f11 f12 f13; rintro _ hs ⟨r4, rfl, H⟩; simp only [eD2] at H ⊢)
  have oa1 := H.rd.one
  have oa2 := H.rd.cells
  obtain ⟨Ls, hLs⟩ : ∃ L, L = (readL NB).getD [] := ⟨_, rfl⟩
  obtain ⟨Ds, hDs⟩ : ∃ D, D = (readD NB).getD [] := ⟨_, rfl⟩
  obtain ⟨cl2, hcl2⟩ : ∃ c, c = okI (readL NB).isSome := ⟨_, rfl⟩
  obtain ⟨cd2, hcd2⟩ : ∃ c, c = okI (readD NB).isSome := ⟨_, rfl⟩
  rw [← hLs, ← hDs] at H
  rw [← hcl2, ← hcd2]
  have hLl2 : Ls.length ≤ NB.length := by rw [hLs]; exact readL_len NB
  have hDl2 : Ds.length ≤ NB.length := by rw [hDs]; exact readD_len NB
  have bL2 : (Ls == Ls) = true := by simp
  have bD2 : (Ds == Ds) = true := by simp
  first | have f0 := Sat.pf (H) | have f0 := trivial
  first | have f1 := Sat.pf (H.t) | have f1 := trivial
  first | have f2 := Sat.pf (H.t.t) | have f2 := trivial
  first | have f3 := Sat.pf (H.t.t.t) | have f3 := trivial
  first | have f4 := Sat.pf (H.t.t.t.t) | have f4 := trivial
  first | have f5 := Sat.pf (H.t.t.t.t.t) | have f5 := trivial
  first | have f6 := Sat.pf (H.t.t.t.t.t.t) | have f6 := trivial
  first | have f7 := Sat.pf (H.t.t.t.t.t.t.t) | have f7 := trivial
  first | have f8 := Sat.pf (H.t.t.t.t.t.t.t.t) | have f8 := trivial
  first | have f9 := Sat.pf (H.t.t.t.t.t.t.t.t.t) | have f9 := trivial
  first | have f10 := Sat.pf (H.t.t.t.t.t.t.t.t.t.t) | have f10 := trivial
  first | have f11 := Sat.pf (H.t.t.t.t.t.t.t.t.t.t.t) | have f11 := trivial
  first | have f12 := Sat.pf (H.t.t.t.t.t.t.t.t.t.t.t.t) | have f12 := trivial
  first | have f13 := Sat.pf (H.t.t.t.t.t.t.t.t.t.t.t.t.t) | have f13 := trivial
  repeat' first
    | simp -implicitDefEqProofs (disch := first | omega | decide | exact rfl | assumption | exact Nat.le_of_ble_eq_true rfl | exact One.c | exact One.o) only [vsA, vsB, eq_self, if_true, if_false, implies_true, false_implies, evp, HX.ev, Nat.reduceAdd, HOp.looks, Nat.reduceEqDiff, overw, Nat.reduceBEq, one, cel, len, one2, cel2, len2, hy, oy1, oy2, on1, on2, o11, o12, o21, o22, o31, o32, o41, o42, o51, o52, o61, o62, o71, o72, o81, o82, o91, o92, oa1, oa2, bL, bD, bL2, bD2, Bool.not_true, Bool.not_false, decide_true, ub5, f0, f1, f2, f3, f4, f5, f6, f7, f8, f9, f10, f11, f12, f13]
    | ((with_reducible show actK _ (HAct.call (HX.cst (HV.func (Fn.func 16) _ _)) _) _ _ _ _ _); refine vcall_of ok16 rfl (texts16 (x := Ls) (y := Ls) (Sat.rdX (v := w3) (by with_reducible first | exact H | exact H.p1 | exact H.p2 | exact H.p3 | exact H.p4 | exact H.p5 | exact H.p6 | exact H.p7 | exact H.p8 | exact H.p9 | exact H.p10 | exact H.p11 | exact H.p12 | exact H.p13)) (Sat.rd (v := r3) (by with_reducible first | exact H | exact H.p1 | exact H.p2 | exact H.p3 | exact H.p4 | exact H.p5 | exact H.p6 | exact H.p7 | exact H.p8 | exact H.p9 | exact H.p10 | exact H.p11 | exact H.p12 | exact H.p13)) (by omega) (by omega)) ?_;  (rw [bL2]; rintro _ _ ⟨rfl, rfl⟩))
    | ((with_reducible show actK _ (HAct.call (HX.cst (HV.func (Fn.func 22) _ _)) _) _ _ _ _ _); refine vcall_of ok22 rfl (pairs22 (x := Ds) (y := Ds) (Sat.rdX (v := d3) (by with_reducible first | exact H | exact H.p1 | exact H.p2 | exact H.p3 | exact H.p4 | exact H.p5 | exact H.p6 | exact H.p7 | exact H.p8 | exact H.p9 | exact H.p10 | exact H.p11 | exact H.p12 | exact H.p13)) (Sat.rd (v := r4) (by with_reducible first | exact H | exact H.p1 | exact H.p2 | exact H.p3 | exact H.p4 | exact H.p5 | exact H.p6 | exact H.p7 | exact H.p8 | exact H.p9 | exact H.p10 | exact H.p11 | exact H.p12 | exact H.p13)) (by omega) (by omega)) ?_;  (rw [bD2]; rintro _ _ ⟨rfl, rfl⟩))
    | ((with_reducible show actK _ (HAct.call (HX.cst (HV.func (Fn.func 16) _ _)) _) _ _ _ _ _); refine vcall_of ok16 rfl (texts16 (x := Lr) (y := Lr) (Sat.rdX (v := w1) (by with_reducible first | exact H | exact H.p1 | exact H.p2 | exact H.p3 | exact H.p4 | exact H.p5 | exact H.p6 | exact H.p7 | exact H.p8 | exact H.p9 | exact H.p10 | exact H.p11 | exact H.p12 | exact H.p13)) (Sat.rd (v := r1) (by with_reducible first | exact H | exact H.p1 | exact H.p2 | exact H.p3 | exact H.p4 | exact H.p5 | exact H.p6 | exact H.p7 | exact H.p8 | exact H.p9 | exact H.p10 | exact H.p11 | exact H.p12 | exact H.p13)) (by omega) (by omega)) ?_;  (rw [bL]; rintro _ _ ⟨rfl, rfl⟩))
    | ((with_reducible show actK _ (HAct.call (HX.cst (HV.func (Fn.func 16) _ _)) _) _ _ _ _ _); refine vcall_of ok16 rfl (texts16 (x := Lr) (y := Lr) (Sat.rdX (v := w2) (by with_reducible first | exact H | exact H.p1 | exact H.p2 | exact H.p3 | exact H.p4 | exact H.p5 | exact H.p6 | exact H.p7 | exact H.p8 | exact H.p9 | exact H.p10 | exact H.p11 | exact H.p12 | exact H.p13)) (Sat.rd (v := r1) (by with_reducible first | exact H | exact H.p1 | exact H.p2 | exact H.p3 | exact H.p4 | exact H.p5 | exact H.p6 | exact H.p7 | exact H.p8 | exact H.p9 | exact H.p10 | exact H.p11 | exact H.p12 | exact H.p13)) (by omega) (by omega)) ?_;  (rw [bL]; rintro _ _ ⟨rfl, rfl⟩))
    | ((with_reducible show actK _ (HAct.call (HX.cst (HV.func (Fn.func 22) _ _)) _) _ _ _ _ _); refine vcall_of ok22 rfl (pairs22 (x := Dr) (y := Dr) (Sat.rdX (v := d1) (by with_reducible first | exact H | exact H.p1 | exact H.p2 | exact H.p3 | exact H.p4 | exact H.p5 | exact H.p6 | exact H.p7 | exact H.p8 | exact H.p9 | exact H.p10 | exact H.p11 | exact H.p12 | exact H.p13)) (Sat.rd (v := r2) (by with_reducible first | exact H | exact H.p1 | exact H.p2 | exact H.p3 | exact H.p4 | exact H.p5 | exact H.p6 | exact H.p7 | exact H.p8 | exact H.p9 | exact H.p10 | exact H.p11 | exact H.p12 | exact H.p13)) (by omega) (by omega)) ?_;  (rw [bD]; rintro _ _ ⟨rfl, rfl⟩))
    | ((with_reducible show actK _ (HAct.call (HX.cst (HV.func (Fn.func 22) _ _)) _) _ _ _ _ _); refine vcall_of ok22 rfl (pairs22 (x := Dr) (y := Dr) (Sat.rdX (v := d2) (by with_reducible first | exact H | exact H.p1 | exact H.p2 | exact H.p3 | exact H.p4 | exact H.p5 | exact H.p6 | exact H.p7 | exact H.p8 | exact H.p9 | exact H.p10 | exact H.p11 | exact H.p12 | exact H.p13)) (Sat.rd (v := r2) (by with_reducible first | exact H | exact H.p1 | exact H.p2 | exact H.p3 | exact H.p4 | exact H.p5 | exact H.p6 | exact H.p7 | exact H.p8 | exact H.p9 | exact H.p10 | exact H.p11 | exact H.p12 | exact H.p13)) (by omega) (by omega)) ?_;  (rw [bD]; rintro _ _ ⟨rfl, rfl⟩))

  refine vcall_of ok25 rfl (apart25 (H.t.t.p2.t.p2.t.p2.t.p2.t.p2.p3.p3.p4.p5) (by omega) (by omega) (by omega)) ?_
  (clear H f0 f1 f2 f3 f4 f5 f6 f7 f8 f9 f10 f11 f12 f13; rintro _ hs ⟨rfl, H⟩)
  first | have f0 := Sat.pf (H) | have f0 := trivial
  first | have f1 := Sat.pf (H.t) | have f1 := trivial
  first | have f2 := Sat.pf (H.t.t) | have f2 := trivial
  first | have f3 := Sat.pf (H.t.t.t) | have f3 := trivial
  first | have f4 := Sat.pf (H.t.t.t.t) | have f4 := trivial
  first | have f5 := Sat.pf (H.t.t.t.t.t) | have f5 := trivial
  first | have f6 := Sat.pf (H.t.t.t.t.t.t) | have f6 := trivial
  first | have f7 := Sat.pf (H.t.t.t.t.t.t.t) | have f7 := trivial
  first | have f8 := Sat.pf (H.t.t.t.t.t.t.t.t) | have f8 := trivial
  first | have f9 := Sat.pf (H.t.t.t.t.t.t.t.t.t) | have f9 := trivial
  first | have f10 := Sat.pf (H.t.t.t.t.t.t.t.t.t.t) | have f10 := trivial
  first | have f11 := Sat.pf (H.t.t.t.t.t.t.t.t.t.t.t) | have f11 := trivial
  first | have f12 := Sat.pf (H.t.t.t.t.t.t.t.t.t.t.t.t) | have f12 := trivial
  first | have f13 := Sat.pf (H.t.t.t.t.t.t.t.t.t.t.t.t.t) | have f13 := trivial
  repeat' first
    | simp -implicitDefEqProofs (disch := first | omega | decide | exact rfl | assumption | exact Nat.le_of_ble_eq_true rfl | exact One.c | exact One.o) only [vsA, vsB, eq_self, if_true, if_false, implies_true, false_implies, evp, HX.ev, Nat.reduceAdd, HOp.looks, Nat.reduceEqDiff, overw, Nat.reduceBEq, one, cel, len, one2, cel2, len2, hy, oy1, oy2, on1, on2, o11, o12, o21, o22, o31, o32, o41, o42, o51, o52, o61, o62, o71, o72, o81, o82, o91, o92, oa1, oa2, ub5, f0, f1, f2, f3, f4, f5, f6, f7, f8, f9, f10, f11, f12, f13]

  refine vcall_of ok26 rfl (apartPairs26 H (by omega) (by omega) (by omega)) ?_
  rintro _ hs rfl
  repeat' first
    | simp -implicitDefEqProofs (disch := first | omega | decide | exact rfl | assumption | exact Nat.le_of_ble_eq_true rfl | exact One.c | exact One.o) only [vsA, vsB, eq_self, if_true, if_false, implies_true, false_implies, evp, HX.ev, Nat.reduceAdd, HOp.looks, Nat.reduceEqDiff, overw, Nat.reduceBEq, ub5]

end A
end Go.Proofs.YteedmbmgemiheaaDoor
namespace Go.Proofs.YteedmbmgemiheaaDoor
open Go Go.HL Go.ChangeShapes Go.WideShapes Go.ChangeAt Go.ChangeMaps Go.RowKit Go.Shelf
namespace RY
open A W0
set_option maxRecDepth 100000
set_option linter.unusedSimpArgs false

def argSh : Sh := (.cons .bytes (.cons .bytes .nil))
theorem argTy : argSh.argB Tryd.prog [31, 31] = true := by kernel_rfl


theorem reads_law0 {g : HS} {bv cv : HV} {b c : List UInt8} (G1 : Rd (hs1 ++ g) 1 bv b.length (bcells b)) (G2 : Rd (hs1 ++ g) 1 cv c.length (bcells c))
    (F1 : b.length ≤ 1048576) (F2 : c.length ≤ 1048576) : HC Tryd.prog 5 [bv, cv] (hs1 ++ g) fun r _ => r = .bool true :=
  reads5 (Sat.base_of (hs1 ++ g)) (fun hs h => G1.base h) (fun hs h => G2.base h) (fun hs h => gint_base h) F1 F2
theorem reads_law {g : HS} {a : argSh.D} (G : argSh.Good (hs1 ++ g) a) (F : argSh.Small 1048576 a) : HC Tryd.prog 5 (argSh.tops a) (hs1 ++ g) fun r _ => r = .bool true :=
  reads_law0 G.1 G.2.1 F.1 F.2.1
theorem row_reads (os : Os) {H : Type} (enc : TypeId × Value → H) : ∃ places, DataW.whole enc Tryd.prog ((World.laidAll Tryd.prog os Rows.yamlReadsUptoRow.laid).forCall (fun _ _ => 0) ⟨#[], #[.slice none 0 0, .slice none 0 0], []⟩).memory
    Tryd.f5.params.toList (Rows.OpenSpec.upto Rows.yamlReadsSpec).vars false #[Value.slice none 0 0, Value.slice none 0 0].toList 8 = some ([.nil, .nil], [], places) :=
  ⟨[], by kernel_rfl⟩
theorem row_lifted (os : Os) (started : os.Started) (H : Type) (enc : TypeId × Value → H) (F : Stop.Interp) :
    ReturnsInHanded {} Tryd.checked os 5 .any ((Rows.OpenSpec.upto Rows.yamlReadsSpec).preRow enc Tryd.prog Tryd.f5 Rows.yamlReadsUptoRow.domain false Rows.yamlReadsUptoRow.laid)
      (((Rows.OpenSpec.upto Rows.yamlReadsSpec).at F).post enc Tryd.prog Tryd.f5 false true false false) := by
  obtain ⟨places, hx⟩ := row_reads os enc
  refine returnsInHanded_of_row (C := Tryd.checked) (s := Rows.OpenSpec.upto Rows.yamlReadsSpec) own started (by kernel_rfl) Tryd.func5
    (witness_row_shaped (enc := enc) (C := Tryd.checked) false (World.laidAll Tryd.prog os Rows.yamlReadsUptoRow.laid) #[.slice none 0 0, .slice none 0 0] (World.laidAll_os _ _ _)
      (World.shaped_of_ZipB (by kernel_rfl) (by kernel_rfl)) (by kernel_rfl)
      (OpenSpec.preRow_of_cond 8 hx (by kernel_rfl) (fun k hk => by cases hk; kernel_rfl) (by kernel_rfl)
        (by rw [MakeChecks.laidMetH_plain _ _ _ (by kernel_rfl)]; exact laidMet_laidAll _ (by kernel_rfl) (by kernel_rfl)))) ?_
  intro M base args ds gs before hval0 hW _ hcond _ hL hsh _
  have hval : ∀ (j : Nat) t v, Tryd.f5.params[j]? = some t → args[j]? = some v → Value.okWide Tryd.prog M .any base t v := hval0
  have hW' := hW
  obtain ⟨p, q, hA0, hV, rfl, hfz, hnd⟩ := hW
  have hA : DataW.TrodAll enc Tryd.prog M 0 (fun _ => true) true Tryd.f5.params.toList args.toList ds p := hA0
  rw [Tryd.params5] at hA hval
  obtain ⟨rfl, rfl⟩ := trodVars_none hV
  have hk := of_decide_eq_true (hcond _ rfl)
  have hk2 : Rows.uptoBulkAll ds ≤ 1048576 := by simpa only [List.append_nil] using hk
  clear hk hcond
  obtain ⟨mi, hm⟩ := Tryd.laysM219.s1_3 M hsh
  have E0 := emb1 hm
  obtain ⟨β', hs', a, x1, ⟨g, x2⟩, x3, x4, x5, x6, x7⟩ := Sh.args argSh (ts := [31, 31]) argTy hA (fun j t v ht hv => hval j t v (by simpa using ht) (by simpa using hv)) E0 ro1 (by decide)
  have fit := small_of argSh x7 (n := 1048576) hk2
  subst x2
  obtain ⟨d0, r0, rfl, o0, d1, r1, rfl, o1, hnil⟩ := x7
  subst hnil
  obtain ⟨us, hus⟩ : ∃ us, us = args.toList := ⟨_, rfl⟩
  have hargs : args = us.toArray := by simp [hus]
  rw [← hus] at x5
  subst hargs
  refine (HC.below (us := us) x3 x5 x4 (reads_law x6 fit)).mono fun e M' ⟨he, hb⟩ => ?_
  subst he
  exact ⟨_, rfl, law_post (s := Rows.yamlReadsSpec) (tb := 4) laidOut rfl Tryd.underlying4 (by kernel_rfl) (by kernel_rfl) hW' rfl hb⟩

theorem yamlReads_holds : Rows.YamlReadsUptoSaid :=
  OpenClaim.holds_of_cond 5 Tryd.f5 rfl rfl rfl rfl rfl rfl rfl ⟨rfl, rfl, rfl, rfl, rfl⟩ rfl rfl rfl rfl rfl (by kernel_rfl) Tryd.func5 (by kernel_rfl)
    (of_decide_eq_true (by kernel_rfl)) (by unfold Func.isWrapper; first | (rw [if_pos (by decide +kernel)]; kernel_rfl) | (rw [if_neg (by decide +kernel)]; exact ⟨rfl, rfl⟩))
    (fun os started H enc _ F => by rw [OpenClaim.pre_eq_preRow]; exact row_lifted os started H enc F)
theorem yamlReads_plain (f : FuncId) (fn : Func) (hf : Tryd.pinned.checked.prog.funcNamed "stint/stintlaw09.YamlReads" = some f) (hfn : Tryd.pinned.checked.prog.funcs[f]? = some fn) :
    false = Tryd.pinned.checked.prog.looks [] ∧ ∀ (j : Nat) t, fn.params[j]? = some t → Tryd.pinned.checked.prog.wantsStandIn t = false := by
  obtain rfl : f = 5 := Option.some.inj ((show Tryd.prog.funcNamed "stint/stintlaw09.YamlReads" = some 5 by kernel_rfl).symm.trans hf) |>.symm
  obtain rfl : fn = Tryd.f5 := (Option.some.inj (Tryd.func5.symm.trans hfn)).symm
  refine ⟨by kernel_rfl, fun j t ht => ?_⟩
  rw [Tryd.params5] at ht
  have hm : t ∈ [31, 31] := by simpa using Array.mem_of_getElem? ht
  have hall : ([31, 31].all fun u => !Tryd.prog.wantsStandIn u) = true := by kernel_rfl
  exact (show Tryd.prog.wantsStandIn t = false by simpa using List.all_eq_true.1 hall t hm)
theorem yamlReads_card : Rows.YamlReadsUptoCardSaid :=
  Claim7.holds_tied_plain_at .later [] _ _ _ _ yamlReads_holds (fun _ h => by cases h) (by kernel_rfl) (fun _ h => by cases h) yamlReadsUpto_row_tie rfl ⟨rfl, rfl⟩ (by kernel_rfl) rfl yamlReads_plain (by kernel_rfl)
#print axioms yamlReads_card
end RY
end Go.Proofs.YteedmbmgemiheaaDoor
