/-
  Proved: the law IntakeScript (stintlaw06) returns true at every two numbers and every script. No condition.
  stintlaw06.desk: made, cloned; any act.
  IntakeScript: what the law comes to.
  stintlaw06: scripts, as they are handed in.
-/
import Derived.Test.YtccfcegmaejlnaaKS2
import Derived.Test.YtccfcegmaejlnaaRows
import Derived.Test.YtccfcegmaejlnaaHLHand
import Derived.Test.YtccfcegmaejlnaaHLRow
import Derived.HandedShaped
import Derived.SizedLaws
import Derived.Deep.Slices
namespace Go.Proofs.Ytccfcegmaejlnaa
open Go Go.HL
set_option maxRecDepth 100000
set_option maxHeartbeats 40000000
set_option linter.unusedSimpArgs false
attribute [local irreducible] pt My Ex Vw Gr GrK each grp exs Sat takeCells happend hbuildSlice hstore hbox hslice hmakeSlice hs2b hcopy HL.unit opC
theorem dmade10 {hs : HS} {l : List SA} {d : Nat} {K : List DK} {E1 E2 : List En} (H : Sat hs (DeskP d K E1 E2 :: l)) (m : Int) (hK : K.length < 1000) :
    HC Try.prog 10 [.ptr d 0, .int .i64 m] hs fun v hs' => v = .bool true ∧ if m < 1 ∨ 65535 < m then Sat hs' (DeskP d K E1 E2 :: l) else ∃ p q, Sat hs' (DeskP d (K ++ [⟨p, q, newS m.toNat⟩]) E1 E2 :: l) := by
  have hmax : maxLen = 9223372036854775807 := rfl
  refine HC.wp mixed Try.func10 c10 ?_
  by_cases hm : m < 1 ∨ 65535 < m
  · skip
    first | have f0 := Sat.pf (H) | have f0 := trivial
    first | have f1 := Sat.pf (H.t) | have f1 := trivial
    first | have f2 := Sat.pf (H.t.t) | have f2 := trivial
    first | have f3 := Sat.pf (H.t.t.t) | have f3 := trivial
    first | have f4 := Sat.pf (H.t.t.t.t) | have f4 := trivial
    first | have f5 := Sat.pf (H.t.t.t.t.t) | have f5 := trivial
    first | have f6 := Sat.pf (H.t.t.t.t.t.t) | have f6 := trivial
    first | have f7 := Sat.pf (H.t.t.t.t.t.t.t) | have f7 := trivial
    first | have f8 := Sat.pf (H.t.t.t.t.t.t.t.t) | have f8 := trivial
    first | have f9 := Sat.pf (H.t.t.t.t.t.t.t.t.t) | have f9 := trivial
    first | have f10 := Sat.pf (H.t.t.t.t.t.t.t.t.t.t) | have f10 := trivial
    first | have f11 := Sat.pf (H.t.t.t.t.t.t.t.t.t.t.t) | have f11 := trivial
    repeat' first
      | ((with_reducible show Need _); refine need_of ?_; (first | have f0 := Sat.pf (H) | have f0 := trivial); (first | have f1 := Sat.pf (H.t) | have f1 := trivial); (first | have f2 := Sat.pf (H.t.t) | have f2 := trivial); (first | have f3 := Sat.pf (H.t.t.t) | have f3 := trivial); (first | have f4 := Sat.pf (H.t.t.t.t) | have f4 := trivial); (first | have f5 := Sat.pf (H.t.t.t.t.t) | have f5 := trivial); (first | have f6 := Sat.pf (H.t.t.t.t.t.t) | have f6 := trivial); (first | have f7 := Sat.pf (H.t.t.t.t.t.t.t) | have f7 := trivial); (first | have f8 := Sat.pf (H.t.t.t.t.t.t.t.t) | have f8 := trivial); (first | have f9 := Sat.pf (H.t.t.t.t.t.t.t.t.t) | have f9 := trivial); (first | have f10 := Sat.pf (H.t.t.t.t.t.t.t.t.t.t) | have f10 := trivial); (first | have f11 := Sat.pf (H.t.t.t.t.t.t.t.t.t.t.t) | have f11 := trivial))
      | simp -implicitDefEqProofs (disch := first | omega | decide | exact rfl | assumption | exact Nat.le_of_ble_eq_true rfl | exact One.c | exact One.o) only [vsA, vsB, eq_self, if_true, if_false, implies_true, false_implies, evp, HX.ev, Nat.reduceAdd, HOp.looks, Nat.reduceEqDiff, overw, Nat.reduceBEq, h10, ub10, f0, f1, f2, f3, f4, f5, f6, f7, f8, f9, f10, f11, frame0, List.replicate, Nat.sub]
      | (refine condK_cases (fun h => ?_) (fun h => ?_) <;> (try simp only [h]) <;> (try simp only [athA, ne_eq] at h) <;> (try (exfalso; omega)))
      | (refine guardK_cases (fun h => ?_) (fun h => ?_) <;> (try simp only [h]) <;> (try simp only [athA, ne_eq] at h) <;> (try (exfalso; omega)))
      | (clear H f0 f1 f2 f3 f4 f5 f6 f7 f8 f9 f10 f11; (with_reducible intro v2 hs H); (try simp only [setA, overw, Nat.reduceAdd] at H); refine need ?_)
      | ((with_reducible show actK _ (HAct.call (HX.cst (HV.func (Fn.func 17) _ _)) _) _ _ _ _ _); refine vcall_of ok17 rfl (new17 H m) ?_;  intro v hs h; rw [if_pos hm] at h; obtain ⟨rfl, h⟩ := h; have H := h; refine need ?_)
      | ((with_reducible show actK _ (HAct.call (HX.cst (HV.func (Fn.func 29) _ _)) _) _ _ _ _ _); refine vcall_of ok29 rfl (rnew29 H m) ?_;  intro v hs h; rw [if_pos hm] at h; obtain ⟨rfl, h⟩ := h; have H := h; refine need ?_)
      | refine opC_K ?_
      | ((with_reducible show opC (unit (hstore _ _ _ _)) _); refine sl_store1 (by with_reducible first | exact H | exact H.p1 | exact H.p2 | exact H.p3 | exact H.p4 | exact H.p5 | exact H.p6 | exact H.p7 | exact H.p8 | exact H.p9 | exact H.p10 | exact H.p11) (Nat.le_of_ble_eq_true rfl) (by first | exact rfl | (simp only [f0, f1, f2, f3, f4, f5, f6, f7, f8, f9, f10, f11]; done) | (simp only [onA, *]; done)) (by first | exact rfl | (simp only [f0, f1, f2, f3, f4, f5, f6, f7, f8, f9, f10, f11]; done) | (simp only [onA, *]; done)) ?_)
      | ((with_reducible show opC (unit (hstore _ _ _ _)) _); refine sl_storeN (by with_reducible first | exact H | exact H.p1 | exact H.p2 | exact H.p3 | exact H.p4 | exact H.p5 | exact H.p6 | exact H.p7 | exact H.p8 | exact H.p9 | exact H.p10 | exact H.p11) rfl (Nat.le_of_ble_eq_true rfl) (by first | exact rfl | (simp only [f0, f1, f2, f3, f4, f5, f6, f7, f8, f9, f10, f11]; done) | (simp only [onA, *]; done)) ?_)
      | ((with_reducible show opC (happend _ _ _ _ _) _); refine sl_append (by with_reducible first | exact H | exact H.p1 | exact H.p2 | exact H.p3 | exact H.p4 | exact H.p5 | exact H.p6 | exact H.p7 | exact H.p8 | exact H.p9 | exact H.p10 | exact H.p11) (by first | assumption | with_reducible first | exact f0.2.1 | exact f1.2.1 | exact f2.2.1 | exact f3.2.1 | exact f4.2.1 | exact f5.2.1 | exact f6.2.1 | exact f7.2.1 | exact f8.2.1 | exact f9.2.1 | exact f10.2.1 | exact f11.2.1 | exact va_takeS) (by first | exact roomFor_of (by omega) | exact roomFor_wide (by omega)) (by omega) ?_)
      | ((with_reducible show opC (happend _ _ _ _ _) _); refine sl_append0X H (by first | assumption | with_reducible first | exact f0.2.1 | exact f1.2.1 | exact f2.2.1 | exact f3.2.1 | exact f4.2.1 | exact f5.2.1 | exact f6.2.1 | exact f7.2.1 | exact f8.2.1 | exact f9.2.1 | exact f10.2.1 | exact f11.2.1 | exact va_takeS) (by first | exact roomFor_of (by omega) | exact roomFor_wide (by omega)) (by omega) ?_)
      | ((with_reducible show opC (happend _ _ _ _ _) _); refine sl_appendX (by with_reducible first | exact H | exact H.p1 | exact H.p2 | exact H.p3 | exact H.p4 | exact H.p5 | exact H.p6 | exact H.p7 | exact H.p8 | exact H.p9 | exact H.p10 | exact H.p11) (by first | assumption | with_reducible first | exact f0.2.1 | exact f1.2.1 | exact f2.2.1 | exact f3.2.1 | exact f4.2.1 | exact f5.2.1 | exact f6.2.1 | exact f7.2.1 | exact f8.2.1 | exact f9.2.1 | exact f10.2.1 | exact f11.2.1 | exact va_takeS) (by first | exact roomFor_of (by omega) | exact roomFor_wide (by omega)) (by omega) ?_)
      | ((with_reducible show opC (hbuildSlice _ _ _ _ _) _); refine sl_bslice1 H rfl (by first | exact rfl | (simp only [f0, f1, f2, f3, f4, f5, f6, f7, f8, f9, f10, f11]; done) | (simp only [onA, *]; done)) (by first | exact rfl | (simp only [f0, f1, f2, f3, f4, f5, f6, f7, f8, f9, f10, f11]; done) | (simp only [onA, *]; done)) ?_)
      | with_reducible intro hy

    rw [if_pos hm]
    exact H
  · obtain ⟨va, vb, vo, vw, lt, x, H1⟩ := desk_open.1 H
    clear H
    have H := H1
    clear H1
    first | have f0 := Sat.pf (H) | have f0 := trivial
    first | have f1 := Sat.pf (H.t) | have f1 := trivial
    first | have f2 := Sat.pf (H.t.t) | have f2 := trivial
    first | have f3 := Sat.pf (H.t.t.t) | have f3 := trivial
    first | have f4 := Sat.pf (H.t.t.t.t) | have f4 := trivial
    first | have f5 := Sat.pf (H.t.t.t.t.t) | have f5 := trivial
    first | have f6 := Sat.pf (H.t.t.t.t.t.t) | have f6 := trivial
    first | have f7 := Sat.pf (H.t.t.t.t.t.t.t) | have f7 := trivial
    first | have f8 := Sat.pf (H.t.t.t.t.t.t.t.t) | have f8 := trivial
    first | have f9 := Sat.pf (H.t.t.t.t.t.t.t.t.t) | have f9 := trivial
    first | have f10 := Sat.pf (H.t.t.t.t.t.t.t.t.t.t) | have f10 := trivial
    first | have f11 := Sat.pf (H.t.t.t.t.t.t.t.t.t.t.t) | have f11 := trivial
    repeat' first
      | ((with_reducible show Need _); refine need_of ?_; (first | have f0 := Sat.pf (H) | have f0 := trivial); (first | have f1 := Sat.pf (H.t) | have f1 := trivial); (first | have f2 := Sat.pf (H.t.t) | have f2 := trivial); (first | have f3 := Sat.pf (H.t.t.t) | have f3 := trivial); (first | have f4 := Sat.pf (H.t.t.t.t) | have f4 := trivial); (first | have f5 := Sat.pf (H.t.t.t.t.t) | have f5 := trivial); (first | have f6 := Sat.pf (H.t.t.t.t.t.t) | have f6 := trivial); (first | have f7 := Sat.pf (H.t.t.t.t.t.t.t) | have f7 := trivial); (first | have f8 := Sat.pf (H.t.t.t.t.t.t.t.t) | have f8 := trivial); (first | have f9 := Sat.pf (H.t.t.t.t.t.t.t.t.t) | have f9 := trivial); (first | have f10 := Sat.pf (H.t.t.t.t.t.t.t.t.t.t) | have f10 := trivial); (first | have f11 := Sat.pf (H.t.t.t.t.t.t.t.t.t.t.t) | have f11 := trivial))
      | simp -implicitDefEqProofs (disch := first | omega | decide | exact rfl | assumption | exact Nat.le_of_ble_eq_true rfl | exact One.c | exact One.o) only [vsA, vsB, eq_self, if_true, if_false, implies_true, false_implies, evp, HX.ev, Nat.reduceAdd, HOp.looks, Nat.reduceEqDiff, overw, Nat.reduceBEq, h10, ub10, f0, f1, f2, f3, f4, f5, f6, f7, f8, f9, f10, f11, frame0, List.replicate, Nat.sub]
      | (refine condK_cases (fun h => ?_) (fun h => ?_) <;> (try simp only [h]) <;> (try simp only [athA, ne_eq] at h) <;> (try (exfalso; omega)))
      | (refine guardK_cases (fun h => ?_) (fun h => ?_) <;> (try simp only [h]) <;> (try simp only [athA, ne_eq] at h) <;> (try (exfalso; omega)))
      | (clear H f0 f1 f2 f3 f4 f5 f6 f7 f8 f9 f10 f11; (with_reducible intro v2 hs H); (try simp only [setA, overw, Nat.reduceAdd] at H); refine need ?_)
      | ((with_reducible show actK _ (HAct.call (HX.cst (HV.func (Fn.func 17) _ _)) _) _ _ _ _ _); refine vcall_of ok17 rfl (new17 H m) ?_;  intro v hs h; rw [if_neg hm] at h; obtain ⟨p, rfl, h⟩ := h; have H := h; refine need ?_)
      | ((with_reducible show actK _ (HAct.call (HX.cst (HV.func (Fn.func 29) _ _)) _) _ _ _ _ _); refine vcall_of ok29 rfl (rnew29 H m) ?_;  intro v hs h; rw [if_neg hm] at h; obtain ⟨q, rfl, h⟩ := h; have H := h; refine need ?_)
      | refine opC_K ?_
      | ((with_reducible show opC (unit (hstore _ _ _ _)) _); refine sl_store1 (by with_reducible first | exact H | exact H.p1 | exact H.p2 | exact H.p3 | exact H.p4 | exact H.p5 | exact H.p6 | exact H.p7 | exact H.p8 | exact H.p9 | exact H.p10 | exact H.p11) (Nat.le_of_ble_eq_true rfl) (by first | exact rfl | (simp only [f0, f1, f2, f3, f4, f5, f6, f7, f8, f9, f10, f11]; done) | (simp only [onA, *]; done)) (by first | exact rfl | (simp only [f0, f1, f2, f3, f4, f5, f6, f7, f8, f9, f10, f11]; done) | (simp only [onA, *]; done)) ?_)
      | ((with_reducible show opC (unit (hstore _ _ _ _)) _); refine sl_storeN (by with_reducible first | exact H | exact H.p1 | exact H.p2 | exact H.p3 | exact H.p4 | exact H.p5 | exact H.p6 | exact H.p7 | exact H.p8 | exact H.p9 | exact H.p10 | exact H.p11) rfl (Nat.le_of_ble_eq_true rfl) (by first | exact rfl | (simp only [f0, f1, f2, f3, f4, f5, f6, f7, f8, f9, f10, f11]; done) | (simp only [onA, *]; done)) ?_)
      | ((with_reducible show opC (happend _ _ _ _ _) _); refine sl_append (by with_reducible first | exact H | exact H.p1 | exact H.p2 | exact H.p3 | exact H.p4 | exact H.p5 | exact H.p6 | exact H.p7 | exact H.p8 | exact H.p9 | exact H.p10 | exact H.p11) (by first | assumption | with_reducible first | exact f0.2.1 | exact f1.2.1 | exact f2.2.1 | exact f3.2.1 | exact f4.2.1 | exact f5.2.1 | exact f6.2.1 | exact f7.2.1 | exact f8.2.1 | exact f9.2.1 | exact f10.2.1 | exact f11.2.1 | exact va_takeS) (by first | exact roomFor_of (by omega) | exact roomFor_wide (by omega)) (by omega) ?_)
      | ((with_reducible show opC (happend _ _ _ _ _) _); refine sl_append0X H (by first | assumption | with_reducible first | exact f0.2.1 | exact f1.2.1 | exact f2.2.1 | exact f3.2.1 | exact f4.2.1 | exact f5.2.1 | exact f6.2.1 | exact f7.2.1 | exact f8.2.1 | exact f9.2.1 | exact f10.2.1 | exact f11.2.1 | exact va_takeS) (by first | exact roomFor_of (by omega) | exact roomFor_wide (by omega)) (by omega) ?_)
      | ((with_reducible show opC (happend _ _ _ _ _) _); refine sl_appendX (by with_reducible first | exact H | exact H.p1 | exact H.p2 | exact H.p3 | exact H.p4 | exact H.p5 | exact H.p6 | exact H.p7 | exact H.p8 | exact H.p9 | exact H.p10 | exact H.p11) (by first | assumption | with_reducible first | exact f0.2.1 | exact f1.2.1 | exact f2.2.1 | exact f3.2.1 | exact f4.2.1 | exact f5.2.1 | exact f6.2.1 | exact f7.2.1 | exact f8.2.1 | exact f9.2.1 | exact f10.2.1 | exact f11.2.1 | exact va_takeS) (by first | exact roomFor_of (by omega) | exact roomFor_wide (by omega)) (by omega) ?_)
      | ((with_reducible show opC (hbuildSlice _ _ _ _ _) _); refine sl_bslice1 H rfl (by first | exact rfl | (simp only [f0, f1, f2, f3, f4, f5, f6, f7, f8, f9, f10, f11]; done) | (simp only [onA, *]; done)) (by first | exact rfl | (simp only [f0, f1, f2, f3, f4, f5, f6, f7, f8, f9, f10, f11]; done) | (simp only [onA, *]; done)) ?_)
      | with_reducible intro hy

    rw [if_neg hm]
    have Hk : Sat _ (DK.P ⟨p, q, newS m.toNat⟩ :: _) := (Sat.grp_iff (l1 := [InP p (newS m.toNat), RefP q (newS m.toNat)])).2 H.p6.p6.p3.p4.p4.p7.p6.p7
    have Hs := Sat.each_snoc.2 Hk
    have Hd := Hs.p5.p5.p5.p5.p5
    have ea : dkA (K ++ [⟨p, q, newS m.toNat⟩]) = dkA K ++ [.ptr p 0] := by simp [dkA]
    have eb : dkB (K ++ [⟨p, q, newS m.toNat⟩]) = dkB K ++ [.ptr q 0] := by simp [dkB]
    rw [← ea, ← eb, show K.length + 1 = (K ++ [(⟨p, q, newS m.toNat⟩ : DK)]).length by simp] at Hd
    exact ⟨p, q, desk_open.2 ⟨_, _, vo, vw, lt, x, Hd⟩⟩
theorem dclone32 {hs : HS} {l : List SA} {d k : Nat} {K : List DK} {E1 E2 : List En} {e : DK} (H : Sat hs (DeskP d K E1 E2 :: l)) (hk : K[k]? = some e) (n : Int) (hK : K.length ≤ 4) (hb : e.s.held.length < 4611686018) :
    HC Try.prog 32 [.ptr d 0, .int .i64 (k : Nat), .int .i64 n] hs fun v hs' => v = .bool true ∧ ∃ K', (1 ≤ K'.length ∧ K'.length ≤ 4 ∧ ∀ g ∈ K', g ∈ K ∨ g.s = e.s) ∧ Sat hs' (DeskP d K' E1 E2 :: l) := by
  have hmax : maxLen = 9223372036854775807 := rfl
  have hkl := lt_of_get hk
  obtain ⟨va, vb, vo, vw, lt, x, H1⟩ := desk_open.1 H
  clear H
  have H2 := dk_at H1.p4.p4.p4.p4.p4.p5 hk
  clear H1
  have H := H2.p2.p7.p7.p7.p7.p7.p7.p7
  clear H2
  obtain ⟨qa, hqa1, hqa2⟩ := (Sat.rd H.p3).idx1 (dkA_get hk) .i64
  obtain ⟨qb, hqb1, hqb2⟩ := (Sat.rd H.p4).idx1 (dkB_get hk) .i64
  have ldA : ∀ hs l', Sat hs (My 1 va K.length (dkA K) :: l') → hload none hs qa = some (.ptr e.p 0) := fun hs l' h => h.rd.ld1 hqa1 (dkA_get hk)
  have ldB : ∀ hs l', Sat hs (My 1 vb K.length (dkB K) :: l') → hload none hs qb = some (.ptr e.q 0) := fun hs l' h => h.rd.ld1 hqb1 (dkB_get hk)
  refine HC.wp mixed Try.func32 c32 ?_
  first | have f0 := Sat.pf (H) | have f0 := trivial
  first | have f1 := Sat.pf (H.t) | have f1 := trivial
  first | have f2 := Sat.pf (H.t.t) | have f2 := trivial
  first | have f3 := Sat.pf (H.t.t.t) | have f3 := trivial
  first | have f4 := Sat.pf (H.t.t.t.t) | have f4 := trivial
  first | have f5 := Sat.pf (H.t.t.t.t.t) | have f5 := trivial
  first | have f6 := Sat.pf (H.t.t.t.t.t.t) | have f6 := trivial
  first | have f7 := Sat.pf (H.t.t.t.t.t.t.t) | have f7 := trivial
  first | have f8 := Sat.pf (H.t.t.t.t.t.t.t.t) | have f8 := trivial
  first | have f9 := Sat.pf (H.t.t.t.t.t.t.t.t.t) | have f9 := trivial
  first | have f10 := Sat.pf (H.t.t.t.t.t.t.t.t.t.t) | have f10 := trivial
  first | have f11 := Sat.pf (H.t.t.t.t.t.t.t.t.t.t.t) | have f11 := trivial
  by_cases h4 : K.length < 4
  · skip
    repeat' first
      | ((with_reducible show Need _); refine need_of ?_; (first | have f0 := Sat.pf (H) | have f0 := trivial); (first | have f1 := Sat.pf (H.t) | have f1 := trivial); (first | have f2 := Sat.pf (H.t.t) | have f2 := trivial); (first | have f3 := Sat.pf (H.t.t.t) | have f3 := trivial); (first | have f4 := Sat.pf (H.t.t.t.t) | have f4 := trivial); (first | have f5 := Sat.pf (H.t.t.t.t.t) | have f5 := trivial); (first | have f6 := Sat.pf (H.t.t.t.t.t.t) | have f6 := trivial); (first | have f7 := Sat.pf (H.t.t.t.t.t.t.t) | have f7 := trivial); (first | have f8 := Sat.pf (H.t.t.t.t.t.t.t.t) | have f8 := trivial); (first | have f9 := Sat.pf (H.t.t.t.t.t.t.t.t.t) | have f9 := trivial); (first | have f10 := Sat.pf (H.t.t.t.t.t.t.t.t.t.t) | have f10 := trivial); (first | have f11 := Sat.pf (H.t.t.t.t.t.t.t.t.t.t.t) | have f11 := trivial); (first | have hqa2 := ldA _ _ (by with_reducible first | exact H | exact H.p1 | exact H.p2 | exact H.p3 | exact H.p4 | exact H.p5 | exact H.p6 | exact H.p7 | exact H.p8 | exact H.p9 | exact H.p10 | exact H.p11) | skip); (first | have hqb2 := ldB _ _ (by with_reducible first | exact H | exact H.p1 | exact H.p2 | exact H.p3 | exact H.p4 | exact H.p5 | exact H.p6 | exact H.p7 | exact H.p8 | exact H.p9 | exact H.p10 | exact H.p11) | skip))
      | simp -implicitDefEqProofs (disch := first | omega | decide | exact rfl | assumption | exact Nat.le_of_ble_eq_true rfl | exact One.c | exact One.o) only [vsA, vsB, eq_self, if_true, if_false, implies_true, false_implies, evp, HX.ev, Nat.reduceAdd, HOp.looks, Nat.reduceEqDiff, overw, Nat.reduceBEq, h32, hqa1, hqa2, hqb1, hqb2, ub32, f0, f1, f2, f3, f4, f5, f6, f7, f8, f9, f10, f11, frame0, List.replicate, Nat.sub]
      | (refine condK_cases (fun h => ?_) (fun h => ?_) <;> (try simp only [h]) <;> (try simp only [athA, ne_eq] at h) <;> (try (exfalso; omega)))
      | (refine guardK_cases (fun h => ?_) (fun h => ?_) <;> (try simp only [h]) <;> (try simp only [athA, ne_eq] at h) <;> (try (exfalso; omega)))
      | (clear H f0 f1 f2 f3 f4 f5 f6 f7 f8 f9 f10 f11; (with_reducible intro v2 hs H); (try simp only [setA, overw, Nat.reduceAdd] at H); refine need ?_)
      | ((with_reducible show actK _ (HAct.call (HX.cst (HV.func (Fn.func 28) _ _)) _) _ _ _ _ _); refine vcall_of ok28 rfl (clone28 (p := e.p) (s := e.s) (by with_reducible first | exact H | exact H.p1 | exact H.p2 | exact H.p3 | exact H.p4 | exact H.p5 | exact H.p6 | exact H.p7 | exact H.p8 | exact H.p9 | exact H.p10 | exact H.p11) (by omega)) ?_;  clear H f0 f1 f2 f3 f4 f5 f6 f7 f8 f9 f10 f11; rintro v hs ⟨p', rfl, H⟩; refine need ?_)
      | ((with_reducible show actK _ (HAct.call (HX.cst (HV.func (Fn.func 44) _ _)) _) _ _ _ _ _); refine vcall_of ok44 rfl (rclone44 (p := e.q) (s := e.s) (by with_reducible first | exact H | exact H.p1 | exact H.p2 | exact H.p3 | exact H.p4 | exact H.p5 | exact H.p6 | exact H.p7 | exact H.p8 | exact H.p9 | exact H.p10 | exact H.p11) (by omega)) ?_;  clear H f0 f1 f2 f3 f4 f5 f6 f7 f8 f9 f10 f11; rintro v hs ⟨q', rfl, H⟩; refine need ?_)
      | refine opC_K ?_
      | ((with_reducible show opC (unit (hstore _ _ _ _)) _); refine sl_store1 (by with_reducible first | exact H | exact H.p1 | exact H.p2 | exact H.p3 | exact H.p4 | exact H.p5 | exact H.p6 | exact H.p7 | exact H.p8 | exact H.p9 | exact H.p10 | exact H.p11) (Nat.le_of_ble_eq_true rfl) (by first | exact rfl | (simp only [f0, f1, f2, f3, f4, f5, f6, f7, f8, f9, f10, f11]; done) | (simp only [onA, *]; done)) (by first | exact rfl | (simp only [f0, f1, f2, f3, f4, f5, f6, f7, f8, f9, f10, f11]; done) | (simp only [onA, *]; done)) ?_)
      | ((with_reducible show opC (unit (hstore _ _ _ _)) _); refine sl_storeN (by with_reducible first | exact H | exact H.p1 | exact H.p2 | exact H.p3 | exact H.p4 | exact H.p5 | exact H.p6 | exact H.p7 | exact H.p8 | exact H.p9 | exact H.p10 | exact H.p11) rfl (Nat.le_of_ble_eq_true rfl) (by first | exact rfl | (simp only [f0, f1, f2, f3, f4, f5, f6, f7, f8, f9, f10, f11]; done) | (simp only [onA, *]; done)) ?_)
      | ((with_reducible show opC (happend _ _ _ _ _) _); refine sl_append (by with_reducible first | exact H | exact H.p1 | exact H.p2 | exact H.p3 | exact H.p4 | exact H.p5 | exact H.p6 | exact H.p7 | exact H.p8 | exact H.p9 | exact H.p10 | exact H.p11) (by first | assumption | with_reducible first | exact f0.2.1 | exact f1.2.1 | exact f2.2.1 | exact f3.2.1 | exact f4.2.1 | exact f5.2.1 | exact f6.2.1 | exact f7.2.1 | exact f8.2.1 | exact f9.2.1 | exact f10.2.1 | exact f11.2.1 | exact va_takeS) (by first | exact roomFor_of (by omega) | exact roomFor_wide (by omega)) (by omega) ?_)
      | ((with_reducible show opC (happend _ _ _ _ _) _); refine sl_append0X H (by first | assumption | with_reducible first | exact f0.2.1 | exact f1.2.1 | exact f2.2.1 | exact f3.2.1 | exact f4.2.1 | exact f5.2.1 | exact f6.2.1 | exact f7.2.1 | exact f8.2.1 | exact f9.2.1 | exact f10.2.1 | exact f11.2.1 | exact va_takeS) (by first | exact roomFor_of (by omega) | exact roomFor_wide (by omega)) (by omega) ?_)
      | ((with_reducible show opC (happend _ _ _ _ _) _); refine sl_appendX (by with_reducible first | exact H | exact H.p1 | exact H.p2 | exact H.p3 | exact H.p4 | exact H.p5 | exact H.p6 | exact H.p7 | exact H.p8 | exact H.p9 | exact H.p10 | exact H.p11) (by first | assumption | with_reducible first | exact f0.2.1 | exact f1.2.1 | exact f2.2.1 | exact f3.2.1 | exact f4.2.1 | exact f5.2.1 | exact f6.2.1 | exact f7.2.1 | exact f8.2.1 | exact f9.2.1 | exact f10.2.1 | exact f11.2.1 | exact va_takeS) (by first | exact roomFor_of (by omega) | exact roomFor_wide (by omega)) (by omega) ?_)
      | ((with_reducible show opC (hbuildSlice _ _ _ _ _) _); refine sl_bslice1 H rfl (by first | exact rfl | (simp only [f0, f1, f2, f3, f4, f5, f6, f7, f8, f9, f10, f11]; done) | (simp only [onA, *]; done)) (by first | exact rfl | (simp only [f0, f1, f2, f3, f4, f5, f6, f7, f8, f9, f10, f11]; done) | (simp only [onA, *]; done)) ?_)
      | with_reducible intro hy

    have H := dk_put (s' := e.s) hk H.p8.p8.p3.p4.p4.p5.p7.p9.p8.p9
    rw [show K.set k ⟨e.p, e.q, e.s⟩ = K from by
      obtain ⟨h1, h2⟩ := List.getElem?_eq_some_iff.1 hk
      rw [show (⟨e.p, e.q, e.s⟩ : DK) = e from rfl, ← h2]; exact List.set_getElem_self h1] at H
    have Hk : Sat _ (DK.P ⟨p', q', e.s⟩ :: _) := (Sat.grp_iff (l1 := [InP p' e.s, RefP q' e.s])).2 H.p7.p7.p7.p7.p7.p5.p7.p7
    have Hs := Sat.each_snoc.2 Hk
    have Hd := Hs.p5.p5.p5.p5.p5
    have ea : dkA (K ++ [⟨p', q', e.s⟩]) = dkA K ++ [.ptr p' 0] := by simp [dkA]
    have eb : dkB (K ++ [⟨p', q', e.s⟩]) = dkB K ++ [.ptr q' 0] := by simp [dkB]
    rw [← ea, ← eb, show K.length + 1 = (K ++ [(⟨p', q', e.s⟩ : DK)]).length by simp] at Hd
    refine ⟨K ++ [⟨p', q', e.s⟩], ⟨by simp, by simp; omega, ?_⟩, desk_open.2 ⟨_, _, vo, vw, lt, x, Hd⟩⟩
    intro g hg
    rcases List.mem_append.1 hg with hg | hg
    · exact .inl hg
    · rw [List.mem_singleton.1 hg]; exact .inr rfl
  · obtain ⟨to, hto⟩ : ∃ to, to = amongF n 4 := ⟨_, rfl⟩
    have hlt := among_lt (i := n) (m := 4) (by omega)
    rw [← hto] at hlt
    have hA : HC Try.prog 20 [.int .i64 n, .int .i64 4] hs fun v hs' => v = .int .i64 (to : Nat) ∧ hs' = hs := by rw [hto]; exact among20 n 4 (by omega)
    have w1 := True.intro
    have w2 := True.intro
    have w3 := True.intro
    have w4 := True.intro
    have g5 := True.intro
    have sb := True.intro
    repeat' first
      | ((with_reducible show Need _); refine need_of ?_; (first | have f0 := Sat.pf (H) | have f0 := trivial); (first | have f1 := Sat.pf (H.t) | have f1 := trivial); (first | have f2 := Sat.pf (H.t.t) | have f2 := trivial); (first | have f3 := Sat.pf (H.t.t.t) | have f3 := trivial); (first | have f4 := Sat.pf (H.t.t.t.t) | have f4 := trivial); (first | have f5 := Sat.pf (H.t.t.t.t.t) | have f5 := trivial); (first | have f6 := Sat.pf (H.t.t.t.t.t.t) | have f6 := trivial); (first | have f7 := Sat.pf (H.t.t.t.t.t.t.t) | have f7 := trivial); (first | have f8 := Sat.pf (H.t.t.t.t.t.t.t.t) | have f8 := trivial); (first | have f9 := Sat.pf (H.t.t.t.t.t.t.t.t.t) | have f9 := trivial); (first | have f10 := Sat.pf (H.t.t.t.t.t.t.t.t.t.t) | have f10 := trivial); (first | have f11 := Sat.pf (H.t.t.t.t.t.t.t.t.t.t.t) | have f11 := trivial); (first | have hqa2 := ldA _ _ (by with_reducible first | exact H | exact H.p1 | exact H.p2 | exact H.p3 | exact H.p4 | exact H.p5 | exact H.p6 | exact H.p7 | exact H.p8 | exact H.p9 | exact H.p10 | exact H.p11) | skip); (first | have hqb2 := ldB _ _ (by with_reducible first | exact H | exact H.p1 | exact H.p2 | exact H.p3 | exact H.p4 | exact H.p5 | exact H.p6 | exact H.p7 | exact H.p8 | exact H.p9 | exact H.p10 | exact H.p11) | skip))
      | simp -implicitDefEqProofs (disch := first | omega | decide | exact rfl | assumption | exact Nat.le_of_ble_eq_true rfl | exact One.c | exact One.o) only [vsA, vsB, eq_self, if_true, if_false, implies_true, false_implies, evp, HX.ev, Nat.reduceAdd, HOp.looks, Nat.reduceEqDiff, overw, Nat.reduceBEq, h32, hqa1, hqa2, hqb1, hqb2, w1, w2, w3, w4, g5, sb, ub32, f0, f1, f2, f3, f4, f5, f6, f7, f8, f9, f10, f11, frame0, List.replicate, Nat.sub]
      | (refine condK_cases (fun h => ?_) (fun h => ?_) <;> (try simp only [h]) <;> (try simp only [athA, ne_eq] at h) <;> (try (exfalso; omega)))
      | (refine guardK_cases (fun h => ?_) (fun h => ?_) <;> (try simp only [h]) <;> (try simp only [athA, ne_eq] at h) <;> (try (exfalso; omega)))
      | (clear H f0 f1 f2 f3 f4 f5 f6 f7 f8 f9 f10 f11; (with_reducible intro v2 hs H); (try simp only [setA, overw, Nat.reduceAdd] at H); refine need ?_)
      | ((with_reducible show actK _ (HAct.call (HX.cst (HV.func (Fn.func 28) _ _)) _) _ _ _ _ _); refine vcall_of ok28 rfl (clone28 (p := e.p) (s := e.s) (by with_reducible first | exact H | exact H.p1 | exact H.p2 | exact H.p3 | exact H.p4 | exact H.p5 | exact H.p6 | exact H.p7 | exact H.p8 | exact H.p9 | exact H.p10 | exact H.p11) (by omega)) ?_;  clear H f0 f1 f2 f3 f4 f5 f6 f7 f8 f9 f10 f11; rintro v hs ⟨p', rfl, H⟩; refine need ?_)
      | ((with_reducible show actK _ (HAct.call (HX.cst (HV.func (Fn.func 44) _ _)) _) _ _ _ _ _); refine vcall_of ok44 rfl (rclone44 (p := e.q) (s := e.s) (by with_reducible first | exact H | exact H.p1 | exact H.p2 | exact H.p3 | exact H.p4 | exact H.p5 | exact H.p6 | exact H.p7 | exact H.p8 | exact H.p9 | exact H.p10 | exact H.p11) (by omega)) ?_;  clear H f0 f1 f2 f3 f4 f5 f6 f7 f8 f9 f10 f11; rintro v hs ⟨q', rfl, H⟩; refine need ?_)
      | ((with_reducible show actK _ (HAct.call (HX.cst (HV.func (Fn.func 20) _ _)) _) _ _ _ _ _); refine vcall_of ok20 rfl (among20 n 4 (by omega)) ?_;  rw [← hto]; rintro _ _ ⟨rfl, rfl⟩; obtain ⟨h1, o1, hs1, w1, w2, H1⟩ := (Sat.p5 H).write (i := to) (j := 0) (by omega) (by decide) .i64 (x := .ptr p' 0) rfl rfl; rw [Nat.add_zero] at w2; obtain ⟨h2, o2, hs2, w3, w4, H2⟩ := (Sat.p6 H1).write (i := to) (j := 0) (by omega) (by decide) .i64 (x := .ptr q' 0) rfl rfl; rw [Nat.add_zero] at w4; have g5 := (Sat.p5 H1).get; have sb := (Sat.p6 H1).rd.sOk)
      | refine opC_K ?_
      | ((with_reducible show opC (unit (hstore _ _ _ _)) _); refine sl_store1 (by with_reducible first | exact H | exact H.p1 | exact H.p2 | exact H.p3 | exact H.p4 | exact H.p5 | exact H.p6 | exact H.p7 | exact H.p8 | exact H.p9 | exact H.p10 | exact H.p11) (Nat.le_of_ble_eq_true rfl) (by first | exact rfl | (simp only [f0, f1, f2, f3, f4, f5, f6, f7, f8, f9, f10, f11]; done) | (simp only [onA, *]; done)) (by first | exact rfl | (simp only [f0, f1, f2, f3, f4, f5, f6, f7, f8, f9, f10, f11]; done) | (simp only [onA, *]; done)) ?_)
      | ((with_reducible show opC (unit (hstore _ _ _ _)) _); refine sl_storeN (by with_reducible first | exact H | exact H.p1 | exact H.p2 | exact H.p3 | exact H.p4 | exact H.p5 | exact H.p6 | exact H.p7 | exact H.p8 | exact H.p9 | exact H.p10 | exact H.p11) rfl (Nat.le_of_ble_eq_true rfl) (by first | exact rfl | (simp only [f0, f1, f2, f3, f4, f5, f6, f7, f8, f9, f10, f11]; done) | (simp only [onA, *]; done)) ?_)
      | ((with_reducible show opC (happend _ _ _ _ _) _); refine sl_append (by with_reducible first | exact H | exact H.p1 | exact H.p2 | exact H.p3 | exact H.p4 | exact H.p5 | exact H.p6 | exact H.p7 | exact H.p8 | exact H.p9 | exact H.p10 | exact H.p11) (by first | assumption | with_reducible first | exact f0.2.1 | exact f1.2.1 | exact f2.2.1 | exact f3.2.1 | exact f4.2.1 | exact f5.2.1 | exact f6.2.1 | exact f7.2.1 | exact f8.2.1 | exact f9.2.1 | exact f10.2.1 | exact f11.2.1 | exact va_takeS) (by first | exact roomFor_of (by omega) | exact roomFor_wide (by omega)) (by omega) ?_)
      | ((with_reducible show opC (happend _ _ _ _ _) _); refine sl_append0X H (by first | assumption | with_reducible first | exact f0.2.1 | exact f1.2.1 | exact f2.2.1 | exact f3.2.1 | exact f4.2.1 | exact f5.2.1 | exact f6.2.1 | exact f7.2.1 | exact f8.2.1 | exact f9.2.1 | exact f10.2.1 | exact f11.2.1 | exact va_takeS) (by first | exact roomFor_of (by omega) | exact roomFor_wide (by omega)) (by omega) ?_)
      | ((with_reducible show opC (happend _ _ _ _ _) _); refine sl_appendX (by with_reducible first | exact H | exact H.p1 | exact H.p2 | exact H.p3 | exact H.p4 | exact H.p5 | exact H.p6 | exact H.p7 | exact H.p8 | exact H.p9 | exact H.p10 | exact H.p11) (by first | assumption | with_reducible first | exact f0.2.1 | exact f1.2.1 | exact f2.2.1 | exact f3.2.1 | exact f4.2.1 | exact f5.2.1 | exact f6.2.1 | exact f7.2.1 | exact f8.2.1 | exact f9.2.1 | exact f10.2.1 | exact f11.2.1 | exact va_takeS) (by first | exact roomFor_of (by omega) | exact roomFor_wide (by omega)) (by omega) ?_)
      | ((with_reducible show opC (hbuildSlice _ _ _ _ _) _); refine sl_bslice1 H rfl (by first | exact rfl | (simp only [f0, f1, f2, f3, f4, f5, f6, f7, f8, f9, f10, f11]; done) | (simp only [onA, *]; done)) (by first | exact rfl | (simp only [f0, f1, f2, f3, f4, f5, f6, f7, f8, f9, f10, f11]; done) | (simp only [onA, *]; done)) ?_)
      | with_reducible intro hy

    simp only [Nat.mul_one, Nat.add_zero] at H2
    have H := dk_put (s' := e.s) hk H2.p8.p8.p2.p3.p8.p5.p7.p9.p8.p9
    rw [show K.set k ⟨e.p, e.q, e.s⟩ = K from by
      obtain ⟨h1, h2⟩ := List.getElem?_eq_some_iff.1 hk
      rw [show (⟨e.p, e.q, e.s⟩ : DK) = e from rfl, ← h2]; exact List.set_getElem_self h1] at H
    have hf : K[to]? = some K[to] := List.getElem?_eq_getElem (by omega)
    have H := (Sat.each_at H hf).t
    have Hk : Sat _ (DK.P ⟨p', q', e.s⟩ :: _) := (Sat.grp_iff (l1 := [InP p' e.s, RefP q' e.s])).2 H.p7.p7.p7.p7.p7.p5.p7.p7
    have Hs := Sat.each_put (by omega) Hk
    have Hd := Hs.p5.p5.p5.p5.p5
    have ea : dkA (K.set to ⟨p', q', e.s⟩) = (dkA K).set to (.ptr p' 0) := by simp [dkA, List.map_set]
    have eb : dkB (K.set to ⟨p', q', e.s⟩) = (dkB K).set to (.ptr q' 0) := by simp [dkB, List.map_set]
    rw [← ea, ← eb, show K.length = (K.set to (⟨p', q', e.s⟩ : DK)).length by simp] at Hd
    refine ⟨K.set to ⟨p', q', e.s⟩, ⟨by simp; omega, by simp; omega, ?_⟩, desk_open.2 ⟨_, _, vo, vw, lt, x, Hd⟩⟩
    intro g hg
    rcases List.mem_or_eq_of_mem_set hg with hg | rfl
    · exact .inl hg
    · exact .inr rfl
/-- how much there is. -/
structure Fit (T n : Nat) (K : List DK) (E1 E2 : List En) : Prop where
  some_ : 1 ≤ K.length ∧ K.length ≤ 4
  each_ : ∀ e ∈ K, e.s.st ≤ 3 ∧ e.s.held.length ≤ T ∧ e.s.size ≤ 4294967295 ∧ e.s.left ≤ 4294967297
  many : E1.length + 2 * E2.length ≤ n
  olds : ∀ e ∈ E1, e.bs.length ≤ T + 40
  news : ∀ e ∈ E2, e.bs.length ≤ T
theorem Fit.more {T T' n n' : Nat} {K K' : List DK} {E1 E2 : List En} (F : Fit T n K E1 E2) (hT : T ≤ T') (hn : n ≤ n') (hk : 1 ≤ K'.length ∧ K'.length ≤ 4) (he : ∀ e ∈ K', e.s.st ≤ 3 ∧ e.s.held.length ≤ T' ∧ e.s.size ≤ 4294967295 ∧ e.s.left ≤ 4294967297) : Fit T' n' K' E1 E2 :=
  ⟨hk, he, by have := F.many; omega, fun e h => by have := F.olds e h; omega, fun e h => by have := F.news e h; omega⟩
theorem next_fit (s : St) : (nextS s).2.held.length ≤ s.held.length ∧ ((nextS s).2.st ≤ 1 ∨ (nextS s).2.st = s.st) ∧ (nextS s).2.size = s.size ∧ (nextS s).2.left = s.left ∧ (itB (nextS s).1).length ≤ s.held.length := by
  unfold nextS
  split
  · split
    · simp [itB]
    · split
      · simp [itB]
      · have := skipL_len false s.held
        split
        · simp [itB]; omega
        · simp [itB]; omega
  · split
    · split
      · simp [itB]
      · simp [itB]
    · split
      · split
        · simp [itB]
        · simp only [itB, List.length_drop]
          refine ⟨by omega, by simp, by trivial, by trivial, ?_⟩
          unfold bodyF
          split
          · simp; omega
          · simp
      · split
        · simp [itB]
        · simp [itB]
theorem bodyS_small (s : St) (n : Int) : (bodyS s n).1.held.length ≤ s.held.length ∧ ((bodyS s n).1.st ≤ 3 ∨ (bodyS s n).1.st = s.st) ∧ ((bodyS s n).1.size ≤ 4294967295 ∨ (bodyS s n).1.size = s.size) ∧ ((bodyS s n).1.left ≤ 4294967297 ∨ (bodyS s n).1.left = s.left) := by
  unfold bodyS
  split
  · simp
  · split
    · simp; omega
    · simp; omega
theorem fit_set {T : Nat} {K : List DK} {k : Nat} {y : DK} (h : ∀ e ∈ K, e.s.st ≤ 3 ∧ e.s.held.length ≤ T ∧ e.s.size ≤ 4294967295 ∧ e.s.left ≤ 4294967297) {T' : Nat} (hT : T ≤ T') (hy : y.s.st ≤ 3 ∧ y.s.held.length ≤ T' ∧ y.s.size ≤ 4294967295 ∧ y.s.left ≤ 4294967297) :
    ∀ e ∈ K.set k y, e.s.st ≤ 3 ∧ e.s.held.length ≤ T' ∧ e.s.size ≤ 4294967295 ∧ e.s.left ≤ 4294967297 := by
  intro e he
  rcases List.mem_or_eq_of_mem_set he with he | rfl
  · have := h e he; omega
  · exact hy
theorem dact11 {hs : HS} {l : List SA} {d T n : Nat} {K : List DK} {E1 E2 : List En} (H : Sat hs (DeskP d K E1 E2 :: l)) (G : ∀ hs, Sat hs l → hs[0]? = some (some (HB.gint 0))) (F : Fit T n K E1 E2) (a : ActV) (R : Rdl l a.v a.data.length (bcells a.data)) (hT : T + a.data.length < 2147483800) (hn : n < 4294967400) :
    HC Try.prog 11 [.ptr d 0, .agg a.cells] hs fun v hs' => v = .bool true ∧ ∃ K' E1' E2', Fit (T + a.data.length) (n + 2) K' E1' E2' ∧ Sat hs' (DeskP d K' E1' E2' :: l) := by
  have hmax : maxLen = 9223372036854775807 := rfl
  obtain ⟨F1, F2, F3, F4, F5⟩ := id F
  have avo := (R _ H.t).one
  have avc := (R _ H.t).cells
  have al : hfill [.int .i64 0] [] = some [.int .i64 0] := rfl
  obtain ⟨k, hkd⟩ : ∃ k, k = amongF a.at_ K.length := ⟨_, rfl⟩
  have hkl := among_lt (i := a.at_) (m := K.length) (by omega)
  rw [← hkd] at hkl
  obtain ⟨e, hk⟩ : ∃ e, K[k]? = some e := ⟨_, List.getElem?_eq_getElem hkl⟩
  obtain ⟨f1, f2, f3, f4⟩ := F2 e (List.mem_of_getElem? hk)
  have nf := next_fit e.s
  have fl := feed_len e.s a.data
  obtain ⟨va, vb, vo, vw, lt, x, H1⟩ := desk_open.1 H
  clear H
  have H := H1
  clear H1
  have h6 := among_lt (i := a.kind) (m := 6) (by omega)
  have hle : (E1 ++ E2).length = E1.length + E2.length := by simp
  refine HC.wp mixed Try.func11 c11 ?_
  simp only [ActV.cells]
  first | have f0 := Sat.pf (H) | have f0 := trivial
  first | have f1 := Sat.pf (H.t) | have f1 := trivial
  first | have f2 := Sat.pf (H.t.t) | have f2 := trivial
  first | have f3 := Sat.pf (H.t.t.t) | have f3 := trivial
  first | have f4 := Sat.pf (H.t.t.t.t) | have f4 := trivial
  first | have f5 := Sat.pf (H.t.t.t.t.t) | have f5 := trivial
  first | have f6 := Sat.pf (H.t.t.t.t.t.t) | have f6 := trivial
  first | have f7 := Sat.pf (H.t.t.t.t.t.t.t) | have f7 := trivial
  first | have f8 := Sat.pf (H.t.t.t.t.t.t.t.t) | have f8 := trivial
  first | have f9 := Sat.pf (H.t.t.t.t.t.t.t.t.t) | have f9 := trivial
  first | have f10 := Sat.pf (H.t.t.t.t.t.t.t.t.t.t) | have f10 := trivial
  first | have f11 := Sat.pf (H.t.t.t.t.t.t.t.t.t.t.t) | have f11 := trivial
  have hc : amongF a.kind 6 = 0 ∨ amongF a.kind 6 = 1 ∨ amongF a.kind 6 = 2 ∨ amongF a.kind 6 = 3 ∨ amongF a.kind 6 = 4 ∨ amongF a.kind 6 = 5 := by omega
  rcases hc with h | h | h | h | h | h
  · have hk6 : amongF a.kind 6 = 0 := h
    repeat' first
      | ((with_reducible show Need _); refine need_of ?_; (first | have f0 := Sat.pf (H) | have f0 := trivial); (first | have f1 := Sat.pf (H.t) | have f1 := trivial); (first | have f2 := Sat.pf (H.t.t) | have f2 := trivial); (first | have f3 := Sat.pf (H.t.t.t) | have f3 := trivial); (first | have f4 := Sat.pf (H.t.t.t.t) | have f4 := trivial); (first | have f5 := Sat.pf (H.t.t.t.t.t) | have f5 := trivial); (first | have f6 := Sat.pf (H.t.t.t.t.t.t) | have f6 := trivial); (first | have f7 := Sat.pf (H.t.t.t.t.t.t.t) | have f7 := trivial); (first | have f8 := Sat.pf (H.t.t.t.t.t.t.t.t) | have f8 := trivial); (first | have f9 := Sat.pf (H.t.t.t.t.t.t.t.t.t) | have f9 := trivial); (first | have f10 := Sat.pf (H.t.t.t.t.t.t.t.t.t.t) | have f10 := trivial); (first | have f11 := Sat.pf (H.t.t.t.t.t.t.t.t.t.t.t) | have f11 := trivial))
      | simp -implicitDefEqProofs (disch := first | omega | decide | exact rfl | assumption | exact Nat.le_of_ble_eq_true rfl | exact One.c | exact One.o) only [vsA, vsB, eq_self, if_true, if_false, implies_true, false_implies, evp, HX.ev, Nat.reduceAdd, HOp.looks, Nat.reduceEqDiff, overw, Nat.reduceBEq, h11, al, avo, avc, ub11, f0, f1, f2, f3, f4, f5, f6, f7, f8, f9, f10, f11, frame0, List.replicate, Nat.sub]
      | (refine condK_cases (fun h => ?_) (fun h => ?_) <;> (try simp only [h]) <;> (try simp only [athA, ne_eq] at h) <;> (try (exfalso; omega)))
      | (refine guardK_cases (fun h => ?_) (fun h => ?_) <;> (try simp only [h]) <;> (try simp only [athA, ne_eq] at h) <;> (try (exfalso; omega)))
      | (refine dgK_cases (fun h => ?_) (fun h => ?_) <;> (try simp only [h]) <;> (try simp only [athA, ne_eq] at h) <;> (try (exfalso; omega)))
      | (clear H f0 f1 f2 f3 f4 f5 f6 f7 f8 f9 f10 f11; (with_reducible intro v2 hs H); (try simp only [setA, overw, Nat.reduceAdd] at H); refine need ?_)
      | ((with_reducible show actK _ (HAct.call (HX.cst (HV.func (Fn.func 20) _ _)) _) _ _ _ _ _); refine vcall_of ok20 rfl (among20 a.at_ K.length (by omega)) ?_;  rw [← hkd]; rintro _ _ ⟨rfl, rfl⟩)
      | ((with_reducible show drK _ _ _ _ _ _ _ _ _ (some ⟨_, HAct.call (HX.cst (HV.func (Fn.func 20) _ _)) _, none⟩)); refine vdr_call ok20 rfl (among20 a.at_ K.length (by omega)) ?_;  rw [← hkd]; rintro _ _ ⟨rfl, rfl⟩)
      | ((with_reducible show actK _ (HAct.call (HX.cst (HV.func (Fn.func 20) _ _)) _) _ _ _ _ _); refine vcall_of ok20 rfl (among20 a.kind 6 (by omega)) ?_;  rw [hk6]; rintro _ _ ⟨rfl, rfl⟩)
      | ((with_reducible show drK _ _ _ _ _ _ _ _ _ (some ⟨_, HAct.call (HX.cst (HV.func (Fn.func 20) _ _)) _, none⟩)); refine vdr_call ok20 rfl (among20 a.kind 6 (by omega)) ?_;  rw [hk6]; rintro _ _ ⟨rfl, rfl⟩)
      | ((with_reducible show actK _ (HAct.call (HX.cst (HV.func (Fn.func 30) _ _)) _) _ _ _ _ _); refine vcall_of ok30 rfl (dfeed30 (desk_open.2 ⟨va, vb, vo, vw, lt, x, H.p6.p6.p6.p6.p6.p6⟩) hk (fun _ h => R _ h.t) (by omega) (by omega)) ?_;  clear H f0 f1 f2 f3 f4 f5 f6 f7 f8 f9 f10 f11; rintro v hs ⟨rfl, H⟩; refine need ?_)
      | ((with_reducible show drK _ _ _ _ _ _ _ _ _ (some ⟨_, HAct.call (HX.cst (HV.func (Fn.func 30) _ _)) _, none⟩)); refine vdr_call ok30 rfl (dfeed30 (desk_open.2 ⟨va, vb, vo, vw, lt, x, H.p6.p6.p6.p6.p6.p6⟩) hk (fun _ h => R _ h.t) (by omega) (by omega)) ?_;  clear H f0 f1 f2 f3 f4 f5 f6 f7 f8 f9 f10 f11; rintro v hs ⟨rfl, H⟩; refine need ?_)
      | refine opC_K ?_
      | refine opC_D ?_
      | ((with_reducible show opC (hbox _ _) _); refine sl_box1 H (by first | exact rfl | (simp only [f0, f1, f2, f3, f4, f5, f6, f7, f8, f9, f10, f11]; done) | (simp only [onA, *]; done)) (by first | exact rfl | (simp only [f0, f1, f2, f3, f4, f5, f6, f7, f8, f9, f10, f11]; done) | (simp only [onA, *]; done)) ?_)
      | ((with_reducible show opC (hbox _ _) _); refine sl_boxA H (by first | exact rfl | (simp only [f0, f1, f2, f3, f4, f5, f6, f7, f8, f9, f10, f11]; done) | (simp only [onA, *]; done)) ?_)
      | refine hwp_draw mixed rfl ?_
      | with_reducible intro hy

    refine ⟨_, E1, E2, F.more (by omega) (by omega) (by simp; omega) (fit_set F2 (by omega) ⟨by first | omega | (simp only; omega), by first | omega | (simp only; omega), by first | omega | (simp only; omega), by first | omega | (simp only; omega)⟩), H.d1⟩
  · have hk6 : amongF a.kind 6 = 1 := h
    repeat' first
      | ((with_reducible show Need _); refine need_of ?_; (first | have f0 := Sat.pf (H) | have f0 := trivial); (first | have f1 := Sat.pf (H.t) | have f1 := trivial); (first | have f2 := Sat.pf (H.t.t) | have f2 := trivial); (first | have f3 := Sat.pf (H.t.t.t) | have f3 := trivial); (first | have f4 := Sat.pf (H.t.t.t.t) | have f4 := trivial); (first | have f5 := Sat.pf (H.t.t.t.t.t) | have f5 := trivial); (first | have f6 := Sat.pf (H.t.t.t.t.t.t) | have f6 := trivial); (first | have f7 := Sat.pf (H.t.t.t.t.t.t.t) | have f7 := trivial); (first | have f8 := Sat.pf (H.t.t.t.t.t.t.t.t) | have f8 := trivial); (first | have f9 := Sat.pf (H.t.t.t.t.t.t.t.t.t) | have f9 := trivial); (first | have f10 := Sat.pf (H.t.t.t.t.t.t.t.t.t.t) | have f10 := trivial); (first | have f11 := Sat.pf (H.t.t.t.t.t.t.t.t.t.t.t) | have f11 := trivial))
      | simp -implicitDefEqProofs (disch := first | omega | decide | exact rfl | assumption | exact Nat.le_of_ble_eq_true rfl | exact One.c | exact One.o) only [vsA, vsB, eq_self, if_true, if_false, implies_true, false_implies, evp, HX.ev, Nat.reduceAdd, HOp.looks, Nat.reduceEqDiff, overw, Nat.reduceBEq, h11, al, avo, avc, ub11, f0, f1, f2, f3, f4, f5, f6, f7, f8, f9, f10, f11, frame0, List.replicate, Nat.sub]
      | (refine condK_cases (fun h => ?_) (fun h => ?_) <;> (try simp only [h]) <;> (try simp only [athA, ne_eq] at h) <;> (try (exfalso; omega)))
      | (refine guardK_cases (fun h => ?_) (fun h => ?_) <;> (try simp only [h]) <;> (try simp only [athA, ne_eq] at h) <;> (try (exfalso; omega)))
      | (refine dgK_cases (fun h => ?_) (fun h => ?_) <;> (try simp only [h]) <;> (try simp only [athA, ne_eq] at h) <;> (try (exfalso; omega)))
      | (clear H f0 f1 f2 f3 f4 f5 f6 f7 f8 f9 f10 f11; (with_reducible intro v2 hs H); (try simp only [setA, overw, Nat.reduceAdd] at H); refine need ?_)
      | ((with_reducible show actK _ (HAct.call (HX.cst (HV.func (Fn.func 20) _ _)) _) _ _ _ _ _); refine vcall_of ok20 rfl (among20 a.at_ K.length (by omega)) ?_;  rw [← hkd]; rintro _ _ ⟨rfl, rfl⟩)
      | ((with_reducible show drK _ _ _ _ _ _ _ _ _ (some ⟨_, HAct.call (HX.cst (HV.func (Fn.func 20) _ _)) _, none⟩)); refine vdr_call ok20 rfl (among20 a.at_ K.length (by omega)) ?_;  rw [← hkd]; rintro _ _ ⟨rfl, rfl⟩)
      | ((with_reducible show actK _ (HAct.call (HX.cst (HV.func (Fn.func 20) _ _)) _) _ _ _ _ _); refine vcall_of ok20 rfl (among20 a.kind 6 (by omega)) ?_;  rw [hk6]; rintro _ _ ⟨rfl, rfl⟩)
      | ((with_reducible show drK _ _ _ _ _ _ _ _ _ (some ⟨_, HAct.call (HX.cst (HV.func (Fn.func 20) _ _)) _, none⟩)); refine vdr_call ok20 rfl (among20 a.kind 6 (by omega)) ?_;  rw [hk6]; rintro _ _ ⟨rfl, rfl⟩)
      | ((with_reducible show actK _ (HAct.call (HX.cst (HV.func (Fn.func 13) _ _)) _) _ _ _ _ _); refine vcall_of ok13 rfl (dnext13 (desk_open.2 ⟨va, vb, vo, vw, lt, x, H.p6.p6.p6.p6.p6.p6⟩) (fun _ h => G _ h.t) hk (by omega) (by omega) (by omega) (by omega) (by omega) (by omega)) ?_;  clear H f0 f1 f2 f3 f4 f5 f6 f7 f8 f9 f10 f11; rintro v hs ⟨rfl, w1, w2, H⟩; refine need ?_)
      | ((with_reducible show drK _ _ _ _ _ _ _ _ _ (some ⟨_, HAct.call (HX.cst (HV.func (Fn.func 13) _ _)) _, none⟩)); refine vdr_call ok13 rfl (dnext13 (desk_open.2 ⟨va, vb, vo, vw, lt, x, H.p6.p6.p6.p6.p6.p6⟩) (fun _ h => G _ h.t) hk (by omega) (by omega) (by omega) (by omega) (by omega) (by omega)) ?_;  clear H f0 f1 f2 f3 f4 f5 f6 f7 f8 f9 f10 f11; rintro v hs ⟨rfl, w1, w2, H⟩; refine need ?_)
      | refine opC_K ?_
      | refine opC_D ?_
      | ((with_reducible show opC (hbox _ _) _); refine sl_box1 H (by first | exact rfl | (simp only [f0, f1, f2, f3, f4, f5, f6, f7, f8, f9, f10, f11]; done) | (simp only [onA, *]; done)) (by first | exact rfl | (simp only [f0, f1, f2, f3, f4, f5, f6, f7, f8, f9, f10, f11]; done) | (simp only [onA, *]; done)) ?_)
      | ((with_reducible show opC (hbox _ _) _); refine sl_boxA H (by first | exact rfl | (simp only [f0, f1, f2, f3, f4, f5, f6, f7, f8, f9, f10, f11]; done) | (simp only [onA, *]; done)) ?_)
      | refine hwp_draw mixed rfl ?_
      | with_reducible intro hy

    refine ⟨_, E1, _, ⟨by simp; omega, fit_set F2 (by omega) ⟨by first | omega | (simp only; omega), by first | omega | (simp only; omega), by first | omega | (simp only; omega), by first | omega | (simp only; omega)⟩, by simp; omega, fun e h => by have := F4 e h; omega, ?_⟩, H.d1⟩
    intro g hg
    rcases List.mem_append.1 hg with hg | hg
    · have := F5 g hg; omega
    · rw [List.mem_singleton.1 hg]; simp only; omega
  · have hk6 : amongF a.kind 6 = 2 := h
    have H2 := dk_at H.p4.p4.p4.p4.p4.p5 hk
    clear H
    have H := H2.p2.p7.p7.p7.p7.p7.p7.p7
    clear H2
    obtain ⟨qa, hqa1, hqa2⟩ := (Sat.rd H.p3).idx1 (dkA_get hk) .i64
    obtain ⟨qb, hqb1, hqb2⟩ := (Sat.rd H.p4).idx1 (dkB_get hk) .i64
    have ldA : ∀ hs l', Sat hs (My 1 va K.length (dkA K) :: l') → hload none hs qa = some (.ptr e.p 0) := fun hs l' h => h.rd.ld1 hqa1 (dkA_get hk)
    have ldB : ∀ hs l', Sat hs (My 1 vb K.length (dkB K) :: l') → hload none hs qb = some (.ptr e.q 0) := fun hs l' h => h.rd.ld1 hqb1 (dkB_get hk)
    first | have f0 := Sat.pf (H) | have f0 := trivial
    first | have f1 := Sat.pf (H.t) | have f1 := trivial
    first | have f2 := Sat.pf (H.t.t) | have f2 := trivial
    first | have f3 := Sat.pf (H.t.t.t) | have f3 := trivial
    first | have f4 := Sat.pf (H.t.t.t.t) | have f4 := trivial
    first | have f5 := Sat.pf (H.t.t.t.t.t) | have f5 := trivial
    first | have f6 := Sat.pf (H.t.t.t.t.t.t) | have f6 := trivial
    first | have f7 := Sat.pf (H.t.t.t.t.t.t.t) | have f7 := trivial
    first | have f8 := Sat.pf (H.t.t.t.t.t.t.t.t) | have f8 := trivial
    first | have f9 := Sat.pf (H.t.t.t.t.t.t.t.t.t) | have f9 := trivial
    first | have f10 := Sat.pf (H.t.t.t.t.t.t.t.t.t.t) | have f10 := trivial
    first | have f11 := Sat.pf (H.t.t.t.t.t.t.t.t.t.t.t) | have f11 := trivial
    repeat' first
      | ((with_reducible show Need _); refine need_of ?_; (first | have f0 := Sat.pf (H) | have f0 := trivial); (first | have f1 := Sat.pf (H.t) | have f1 := trivial); (first | have f2 := Sat.pf (H.t.t) | have f2 := trivial); (first | have f3 := Sat.pf (H.t.t.t) | have f3 := trivial); (first | have f4 := Sat.pf (H.t.t.t.t) | have f4 := trivial); (first | have f5 := Sat.pf (H.t.t.t.t.t) | have f5 := trivial); (first | have f6 := Sat.pf (H.t.t.t.t.t.t) | have f6 := trivial); (first | have f7 := Sat.pf (H.t.t.t.t.t.t.t) | have f7 := trivial); (first | have f8 := Sat.pf (H.t.t.t.t.t.t.t.t) | have f8 := trivial); (first | have f9 := Sat.pf (H.t.t.t.t.t.t.t.t.t) | have f9 := trivial); (first | have f10 := Sat.pf (H.t.t.t.t.t.t.t.t.t.t) | have f10 := trivial); (first | have f11 := Sat.pf (H.t.t.t.t.t.t.t.t.t.t.t) | have f11 := trivial); (first | have hqa2 := ldA _ _ (by with_reducible first | exact H | exact H.p1 | exact H.p2 | exact H.p3 | exact H.p4 | exact H.p5 | exact H.p6 | exact H.p7 | exact H.p8 | exact H.p9 | exact H.p10 | exact H.p11) | skip); (first | have hqb2 := ldB _ _ (by with_reducible first | exact H | exact H.p1 | exact H.p2 | exact H.p3 | exact H.p4 | exact H.p5 | exact H.p6 | exact H.p7 | exact H.p8 | exact H.p9 | exact H.p10 | exact H.p11) | skip))
      | simp -implicitDefEqProofs (disch := first | omega | decide | exact rfl | assumption | exact Nat.le_of_ble_eq_true rfl | exact One.c | exact One.o) only [vsA, vsB, eq_self, if_true, if_false, implies_true, false_implies, evp, HX.ev, Nat.reduceAdd, HOp.looks, Nat.reduceEqDiff, overw, Nat.reduceBEq, h11, al, avo, avc, hqa1, hqa2, hqb1, hqb2, ub11, f0, f1, f2, f3, f4, f5, f6, f7, f8, f9, f10, f11, frame0, List.replicate, Nat.sub]
      | (refine condK_cases (fun h => ?_) (fun h => ?_) <;> (try simp only [h]) <;> (try simp only [athA, ne_eq] at h) <;> (try (exfalso; omega)))
      | (refine guardK_cases (fun h => ?_) (fun h => ?_) <;> (try simp only [h]) <;> (try simp only [athA, ne_eq] at h) <;> (try (exfalso; omega)))
      | (refine dgK_cases (fun h => ?_) (fun h => ?_) <;> (try simp only [h]) <;> (try simp only [athA, ne_eq] at h) <;> (try (exfalso; omega)))
      | (clear H f0 f1 f2 f3 f4 f5 f6 f7 f8 f9 f10 f11; (with_reducible intro v2 hs H); (try simp only [setA, overw, Nat.reduceAdd] at H); refine need ?_)
      | ((with_reducible show actK _ (HAct.call (HX.cst (HV.func (Fn.func 20) _ _)) _) _ _ _ _ _); refine vcall_of ok20 rfl (among20 a.at_ K.length (by omega)) ?_;  rw [← hkd]; rintro _ _ ⟨rfl, rfl⟩)
      | ((with_reducible show drK _ _ _ _ _ _ _ _ _ (some ⟨_, HAct.call (HX.cst (HV.func (Fn.func 20) _ _)) _, none⟩)); refine vdr_call ok20 rfl (among20 a.at_ K.length (by omega)) ?_;  rw [← hkd]; rintro _ _ ⟨rfl, rfl⟩)
      | ((with_reducible show actK _ (HAct.call (HX.cst (HV.func (Fn.func 20) _ _)) _) _ _ _ _ _); refine vcall_of ok20 rfl (among20 a.kind 6 (by omega)) ?_;  rw [hk6]; rintro _ _ ⟨rfl, rfl⟩)
      | ((with_reducible show drK _ _ _ _ _ _ _ _ _ (some ⟨_, HAct.call (HX.cst (HV.func (Fn.func 20) _ _)) _, none⟩)); refine vdr_call ok20 rfl (among20 a.kind 6 (by omega)) ?_;  rw [hk6]; rintro _ _ ⟨rfl, rfl⟩)
      | ((with_reducible show actK _ (HAct.call (HX.cst (HV.func (Fn.func 27) _ _)) _) _ _ _ _ _); refine vcall_of ok27 rfl (body27 (p := e.p) (s := e.s) (by with_reducible first | exact H | exact H.p1 | exact H.p2 | exact H.p3 | exact H.p4 | exact H.p5 | exact H.p6 | exact H.p7 | exact H.p8 | exact H.p9 | exact H.p10 | exact H.p11) a.n (by omega)) ?_;  clear H f0 f1 f2 f3 f4 f5 f6 f7 f8 f9 f10 f11; rintro v hs ⟨rfl, H⟩; refine need ?_)
      | ((with_reducible show drK _ _ _ _ _ _ _ _ _ (some ⟨_, HAct.call (HX.cst (HV.func (Fn.func 27) _ _)) _, none⟩)); refine vdr_call ok27 rfl (body27 (p := e.p) (s := e.s) (by with_reducible first | exact H | exact H.p1 | exact H.p2 | exact H.p3 | exact H.p4 | exact H.p5 | exact H.p6 | exact H.p7 | exact H.p8 | exact H.p9 | exact H.p10 | exact H.p11) a.n (by omega)) ?_;  clear H f0 f1 f2 f3 f4 f5 f6 f7 f8 f9 f10 f11; rintro v hs ⟨rfl, H⟩; refine need ?_)
      | ((with_reducible show actK _ (HAct.call (HX.cst (HV.func (Fn.func 31) _ _)) _) _ _ _ _ _); refine vcall_of ok31 rfl (rbody31 (p := e.q) (s := e.s) (by with_reducible first | exact H | exact H.p1 | exact H.p2 | exact H.p3 | exact H.p4 | exact H.p5 | exact H.p6 | exact H.p7 | exact H.p8 | exact H.p9 | exact H.p10 | exact H.p11) a.n (by omega)) ?_;  clear H f0 f1 f2 f3 f4 f5 f6 f7 f8 f9 f10 f11; rintro v hs ⟨rfl, H⟩; refine need ?_)
      | ((with_reducible show drK _ _ _ _ _ _ _ _ _ (some ⟨_, HAct.call (HX.cst (HV.func (Fn.func 31) _ _)) _, none⟩)); refine vdr_call ok31 rfl (rbody31 (p := e.q) (s := e.s) (by with_reducible first | exact H | exact H.p1 | exact H.p2 | exact H.p3 | exact H.p4 | exact H.p5 | exact H.p6 | exact H.p7 | exact H.p8 | exact H.p9 | exact H.p10 | exact H.p11) a.n (by omega)) ?_;  clear H f0 f1 f2 f3 f4 f5 f6 f7 f8 f9 f10 f11; rintro v hs ⟨rfl, H⟩; refine need ?_)
      | refine opC_K ?_
      | refine opC_D ?_
      | ((with_reducible show opC (hbox _ _) _); refine sl_box1 H (by first | exact rfl | (simp only [f0, f1, f2, f3, f4, f5, f6, f7, f8, f9, f10, f11]; done) | (simp only [onA, *]; done)) (by first | exact rfl | (simp only [f0, f1, f2, f3, f4, f5, f6, f7, f8, f9, f10, f11]; done) | (simp only [onA, *]; done)) ?_)
      | ((with_reducible show opC (hbox _ _) _); refine sl_boxA H (by first | exact rfl | (simp only [f0, f1, f2, f3, f4, f5, f6, f7, f8, f9, f10, f11]; done) | (simp only [onA, *]; done)) ?_)
      | refine hwp_draw mixed rfl ?_
      | with_reducible intro hy

    have sb := bodyS_small e.s a.n
    have H := dk_put (s' := (bodyS e.s a.n).1) hk H.p2.t.p6.p6.p6.p6.p6.p7.p6.p7
    refine ⟨K.set k ⟨e.p, e.q, (bodyS e.s a.n).1⟩, E1, E2, F.more (by omega) (by omega) (by simp; omega) (fit_set F2 (by omega) ⟨by first | omega | (simp only; omega), by first | omega | (simp only; omega), by first | omega | (simp only; omega), by first | omega | (simp only; omega)⟩), desk_open.2 ⟨va, vb, vo, vw, lt, x, ?_⟩⟩
    rw [dkA_set hk, dkB_set hk, List.length_set]
    exact H.p5.p5.p5.p5.p5
  · have hk6 : amongF a.kind 6 = 3 := h
    have H2 := dk_at H.p4.p4.p4.p4.p4.p5 hk
    clear H
    have H := H2.p2.p7.p7.p7.p7.p7.p7.p7
    clear H2
    obtain ⟨qa, hqa1, hqa2⟩ := (Sat.rd H.p3).idx1 (dkA_get hk) .i64
    obtain ⟨qb, hqb1, hqb2⟩ := (Sat.rd H.p4).idx1 (dkB_get hk) .i64
    have ldA : ∀ hs l', Sat hs (My 1 va K.length (dkA K) :: l') → hload none hs qa = some (.ptr e.p 0) := fun hs l' h => h.rd.ld1 hqa1 (dkA_get hk)
    have ldB : ∀ hs l', Sat hs (My 1 vb K.length (dkB K) :: l') → hload none hs qb = some (.ptr e.q 0) := fun hs l' h => h.rd.ld1 hqb1 (dkB_get hk)
    first | have f0 := Sat.pf (H) | have f0 := trivial
    first | have f1 := Sat.pf (H.t) | have f1 := trivial
    first | have f2 := Sat.pf (H.t.t) | have f2 := trivial
    first | have f3 := Sat.pf (H.t.t.t) | have f3 := trivial
    first | have f4 := Sat.pf (H.t.t.t.t) | have f4 := trivial
    first | have f5 := Sat.pf (H.t.t.t.t.t) | have f5 := trivial
    first | have f6 := Sat.pf (H.t.t.t.t.t.t) | have f6 := trivial
    first | have f7 := Sat.pf (H.t.t.t.t.t.t.t) | have f7 := trivial
    first | have f8 := Sat.pf (H.t.t.t.t.t.t.t.t) | have f8 := trivial
    first | have f9 := Sat.pf (H.t.t.t.t.t.t.t.t.t) | have f9 := trivial
    first | have f10 := Sat.pf (H.t.t.t.t.t.t.t.t.t.t) | have f10 := trivial
    first | have f11 := Sat.pf (H.t.t.t.t.t.t.t.t.t.t.t) | have f11 := trivial
    repeat' first
      | ((with_reducible show Need _); refine need_of ?_; (first | have f0 := Sat.pf (H) | have f0 := trivial); (first | have f1 := Sat.pf (H.t) | have f1 := trivial); (first | have f2 := Sat.pf (H.t.t) | have f2 := trivial); (first | have f3 := Sat.pf (H.t.t.t) | have f3 := trivial); (first | have f4 := Sat.pf (H.t.t.t.t) | have f4 := trivial); (first | have f5 := Sat.pf (H.t.t.t.t.t) | have f5 := trivial); (first | have f6 := Sat.pf (H.t.t.t.t.t.t) | have f6 := trivial); (first | have f7 := Sat.pf (H.t.t.t.t.t.t.t) | have f7 := trivial); (first | have f8 := Sat.pf (H.t.t.t.t.t.t.t.t) | have f8 := trivial); (first | have f9 := Sat.pf (H.t.t.t.t.t.t.t.t.t) | have f9 := trivial); (first | have f10 := Sat.pf (H.t.t.t.t.t.t.t.t.t.t) | have f10 := trivial); (first | have f11 := Sat.pf (H.t.t.t.t.t.t.t.t.t.t.t) | have f11 := trivial); (first | have hqa2 := ldA _ _ (by with_reducible first | exact H | exact H.p1 | exact H.p2 | exact H.p3 | exact H.p4 | exact H.p5 | exact H.p6 | exact H.p7 | exact H.p8 | exact H.p9 | exact H.p10 | exact H.p11) | skip); (first | have hqb2 := ldB _ _ (by with_reducible first | exact H | exact H.p1 | exact H.p2 | exact H.p3 | exact H.p4 | exact H.p5 | exact H.p6 | exact H.p7 | exact H.p8 | exact H.p9 | exact H.p10 | exact H.p11) | skip))
      | simp -implicitDefEqProofs (disch := first | omega | decide | exact rfl | assumption | exact Nat.le_of_ble_eq_true rfl | exact One.c | exact One.o) only [vsA, vsB, eq_self, if_true, if_false, implies_true, false_implies, evp, HX.ev, Nat.reduceAdd, HOp.looks, Nat.reduceEqDiff, overw, Nat.reduceBEq, h11, al, avo, avc, hqa1, hqa2, hqb1, hqb2, ub11, f0, f1, f2, f3, f4, f5, f6, f7, f8, f9, f10, f11, frame0, List.replicate, Nat.sub]
      | (refine condK_cases (fun h => ?_) (fun h => ?_) <;> (try simp only [h]) <;> (try simp only [athA, ne_eq] at h) <;> (try (exfalso; omega)))
      | (refine guardK_cases (fun h => ?_) (fun h => ?_) <;> (try simp only [h]) <;> (try simp only [athA, ne_eq] at h) <;> (try (exfalso; omega)))
      | (refine dgK_cases (fun h => ?_) (fun h => ?_) <;> (try simp only [h]) <;> (try simp only [athA, ne_eq] at h) <;> (try (exfalso; omega)))
      | (clear H f0 f1 f2 f3 f4 f5 f6 f7 f8 f9 f10 f11; (with_reducible intro v2 hs H); (try simp only [setA, overw, Nat.reduceAdd] at H); refine need ?_)
      | ((with_reducible show actK _ (HAct.call (HX.cst (HV.func (Fn.func 20) _ _)) _) _ _ _ _ _); refine vcall_of ok20 rfl (among20 a.at_ K.length (by omega)) ?_;  rw [← hkd]; rintro _ _ ⟨rfl, rfl⟩)
      | ((with_reducible show drK _ _ _ _ _ _ _ _ _ (some ⟨_, HAct.call (HX.cst (HV.func (Fn.func 20) _ _)) _, none⟩)); refine vdr_call ok20 rfl (among20 a.at_ K.length (by omega)) ?_;  rw [← hkd]; rintro _ _ ⟨rfl, rfl⟩)
      | ((with_reducible show actK _ (HAct.call (HX.cst (HV.func (Fn.func 20) _ _)) _) _ _ _ _ _); refine vcall_of ok20 rfl (among20 a.kind 6 (by omega)) ?_;  rw [hk6]; rintro _ _ ⟨rfl, rfl⟩)
      | ((with_reducible show drK _ _ _ _ _ _ _ _ _ (some ⟨_, HAct.call (HX.cst (HV.func (Fn.func 20) _ _)) _, none⟩)); refine vdr_call ok20 rfl (among20 a.kind 6 (by omega)) ?_;  rw [hk6]; rintro _ _ ⟨rfl, rfl⟩)
      | ((with_reducible show actK _ (HAct.call (HX.cst (HV.func (Fn.func 14) _ _)) _) _ _ _ _ _); refine vcall_of ok14 rfl (held14 (p := e.p) (s := e.s) (by with_reducible first | exact H | exact H.p1 | exact H.p2 | exact H.p3 | exact H.p4 | exact H.p5 | exact H.p6 | exact H.p7 | exact H.p8 | exact H.p9 | exact H.p10 | exact H.p11)) ?_; rintro _ _ ⟨rfl, rfl⟩)
      | ((with_reducible show drK _ _ _ _ _ _ _ _ _ (some ⟨_, HAct.call (HX.cst (HV.func (Fn.func 14) _ _)) _, none⟩)); refine vdr_call ok14 rfl (held14 (p := e.p) (s := e.s) (by with_reducible first | exact H | exact H.p1 | exact H.p2 | exact H.p3 | exact H.p4 | exact H.p5 | exact H.p6 | exact H.p7 | exact H.p8 | exact H.p9 | exact H.p10 | exact H.p11)) ?_; rintro _ _ ⟨rfl, rfl⟩)
      | ((with_reducible show actK _ (HAct.call (HX.cst (HV.func (Fn.func 15) _ _)) _) _ _ _ _ _); refine vcall_of ok15 rfl (rheld15 (p := e.q) (s := e.s) (by with_reducible first | exact H | exact H.p1 | exact H.p2 | exact H.p3 | exact H.p4 | exact H.p5 | exact H.p6 | exact H.p7 | exact H.p8 | exact H.p9 | exact H.p10 | exact H.p11)) ?_; rintro _ _ ⟨rfl, rfl⟩)
      | ((with_reducible show drK _ _ _ _ _ _ _ _ _ (some ⟨_, HAct.call (HX.cst (HV.func (Fn.func 15) _ _)) _, none⟩)); refine vdr_call ok15 rfl (rheld15 (p := e.q) (s := e.s) (by with_reducible first | exact H | exact H.p1 | exact H.p2 | exact H.p3 | exact H.p4 | exact H.p5 | exact H.p6 | exact H.p7 | exact H.p8 | exact H.p9 | exact H.p10 | exact H.p11)) ?_; rintro _ _ ⟨rfl, rfl⟩)
      | refine opC_K ?_
      | refine opC_D ?_
      | ((with_reducible show opC (hbox _ _) _); refine sl_box1 H (by first | exact rfl | (simp only [f0, f1, f2, f3, f4, f5, f6, f7, f8, f9, f10, f11]; done) | (simp only [onA, *]; done)) (by first | exact rfl | (simp only [f0, f1, f2, f3, f4, f5, f6, f7, f8, f9, f10, f11]; done) | (simp only [onA, *]; done)) ?_)
      | ((with_reducible show opC (hbox _ _) _); refine sl_boxA H (by first | exact rfl | (simp only [f0, f1, f2, f3, f4, f5, f6, f7, f8, f9, f10, f11]; done) | (simp only [onA, *]; done)) ?_)
      | refine hwp_draw mixed rfl ?_
      | with_reducible intro hy

    have H := dk_put (s' := e.s) hk H.t.p6.p6.p6.p6.p6.p7.p7.p7
    refine ⟨K.set k ⟨e.p, e.q, e.s⟩, E1, E2, F.more (by omega) (by omega) (by simp; omega) (fit_set F2 (by omega) ⟨by first | omega | (simp only; omega), by first | omega | (simp only; omega), by first | omega | (simp only; omega), by first | omega | (simp only; omega)⟩), desk_open.2 ⟨va, vb, vo, vw, lt, x, ?_⟩⟩
    rw [dkA_set hk, dkB_set hk, List.length_set]
    exact H.p5.p5.p5.p5.p5
  · have hk6 : amongF a.kind 6 = 4 := h
    repeat' first
      | ((with_reducible show Need _); refine need_of ?_; (first | have f0 := Sat.pf (H) | have f0 := trivial); (first | have f1 := Sat.pf (H.t) | have f1 := trivial); (first | have f2 := Sat.pf (H.t.t) | have f2 := trivial); (first | have f3 := Sat.pf (H.t.t.t) | have f3 := trivial); (first | have f4 := Sat.pf (H.t.t.t.t) | have f4 := trivial); (first | have f5 := Sat.pf (H.t.t.t.t.t) | have f5 := trivial); (first | have f6 := Sat.pf (H.t.t.t.t.t.t) | have f6 := trivial); (first | have f7 := Sat.pf (H.t.t.t.t.t.t.t) | have f7 := trivial); (first | have f8 := Sat.pf (H.t.t.t.t.t.t.t.t) | have f8 := trivial); (first | have f9 := Sat.pf (H.t.t.t.t.t.t.t.t.t) | have f9 := trivial); (first | have f10 := Sat.pf (H.t.t.t.t.t.t.t.t.t.t) | have f10 := trivial); (first | have f11 := Sat.pf (H.t.t.t.t.t.t.t.t.t.t.t) | have f11 := trivial))
      | simp -implicitDefEqProofs (disch := first | omega | decide | exact rfl | assumption | exact Nat.le_of_ble_eq_true rfl | exact One.c | exact One.o) only [vsA, vsB, eq_self, if_true, if_false, implies_true, false_implies, evp, HX.ev, Nat.reduceAdd, HOp.looks, Nat.reduceEqDiff, overw, Nat.reduceBEq, h11, al, avo, avc, ub11, f0, f1, f2, f3, f4, f5, f6, f7, f8, f9, f10, f11, frame0, List.replicate, Nat.sub]
      | (refine condK_cases (fun h => ?_) (fun h => ?_) <;> (try simp only [h]) <;> (try simp only [athA, ne_eq] at h) <;> (try (exfalso; omega)))
      | (refine guardK_cases (fun h => ?_) (fun h => ?_) <;> (try simp only [h]) <;> (try simp only [athA, ne_eq] at h) <;> (try (exfalso; omega)))
      | (refine dgK_cases (fun h => ?_) (fun h => ?_) <;> (try simp only [h]) <;> (try simp only [athA, ne_eq] at h) <;> (try (exfalso; omega)))
      | (clear H f0 f1 f2 f3 f4 f5 f6 f7 f8 f9 f10 f11; (with_reducible intro v2 hs H); (try simp only [setA, overw, Nat.reduceAdd] at H); refine need ?_)
      | ((with_reducible show actK _ (HAct.call (HX.cst (HV.func (Fn.func 20) _ _)) _) _ _ _ _ _); refine vcall_of ok20 rfl (among20 a.at_ K.length (by omega)) ?_;  rw [← hkd]; rintro _ _ ⟨rfl, rfl⟩)
      | ((with_reducible show drK _ _ _ _ _ _ _ _ _ (some ⟨_, HAct.call (HX.cst (HV.func (Fn.func 20) _ _)) _, none⟩)); refine vdr_call ok20 rfl (among20 a.at_ K.length (by omega)) ?_;  rw [← hkd]; rintro _ _ ⟨rfl, rfl⟩)
      | ((with_reducible show actK _ (HAct.call (HX.cst (HV.func (Fn.func 20) _ _)) _) _ _ _ _ _); refine vcall_of ok20 rfl (among20 a.kind 6 (by omega)) ?_;  rw [hk6]; rintro _ _ ⟨rfl, rfl⟩)
      | ((with_reducible show drK _ _ _ _ _ _ _ _ _ (some ⟨_, HAct.call (HX.cst (HV.func (Fn.func 20) _ _)) _, none⟩)); refine vdr_call ok20 rfl (among20 a.kind 6 (by omega)) ?_;  rw [hk6]; rintro _ _ ⟨rfl, rfl⟩)
      | ((with_reducible show actK _ (HAct.call (HX.cst (HV.func (Fn.func 32) _ _)) _) _ _ _ _ _); refine vcall_of ok32 rfl (dclone32 (desk_open.2 ⟨va, vb, vo, vw, lt, x, H.p6.p6.p6.p6.p6.p6⟩) hk a.n (by omega) (by omega)) ?_;  clear H f0 f1 f2 f3 f4 f5 f6 f7 f8 f9 f10 f11; rintro v hs ⟨rfl, K', ⟨k1, k2, k3⟩, H⟩; refine need ?_)
      | ((with_reducible show drK _ _ _ _ _ _ _ _ _ (some ⟨_, HAct.call (HX.cst (HV.func (Fn.func 32) _ _)) _, none⟩)); refine vdr_call ok32 rfl (dclone32 (desk_open.2 ⟨va, vb, vo, vw, lt, x, H.p6.p6.p6.p6.p6.p6⟩) hk a.n (by omega) (by omega)) ?_;  clear H f0 f1 f2 f3 f4 f5 f6 f7 f8 f9 f10 f11; rintro v hs ⟨rfl, K', ⟨k1, k2, k3⟩, H⟩; refine need ?_)
      | refine opC_K ?_
      | refine opC_D ?_
      | ((with_reducible show opC (hbox _ _) _); refine sl_box1 H (by first | exact rfl | (simp only [f0, f1, f2, f3, f4, f5, f6, f7, f8, f9, f10, f11]; done) | (simp only [onA, *]; done)) (by first | exact rfl | (simp only [f0, f1, f2, f3, f4, f5, f6, f7, f8, f9, f10, f11]; done) | (simp only [onA, *]; done)) ?_)
      | ((with_reducible show opC (hbox _ _) _); refine sl_boxA H (by first | exact rfl | (simp only [f0, f1, f2, f3, f4, f5, f6, f7, f8, f9, f10, f11]; done) | (simp only [onA, *]; done)) ?_)
      | refine hwp_draw mixed rfl ?_
      | with_reducible intro hy

    refine ⟨K', E1, E2, F.more (by omega) (by omega) ⟨k1, k2⟩ ?_, H.d1⟩
    intro g hg
    rcases k3 g hg with hg | hg
    · have := F2 g hg; omega
    · rw [hg]; omega
  · have hk6 : amongF a.kind 6 = 5 := h
    have hbw : ∀ e ∈ E1 ++ E2, e.bs.length < 46116860184 := by
      intro g hg
      rcases List.mem_append.1 hg with hg | hg
      · have := F4 g hg; omega
      · have := F5 g hg; omega
    repeat' first
      | ((with_reducible show Need _); refine need_of ?_; (first | have f0 := Sat.pf (H) | have f0 := trivial); (first | have f1 := Sat.pf (H.t) | have f1 := trivial); (first | have f2 := Sat.pf (H.t.t) | have f2 := trivial); (first | have f3 := Sat.pf (H.t.t.t) | have f3 := trivial); (first | have f4 := Sat.pf (H.t.t.t.t) | have f4 := trivial); (first | have f5 := Sat.pf (H.t.t.t.t.t) | have f5 := trivial); (first | have f6 := Sat.pf (H.t.t.t.t.t.t) | have f6 := trivial); (first | have f7 := Sat.pf (H.t.t.t.t.t.t.t) | have f7 := trivial); (first | have f8 := Sat.pf (H.t.t.t.t.t.t.t.t) | have f8 := trivial); (first | have f9 := Sat.pf (H.t.t.t.t.t.t.t.t.t) | have f9 := trivial); (first | have f10 := Sat.pf (H.t.t.t.t.t.t.t.t.t.t) | have f10 := trivial); (first | have f11 := Sat.pf (H.t.t.t.t.t.t.t.t.t.t.t) | have f11 := trivial))
      | simp -implicitDefEqProofs (disch := first | omega | decide | exact rfl | assumption | exact Nat.le_of_ble_eq_true rfl | exact One.c | exact One.o) only [vsA, vsB, eq_self, if_true, if_false, implies_true, false_implies, evp, HX.ev, Nat.reduceAdd, HOp.looks, Nat.reduceEqDiff, overw, Nat.reduceBEq, h11, al, avo, avc, ub11, f0, f1, f2, f3, f4, f5, f6, f7, f8, f9, f10, f11, frame0, List.replicate, Nat.sub]
      | (refine condK_cases (fun h => ?_) (fun h => ?_) <;> (try simp only [h]) <;> (try simp only [athA, ne_eq] at h) <;> (try (exfalso; omega)))
      | (refine guardK_cases (fun h => ?_) (fun h => ?_) <;> (try simp only [h]) <;> (try simp only [athA, ne_eq] at h) <;> (try (exfalso; omega)))
      | (refine dgK_cases (fun h => ?_) (fun h => ?_) <;> (try simp only [h]) <;> (try simp only [athA, ne_eq] at h) <;> (try (exfalso; omega)))
      | (clear H f0 f1 f2 f3 f4 f5 f6 f7 f8 f9 f10 f11; (with_reducible intro v2 hs H); (try simp only [setA, overw, Nat.reduceAdd] at H); refine need ?_)
      | ((with_reducible show actK _ (HAct.call (HX.cst (HV.func (Fn.func 20) _ _)) _) _ _ _ _ _); refine vcall_of ok20 rfl (among20 a.at_ K.length (by omega)) ?_;  rw [← hkd]; rintro _ _ ⟨rfl, rfl⟩)
      | ((with_reducible show drK _ _ _ _ _ _ _ _ _ (some ⟨_, HAct.call (HX.cst (HV.func (Fn.func 20) _ _)) _, none⟩)); refine vdr_call ok20 rfl (among20 a.at_ K.length (by omega)) ?_;  rw [← hkd]; rintro _ _ ⟨rfl, rfl⟩)
      | ((with_reducible show actK _ (HAct.call (HX.cst (HV.func (Fn.func 20) _ _)) _) _ _ _ _ _); refine vcall_of ok20 rfl (among20 a.kind 6 (by omega)) ?_;  rw [hk6]; rintro _ _ ⟨rfl, rfl⟩)
      | ((with_reducible show drK _ _ _ _ _ _ _ _ _ (some ⟨_, HAct.call (HX.cst (HV.func (Fn.func 20) _ _)) _, none⟩)); refine vdr_call ok20 rfl (among20 a.kind 6 (by omega)) ?_;  rw [hk6]; rintro _ _ ⟨rfl, rfl⟩)
      | ((with_reducible show actK _ (HAct.call (HX.cst (HV.func (Fn.func 16) _ _)) _) _ _ _ _ _); refine vcall_of ok16 rfl (write16 H.p6.p6.p5.p5.p6.p6 (by omega) hbw) ?_;  clear H f0 f1 f2 f3 f4 f5 f6 f7 f8 f9 f10 f11; rintro v hs ⟨rfl, vo', vw', E3, e1, e2, H⟩; refine need ?_)
      | ((with_reducible show drK _ _ _ _ _ _ _ _ _ (some ⟨_, HAct.call (HX.cst (HV.func (Fn.func 16) _ _)) _, none⟩)); refine vdr_call ok16 rfl (write16 H.p6.p6.p5.p5.p6.p6 (by omega) hbw) ?_;  clear H f0 f1 f2 f3 f4 f5 f6 f7 f8 f9 f10 f11; rintro v hs ⟨rfl, vo', vw', E3, e1, e2, H⟩; refine need ?_)
      | refine opC_K ?_
      | refine opC_D ?_
      | ((with_reducible show opC (hbox _ _) _); refine sl_box1 H (by first | exact rfl | (simp only [f0, f1, f2, f3, f4, f5, f6, f7, f8, f9, f10, f11]; done) | (simp only [onA, *]; done)) (by first | exact rfl | (simp only [f0, f1, f2, f3, f4, f5, f6, f7, f8, f9, f10, f11]; done) | (simp only [onA, *]; done)) ?_)
      | ((with_reducible show opC (hbox _ _) _); refine sl_boxA H (by first | exact rfl | (simp only [f0, f1, f2, f3, f4, f5, f6, f7, f8, f9, f10, f11]; done) | (simp only [onA, *]; done)) ?_)
      | refine hwp_draw mixed rfl ?_
      | with_reducible intro hy

    refine ⟨K, E3, [], ⟨F1, fun g h => by have := F2 g h; omega, by simp; omega, ?_, by simp⟩, ?_⟩
    · intro g hg
      rcases e2 g hg with hg | ⟨g', h1, h2⟩
      · have := F4 g hg; omega
      · have := F5 g' h1; omega
    · exact (desk_open.2 ⟨va, vb, vo', vw', lt, x, H.p6.p6.p6.p4.p6.p6.p6⟩).d1
end Go.Proofs.Ytccfcegmaejlnaa
namespace Go.Proofs.Ytccfcegmaejlnaa
open Go Go.HL
set_option maxRecDepth 100000
set_option maxHeartbeats 40000000
set_option linter.unusedSimpArgs false
attribute [local irreducible] pt My Ex Vw Gr GrK each grp exs Sat takeCells happend hbuildSlice hstore hbox hslice hmakeSlice hs2b hcopy HL.unit opC
theorem desk_new {hs : HS} {l : List SA} {d : Nat} (H : Sat hs (pt d (.cells 1 [.nilSlice, .nilSlice, .nilSlice, .nilSlice, .int .i64 0, .nilSlice] false false []) :: l)) : Sat hs (DeskP d [] [] [] :: l) :=
  desk_open.2 ⟨.nilSlice, .nilSlice, .nilSlice, .nilSlice, .nilSlice, [], by
    have h1 : Sat hs (each DK.P [] :: _) := Sat.each_nil.2 H
    have h2 : Sat hs (My 1 .nilSlice ([] : List UInt8).length (bcells []) :: _) := Sat.own0 h1
    have h3 := bk_nil h2
    have h4 : Sat hs (My 1 .nilSlice ([] : List DK).length (dkB []) :: _) := Sat.own0 h3
    have h5 : Sat hs (My 1 .nilSlice ([] : List DK).length (dkA []) :: _) := Sat.own0 h4
    exact h5.p4.p4.p4.p4.p4.p5⟩
def small0 (e : DK) : Prop := e.s.st ≤ 3 ∧ e.s.held.length ≤ 0 ∧ e.s.size ≤ 4294967295 ∧ e.s.left ≤ 4294967297
theorem dmade {hs : HS} {l : List SA} {d : Nat} {K : List DK} {E1 E2 : List En} (H : Sat hs (DeskP d K E1 E2 :: l)) (m : Int) (hK : K.length < 1000) (hs0 : ∀ e ∈ K, small0 e) :
    HC Try.prog 10 [.ptr d 0, .int .i64 m] hs fun v hs' => v = .bool true ∧ ∃ K', (K'.length ≤ K.length + 1 ∧ ∀ e ∈ K', small0 e) ∧ Sat hs' (DeskP d K' E1 E2 :: l) := by
  refine (dmade10 H m hK).mono ?_
  rintro v hs' ⟨rfl, h⟩
  refine ⟨rfl, ?_⟩
  split at h
  · exact ⟨K, ⟨by omega, hs0⟩, h⟩
  · obtain ⟨p, q, h⟩ := h
    refine ⟨_, ⟨by simp, ?_⟩, h⟩
    intro e he
    rcases List.mem_append.1 he with he | he
    · exact hs0 e he
    · rw [List.mem_singleton.1 he]
      simp [small0, newS]
theorem law3 {hs : HS} {l : List SA} {sv : HV} {A : List ActV} (H : Sat hs l) (G : ∀ hs, Sat hs l → hs[0]? = some (some (HB.gint 0))) (R : ∀ hs, Sat hs l → ArgsAt hs sv A) (one two : Int) :
    HC Try.prog 3 [.int .i64 one, .int .i64 two, sv] hs fun v _ => v = .bool true := by
  have R0 := R _ H
  have few := R0.few
  refine HC.wp mixed Try.func3 c3 ?_
  by_cases hb : 2147483647 < total A
  · have hd : decide (2147483647 < total A) = true := by simpa using hb
    repeat' first
      | simp -implicitDefEqProofs (disch := first | omega | decide | exact rfl | assumption | exact Nat.le_of_ble_eq_true rfl | exact One.c | exact One.o) only [vsA, vsB, eq_self, if_true, if_false, implies_true, false_implies, evp, HX.ev, Nat.reduceAdd, HOp.looks, Nat.reduceEqDiff, overw, Nat.reduceBEq, h3, hd, ub3, frame0, List.replicate, Nat.sub]
      | (refine condK_cases (fun h => ?_) (fun h => ?_) <;> (try simp only [h]) <;> (try simp only [athA, ne_eq] at h) <;> (try (exfalso; omega)))
      | (refine guardK_cases (fun h => ?_) (fun h => ?_) <;> (try simp only [h]) <;> (try simp only [athA, ne_eq] at h) <;> (try (exfalso; omega)))
      | (refine dgK_cases (fun h => ?_) (fun h => ?_) <;> (try simp only [h]) <;> (try simp only [athA, ne_eq] at h) <;> (try (exfalso; omega)))
      | ((with_reducible show actK _ (HAct.call (HX.cst (HV.func (Fn.func 8) _ _)) _) _ _ _ _ _); refine vcall_of ok8 rfl (beyond8 R0) ?_; rintro _ _ ⟨rfl, rfl⟩)
      | ((with_reducible show drK _ _ _ _ _ _ _ _ _ (some ⟨_, HAct.call (HX.cst (HV.func (Fn.func 8) _ _)) _, none⟩)); refine vdr_call ok8 rfl (beyond8 R0) ?_; rintro _ _ ⟨rfl, rfl⟩)
      | refine hwp_draw mixed rfl ?_

  have hd : decide (2147483647 < total A) = false := by simpa using hb
  have ls := R0.row.len
  have ht : total A ≤ 2147483647 := by omega
  have hsl : ∀ i, A.length + ((A.take i).map fun a => a.data.length).sum ≤ 2147483647 := fun i => by have := sum_le A i; unfold total at ht; omega
  first | have f0 := Sat.pf (H) | have f0 := trivial
  first | have f1 := Sat.pf (H.t) | have f1 := trivial
  first | have f2 := Sat.pf (H.t.t) | have f2 := trivial
  first | have f3 := Sat.pf (H.t.t.t) | have f3 := trivial
  first | have f4 := Sat.pf (H.t.t.t.t) | have f4 := trivial
  first | have f5 := Sat.pf (H.t.t.t.t.t) | have f5 := trivial
  first | have f6 := Sat.pf (H.t.t.t.t.t.t) | have f6 := trivial
  first | have f7 := Sat.pf (H.t.t.t.t.t.t.t) | have f7 := trivial
  first | have f8 := Sat.pf (H.t.t.t.t.t.t.t.t) | have f8 := trivial
  first | have f9 := Sat.pf (H.t.t.t.t.t.t.t.t.t) | have f9 := trivial
  first | have f10 := Sat.pf (H.t.t.t.t.t.t.t.t.t.t) | have f10 := trivial
  first | have f11 := Sat.pf (H.t.t.t.t.t.t.t.t.t.t.t) | have f11 := trivial
  repeat' first
    | ((with_reducible show Need _); refine need_of ?_; (first | have f0 := Sat.pf (H) | have f0 := trivial); (first | have f1 := Sat.pf (H.t) | have f1 := trivial); (first | have f2 := Sat.pf (H.t.t) | have f2 := trivial); (first | have f3 := Sat.pf (H.t.t.t) | have f3 := trivial); (first | have f4 := Sat.pf (H.t.t.t.t) | have f4 := trivial); (first | have f5 := Sat.pf (H.t.t.t.t.t) | have f5 := trivial); (first | have f6 := Sat.pf (H.t.t.t.t.t.t) | have f6 := trivial); (first | have f7 := Sat.pf (H.t.t.t.t.t.t.t) | have f7 := trivial); (first | have f8 := Sat.pf (H.t.t.t.t.t.t.t.t) | have f8 := trivial); (first | have f9 := Sat.pf (H.t.t.t.t.t.t.t.t.t) | have f9 := trivial); (first | have f10 := Sat.pf (H.t.t.t.t.t.t.t.t.t.t) | have f10 := trivial); (first | have f11 := Sat.pf (H.t.t.t.t.t.t.t.t.t.t.t) | have f11 := trivial))
    | simp -implicitDefEqProofs (disch := first | omega | decide | exact rfl | assumption | exact Nat.le_of_ble_eq_true rfl | exact One.c | exact One.o) only [vsA, vsB, eq_self, if_true, if_false, implies_true, false_implies, evp, HX.ev, Nat.reduceAdd, HOp.looks, Nat.reduceEqDiff, overw, Nat.reduceBEq, h3, hd, ls, ub3, f0, f1, f2, f3, f4, f5, f6, f7, f8, f9, f10, f11, frame0, List.replicate, Nat.sub]
    | (refine condK_cases (fun h => ?_) (fun h => ?_) <;> (try simp only [h]) <;> (try simp only [athA, ne_eq] at h) <;> (try (exfalso; omega)))
    | (refine guardK_cases (fun h => ?_) (fun h => ?_) <;> (try simp only [h]) <;> (try simp only [athA, ne_eq] at h) <;> (try (exfalso; omega)))
    | (refine dgK_cases (fun h => ?_) (fun h => ?_) <;> (try simp only [h]) <;> (try simp only [athA, ne_eq] at h) <;> (try (exfalso; omega)))
    | (clear H f0 f1 f2 f3 f4 f5 f6 f7 f8 f9 f10 f11; (with_reducible intro v2 hs H); (try simp only [setA, overw, Nat.reduceAdd] at H); refine need ?_)
    | ((with_reducible show actK _ (HAct.call (HX.cst (HV.func (Fn.func 8) _ _)) _) _ _ _ _ _); refine vcall_of ok8 rfl (beyond8 R0) ?_; rintro _ _ ⟨rfl, rfl⟩)
    | ((with_reducible show drK _ _ _ _ _ _ _ _ _ (some ⟨_, HAct.call (HX.cst (HV.func (Fn.func 8) _ _)) _, none⟩)); refine vdr_call ok8 rfl (beyond8 R0) ?_; rintro _ _ ⟨rfl, rfl⟩)
    | ((with_reducible show actK _ (HAct.call (HX.cst (HV.func (Fn.func 9) _ _)) _) _ _ _ _ _); refine vcall_of ok9 rfl (shown9 H (fun _ h => G _ h.t)) ?_;  clear H f0 f1 f2 f3 f4 f5 f6 f7 f8 f9 f10 f11; rintro v hs ⟨rfl, H⟩; refine need ?_)
    | ((with_reducible show drK _ _ _ _ _ _ _ _ _ (some ⟨_, HAct.call (HX.cst (HV.func (Fn.func 9) _ _)) _, none⟩)); refine vdr_call ok9 rfl (shown9 H (fun _ h => G _ h.t)) ?_;  clear H f0 f1 f2 f3 f4 f5 f6 f7 f8 f9 f10 f11; rintro v hs ⟨rfl, H⟩; refine need ?_)
    | ((with_reducible show actK _ (HAct.call (HX.cst (HV.func (Fn.func 10) _ _)) _) _ _ _ _ _); refine vcall_of ok10 rfl (dmade (K := []) (desk_new H) one (by decide) (by simp)) ?_;  clear H f0 f1 f2 f3 f4 f5 f6 f7 f8 f9 f10 f11; rintro v hs ⟨rfl, K1, ⟨k1, k2⟩, H⟩; refine need ?_)
    | ((with_reducible show drK _ _ _ _ _ _ _ _ _ (some ⟨_, HAct.call (HX.cst (HV.func (Fn.func 10) _ _)) _, none⟩)); refine vdr_call ok10 rfl (dmade (K := []) (desk_new H) one (by decide) (by simp)) ?_;  clear H f0 f1 f2 f3 f4 f5 f6 f7 f8 f9 f10 f11; rintro v hs ⟨rfl, K1, ⟨k1, k2⟩, H⟩; refine need ?_)
    | ((with_reducible show actK _ (HAct.call (HX.cst (HV.func (Fn.func 10) _ _)) _) _ _ _ _ _); refine vcall_of ok10 rfl (dmade (K := K1) H two (by simp at k1; omega) k2) ?_;  clear H f0 f1 f2 f3 f4 f5 f6 f7 f8 f9 f10 f11; rintro v hs ⟨rfl, K2, ⟨k3, k4⟩, H⟩; obtain ⟨va, vb, vo, vw, lt, x, H⟩ := desk_open.1 H; refine need ?_)
    | ((with_reducible show drK _ _ _ _ _ _ _ _ _ (some ⟨_, HAct.call (HX.cst (HV.func (Fn.func 10) _ _)) _, none⟩)); refine vdr_call ok10 rfl (dmade (K := K1) H two (by simp at k1; omega) k2) ?_;  clear H f0 f1 f2 f3 f4 f5 f6 f7 f8 f9 f10 f11; rintro v hs ⟨rfl, K2, ⟨k3, k4⟩, H⟩; obtain ⟨va, vb, vo, vw, lt, x, H⟩ := desk_open.1 H; refine need ?_)
    | refine opC_K ?_
    | refine opC_D ?_
    | ((with_reducible show opC (unit (hstore _ _ _ _)) _); refine sl_store1 (by with_reducible first | exact H | exact H.p1 | exact H.p2 | exact H.p3 | exact H.p4 | exact H.p5 | exact H.p6 | exact H.p7 | exact H.p8 | exact H.p9 | exact H.p10 | exact H.p11) (Nat.le_of_ble_eq_true rfl) (by first | exact rfl | (simp only [f0, f1, f2, f3, f4, f5, f6, f7, f8, f9, f10, f11]; done) | (simp only [onA, *]; done)) (by first | exact rfl | (simp only [f0, f1, f2, f3, f4, f5, f6, f7, f8, f9, f10, f11]; done) | (simp only [onA, *]; done)) ?_)
    | ((with_reducible show opC (unit (hstore _ _ _ _)) _); refine sl_storeN (by with_reducible first | exact H | exact H.p1 | exact H.p2 | exact H.p3 | exact H.p4 | exact H.p5 | exact H.p6 | exact H.p7 | exact H.p8 | exact H.p9 | exact H.p10 | exact H.p11) rfl (Nat.le_of_ble_eq_true rfl) (by first | exact rfl | (simp only [f0, f1, f2, f3, f4, f5, f6, f7, f8, f9, f10, f11]; done) | (simp only [onA, *]; done)) ?_)
    | ((with_reducible show opC (hbox _ _) _); refine sl_box1 H (by first | exact rfl | (simp only [f0, f1, f2, f3, f4, f5, f6, f7, f8, f9, f10, f11]; done) | (simp only [onA, *]; done)) (by first | exact rfl | (simp only [f0, f1, f2, f3, f4, f5, f6, f7, f8, f9, f10, f11]; done) | (simp only [onA, *]; done)) ?_)
    | ((with_reducible show opC (hbox _ _) _); refine sl_boxA H (by first | exact rfl | (simp only [f0, f1, f2, f3, f4, f5, f6, f7, f8, f9, f10, f11]; done) | (simp only [onA, *]; done)) ?_)
    | refine hwp_draw mixed rfl ?_
    | with_reducible intro hy

  simp only [List.length_nil, Nat.zero_add] at k1
  have hK2 : 1 ≤ K2.length ∧ K2.length ≤ 4 := by omega
  have F0 : Fit 0 0 K2 [] [] := ⟨hK2, fun e he => k4 e he, by simp, by simp, by simp⟩
  refine HW.loopA mixed (fun s : Nat × List DK × List En × List En => (.undef :: .undef :: .undef :: .undef :: .undef :: .undef :: .undef :: .ptr v2 0 :: .undef :: .undef :: .undef :: .undef :: .undef :: .undef :: .undef :: .undef :: .undef :: .undef :: .undef :: .undef :: .undef :: .undef :: .undef :: .undef :: .undef :: .undef :: .undef :: .undef :: .undef :: .undef :: .undef :: .undef :: .undef :: .undef :: .undef :: sv :: .int .i64 (A.length : Nat) :: .int .i64 (s.1 : Nat) :: .undef :: .undef :: .undef :: .undef :: .undef :: .undef :: .undef :: .undef :: .undef :: .undef :: .undef :: .undef :: .undef :: .undef :: .undef :: .undef :: .undef :: .undef :: .undef :: .undef :: .undef :: .undef :: .undef :: .undef :: .undef :: .undef :: .undef :: .undef :: .undef :: .undef :: .undef :: .undef :: .undef :: .undef :: .undef :: .undef :: .undef :: .undef :: .undef :: .undef :: .undef :: .undef :: .undef :: .undef :: .undef :: .undef :: .undef :: .undef :: .undef :: .undef :: .undef :: .undef :: .undef :: .undef :: .undef :: .undef :: .undef :: .undef :: .undef :: .undef :: .undef :: .undef :: []))
    (fun s => DeskP v2 s.2.1 s.2.2.1 s.2.2.2 :: l) (fun s => A.length - s.1) (fun s => s.1 ≤ A.length ∧ Fit ((A.take s.1).map fun a => a.data.length).sum (2 * s.1) s.2.1 s.2.2.1 s.2.2.2) (0, K2, [], []) ⟨by omega, by simpa using F0⟩ (by (repeat first | exact Less.nil | refine Less.undef _ ?_ | refine Less.keep _ ?_))
    (desk_open.2 ⟨va, vb, vo, vw, lt, x, H⟩) ?_
  clear H F0
  rintro ⟨i, K, E1, E2⟩ hs ⟨hi, F⟩ H
  simp only at hi F H
  have hsi := hsl i
  by_cases hlt : i < A.length
  · obtain ⟨a, ha⟩ : ∃ a, A[i]? = some a := ⟨_, List.getElem?_eq_getElem hlt⟩
    have R1 := R _ H.t
    have so := R1.row.sOk
    obtain ⟨h, o, e1, e2, e3⟩ := R1.idx ha
    have hda := R1.data a (List.mem_of_getElem? ha)
    have hst := sum_take ha
    have hsi1 := hsl (i + 1)
    have av := hda.one
    have avc := hda.cells
    have hmem := List.mem_of_getElem? ha
    have hdat : Rdl l a.v a.data.length (bcells a.data) := fun hs h => (R hs h).data a hmem
    have e3 : hload (some 4) hs (.ptr h o) = some (.agg [.int .i64 a.kind, .int .i64 a.at_, .int .i64 a.n, a.v]) := e3
    clear e2 hda hmem
    first | have f0 := Sat.pf (H) | have f0 := trivial
    first | have f1 := Sat.pf (H.t) | have f1 := trivial
    first | have f2 := Sat.pf (H.t.t) | have f2 := trivial
    first | have f3 := Sat.pf (H.t.t.t) | have f3 := trivial
    first | have f4 := Sat.pf (H.t.t.t.t) | have f4 := trivial
    first | have f5 := Sat.pf (H.t.t.t.t.t) | have f5 := trivial
    first | have f6 := Sat.pf (H.t.t.t.t.t.t) | have f6 := trivial
    first | have f7 := Sat.pf (H.t.t.t.t.t.t.t) | have f7 := trivial
    first | have f8 := Sat.pf (H.t.t.t.t.t.t.t.t) | have f8 := trivial
    first | have f9 := Sat.pf (H.t.t.t.t.t.t.t.t.t) | have f9 := trivial
    first | have f10 := Sat.pf (H.t.t.t.t.t.t.t.t.t.t) | have f10 := trivial
    first | have f11 := Sat.pf (H.t.t.t.t.t.t.t.t.t.t.t) | have f11 := trivial
    repeat' first
      | ((with_reducible show Need _); refine need_of ?_; (first | have f0 := Sat.pf (H) | have f0 := trivial); (first | have f1 := Sat.pf (H.t) | have f1 := trivial); (first | have f2 := Sat.pf (H.t.t) | have f2 := trivial); (first | have f3 := Sat.pf (H.t.t.t) | have f3 := trivial); (first | have f4 := Sat.pf (H.t.t.t.t) | have f4 := trivial); (first | have f5 := Sat.pf (H.t.t.t.t.t) | have f5 := trivial); (first | have f6 := Sat.pf (H.t.t.t.t.t.t) | have f6 := trivial); (first | have f7 := Sat.pf (H.t.t.t.t.t.t.t) | have f7 := trivial); (first | have f8 := Sat.pf (H.t.t.t.t.t.t.t.t) | have f8 := trivial); (first | have f9 := Sat.pf (H.t.t.t.t.t.t.t.t.t) | have f9 := trivial); (first | have f10 := Sat.pf (H.t.t.t.t.t.t.t.t.t.t) | have f10 := trivial); (first | have f11 := Sat.pf (H.t.t.t.t.t.t.t.t.t.t.t) | have f11 := trivial))
      | simp -implicitDefEqProofs (disch := first | omega | decide | exact rfl | assumption | exact Nat.le_of_ble_eq_true rfl | exact One.c | exact One.o) only [vsA, vsB, eq_self, if_true, if_false, implies_true, false_implies, evp, HX.ev, Nat.reduceAdd, HOp.looks, Nat.reduceEqDiff, overw, Nat.reduceBEq, so, e1, e3, av, avc, vadd1, va_loadA, va_ldA, ub3, f0, f1, f2, f3, f4, f5, f6, f7, f8, f9, f10, f11]
      | (refine condK_cases (fun h => ?_) (fun h => ?_) <;> (try simp only [h]) <;> (try simp only [athA, ne_eq] at h) <;> (try (exfalso; omega)))
      | (refine guardK_cases (fun h => ?_) (fun h => ?_) <;> (try simp only [h]) <;> (try simp only [athA, ne_eq] at h) <;> (try (exfalso; omega)))
      | (refine dgK_cases (fun h => ?_) (fun h => ?_) <;> (try simp only [h]) <;> (try simp only [athA, ne_eq] at h) <;> (try (exfalso; omega)))
      | (clear H f0 f1 f2 f3 f4 f5 f6 f7 f8 f9 f10 f11; (with_reducible intro v2 hs H); (try simp only [setA, overw, Nat.reduceAdd] at H); refine need ?_)
      | ((with_reducible show actK _ (HAct.call (HX.cst (HV.func (Fn.func 11) _ _)) _) _ _ _ _ _); refine vcall_of ok11 rfl (dact11 H.p1 (fun _ h => G _ h.t) F a (fun _ h => hdat _ h.t) (by omega) (by omega)) ?_;  clear H f0 f1 f2 f3 f4 f5 f6 f7 f8 f9 f10 f11; rintro v hs ⟨rfl, K', E1', E2', F', H⟩; obtain ⟨va, vb, vo, vw, lt, x, H⟩ := desk_open.1 H; refine need ?_)
      | ((with_reducible show drK _ _ _ _ _ _ _ _ _ (some ⟨_, HAct.call (HX.cst (HV.func (Fn.func 11) _ _)) _, none⟩)); refine vdr_call ok11 rfl (dact11 H.p1 (fun _ h => G _ h.t) F a (fun _ h => hdat _ h.t) (by omega) (by omega)) ?_;  clear H f0 f1 f2 f3 f4 f5 f6 f7 f8 f9 f10 f11; rintro v hs ⟨rfl, K', E1', E2', F', H⟩; obtain ⟨va, vb, vo, vw, lt, x, H⟩ := desk_open.1 H; refine need ?_)
      | ((with_reducible show actK _ (HAct.call (HX.cst (HV.func (Fn.func 12) _ _)) _) _ _ _ _ _); refine vcall_of ok12 rfl (holds12 H.p6.p6.p6.p5.p5.p6.p6 (by have := F'.many; rw [List.length_append]; omega) (fun e he => by rcases List.mem_append.1 he with he | he; (have := F'.olds e he; omega); (have := F'.news e he; omega))) ?_; rintro _ _ ⟨rfl, rfl⟩)
      | ((with_reducible show drK _ _ _ _ _ _ _ _ _ (some ⟨_, HAct.call (HX.cst (HV.func (Fn.func 12) _ _)) _, none⟩)); refine vdr_call ok12 rfl (holds12 H.p6.p6.p6.p5.p5.p6.p6 (by have := F'.many; rw [List.length_append]; omega) (fun e he => by rcases List.mem_append.1 he with he | he; (have := F'.olds e he; omega); (have := F'.news e he; omega))) ?_; rintro _ _ ⟨rfl, rfl⟩)
      | refine opC_K ?_
      | refine opC_D ?_
      | ((with_reducible show opC (unit (hstore _ _ _ _)) _); refine sl_store1 (by with_reducible first | exact H | exact H.p1 | exact H.p2 | exact H.p3 | exact H.p4 | exact H.p5 | exact H.p6 | exact H.p7 | exact H.p8 | exact H.p9 | exact H.p10 | exact H.p11) (Nat.le_of_ble_eq_true rfl) (by first | exact rfl | (simp only [f0, f1, f2, f3, f4, f5, f6, f7, f8, f9, f10, f11]; done) | (simp only [onA, *]; done)) (by first | exact rfl | (simp only [f0, f1, f2, f3, f4, f5, f6, f7, f8, f9, f10, f11]; done) | (simp only [onA, *]; done)) ?_)
      | ((with_reducible show opC (unit (hstore _ _ _ _)) _); refine sl_storeN (by with_reducible first | exact H | exact H.p1 | exact H.p2 | exact H.p3 | exact H.p4 | exact H.p5 | exact H.p6 | exact H.p7 | exact H.p8 | exact H.p9 | exact H.p10 | exact H.p11) rfl (Nat.le_of_ble_eq_true rfl) (by first | exact rfl | (simp only [f0, f1, f2, f3, f4, f5, f6, f7, f8, f9, f10, f11]; done) | (simp only [onA, *]; done)) ?_)
      | ((with_reducible show opC (hbox _ _) _); refine sl_box1 H (by first | exact rfl | (simp only [f0, f1, f2, f3, f4, f5, f6, f7, f8, f9, f10, f11]; done) | (simp only [onA, *]; done)) (by first | exact rfl | (simp only [f0, f1, f2, f3, f4, f5, f6, f7, f8, f9, f10, f11]; done) | (simp only [onA, *]; done)) ?_)
      | ((with_reducible show opC (hbox _ _) _); refine sl_boxA H (by first | exact rfl | (simp only [f0, f1, f2, f3, f4, f5, f6, f7, f8, f9, f10, f11]; done) | (simp only [onA, *]; done)) ?_)
      | refine hwp_draw mixed rfl ?_
      | with_reducible intro hy

    all_goals
      refine ⟨(i + 1, K', E1', E2'), _, by simp only; omega, ⟨by simp only; omega, ?_⟩, (by (repeat first | exact Less.nil | refine Less.undef _ ?_ | refine Less.keep _ ?_)), Weak.refl _, desk_open.2 ⟨va, vb, vo, vw, lt, x, H.p6.t⟩⟩
      simp only
      rw [hst, show 2 * (i + 1) = 2 * i + 2 by omega]
      exact F'
  · obtain rfl : i = A.length := by omega
    obtain ⟨va, vb, vo, vw, lt, x, H1⟩ := desk_open.1 H
    clear H
    have H := H1
    clear H1
    first | have f0 := Sat.pf (H) | have f0 := trivial
    first | have f1 := Sat.pf (H.t) | have f1 := trivial
    first | have f2 := Sat.pf (H.t.t) | have f2 := trivial
    first | have f3 := Sat.pf (H.t.t.t) | have f3 := trivial
    first | have f4 := Sat.pf (H.t.t.t.t) | have f4 := trivial
    first | have f5 := Sat.pf (H.t.t.t.t.t) | have f5 := trivial
    first | have f6 := Sat.pf (H.t.t.t.t.t.t) | have f6 := trivial
    first | have f7 := Sat.pf (H.t.t.t.t.t.t.t) | have f7 := trivial
    first | have f8 := Sat.pf (H.t.t.t.t.t.t.t.t) | have f8 := trivial
    first | have f9 := Sat.pf (H.t.t.t.t.t.t.t.t.t) | have f9 := trivial
    first | have f10 := Sat.pf (H.t.t.t.t.t.t.t.t.t.t) | have f10 := trivial
    first | have f11 := Sat.pf (H.t.t.t.t.t.t.t.t.t.t.t) | have f11 := trivial
    repeat' first
      | ((with_reducible show Need _); refine need_of ?_; (first | have f0 := Sat.pf (H) | have f0 := trivial); (first | have f1 := Sat.pf (H.t) | have f1 := trivial); (first | have f2 := Sat.pf (H.t.t) | have f2 := trivial); (first | have f3 := Sat.pf (H.t.t.t) | have f3 := trivial); (first | have f4 := Sat.pf (H.t.t.t.t) | have f4 := trivial); (first | have f5 := Sat.pf (H.t.t.t.t.t) | have f5 := trivial); (first | have f6 := Sat.pf (H.t.t.t.t.t.t) | have f6 := trivial); (first | have f7 := Sat.pf (H.t.t.t.t.t.t.t) | have f7 := trivial); (first | have f8 := Sat.pf (H.t.t.t.t.t.t.t.t) | have f8 := trivial); (first | have f9 := Sat.pf (H.t.t.t.t.t.t.t.t.t) | have f9 := trivial); (first | have f10 := Sat.pf (H.t.t.t.t.t.t.t.t.t.t) | have f10 := trivial); (first | have f11 := Sat.pf (H.t.t.t.t.t.t.t.t.t.t.t) | have f11 := trivial))
      | simp -implicitDefEqProofs (disch := first | omega | decide | exact rfl | assumption | exact Nat.le_of_ble_eq_true rfl | exact One.c | exact One.o) only [vsA, vsB, eq_self, if_true, if_false, implies_true, false_implies, evp, HX.ev, Nat.reduceAdd, HOp.looks, Nat.reduceEqDiff, overw, Nat.reduceBEq, vadd1, ub3, f0, f1, f2, f3, f4, f5, f6, f7, f8, f9, f10, f11]
      | (refine condK_cases (fun h => ?_) (fun h => ?_) <;> (try simp only [h]) <;> (try simp only [athA, ne_eq] at h) <;> (try (exfalso; omega)))
      | (refine guardK_cases (fun h => ?_) (fun h => ?_) <;> (try simp only [h]) <;> (try simp only [athA, ne_eq] at h) <;> (try (exfalso; omega)))
      | (refine dgK_cases (fun h => ?_) (fun h => ?_) <;> (try simp only [h]) <;> (try simp only [athA, ne_eq] at h) <;> (try (exfalso; omega)))
      | (clear H f0 f1 f2 f3 f4 f5 f6 f7 f8 f9 f10 f11; (with_reducible intro v2 hs H); (try simp only [setA, overw, Nat.reduceAdd] at H); refine need ?_)
      | refine opC_K ?_
      | refine opC_D ?_
      | ((with_reducible show opC (unit (hstore _ _ _ _)) _); refine sl_store1 (by with_reducible first | exact H | exact H.p1 | exact H.p2 | exact H.p3 | exact H.p4 | exact H.p5 | exact H.p6 | exact H.p7 | exact H.p8 | exact H.p9 | exact H.p10 | exact H.p11) (Nat.le_of_ble_eq_true rfl) (by first | exact rfl | (simp only [f0, f1, f2, f3, f4, f5, f6, f7, f8, f9, f10, f11]; done) | (simp only [onA, *]; done)) (by first | exact rfl | (simp only [f0, f1, f2, f3, f4, f5, f6, f7, f8, f9, f10, f11]; done) | (simp only [onA, *]; done)) ?_)
      | ((with_reducible show opC (unit (hstore _ _ _ _)) _); refine sl_storeN (by with_reducible first | exact H | exact H.p1 | exact H.p2 | exact H.p3 | exact H.p4 | exact H.p5 | exact H.p6 | exact H.p7 | exact H.p8 | exact H.p9 | exact H.p10 | exact H.p11) rfl (Nat.le_of_ble_eq_true rfl) (by first | exact rfl | (simp only [f0, f1, f2, f3, f4, f5, f6, f7, f8, f9, f10, f11]; done) | (simp only [onA, *]; done)) ?_)
      | ((with_reducible show opC (hbox _ _) _); refine sl_box1 H (by first | exact rfl | (simp only [f0, f1, f2, f3, f4, f5, f6, f7, f8, f9, f10, f11]; done) | (simp only [onA, *]; done)) (by first | exact rfl | (simp only [f0, f1, f2, f3, f4, f5, f6, f7, f8, f9, f10, f11]; done) | (simp only [onA, *]; done)) ?_)
      | ((with_reducible show opC (hbox _ _) _); refine sl_boxA H (by first | exact rfl | (simp only [f0, f1, f2, f3, f4, f5, f6, f7, f8, f9, f10, f11]; done) | (simp only [onA, *]; done)) ?_)
      | refine hwp_draw mixed rfl ?_
      | with_reducible intro hy

    -- what is left is told
    have hn : 1 ≤ K.length ∧ K.length ≤ 4 := F.some_
    generalize hT : ((A.take A.length).map fun a => a.data.length).sum = TT at *
    refine HW.loopA mixed (fun s : Nat × List DK × List En × List En => (.undef :: .undef :: .undef :: .undef :: .undef :: .undef :: .undef :: .ptr v2 0 :: .undef :: .undef :: .undef :: .undef :: .undef :: .undef :: .undef :: .undef :: .undef :: .undef :: .undef :: .undef :: .undef :: .undef :: .undef :: .undef :: .undef :: .undef :: .undef :: .undef :: .undef :: .undef :: .undef :: .undef :: .undef :: .undef :: .undef :: .undef :: .undef :: .undef :: .undef :: .undef :: .undef :: .undef :: .undef :: .undef :: .undef :: .undef :: .undef :: .undef :: .undef :: .undef :: .undef :: .undef :: .undef :: .undef :: .undef :: .undef :: .undef :: .undef :: .undef :: .undef :: .undef :: .undef :: .int .i64 (K.length : Nat) :: .int .i64 (s.1 : Nat) :: .undef :: .undef :: .undef :: .undef :: .undef :: .undef :: .undef :: .undef :: .undef :: .undef :: .undef :: .undef :: .undef :: .undef :: .undef :: .undef :: .undef :: .undef :: .undef :: .undef :: .undef :: .undef :: .undef :: .undef :: .undef :: .undef :: .undef :: .undef :: .undef :: .undef :: .undef :: .undef :: .undef :: .undef :: .undef :: .undef :: []))
      (fun s => DeskP v2 s.2.1 s.2.2.1 s.2.2.2 :: l) (fun s => K.length - s.1) (fun s => s.1 ≤ K.length ∧ s.2.1.length = K.length ∧ Fit TT (2 * A.length + 4 * s.1) s.2.1 s.2.2.1 s.2.2.2) (0, K, E1, E2) ⟨by omega, rfl, F⟩ (by (repeat first | exact Less.nil | refine Less.undef _ ?_ | refine Less.keep _ ?_))
      (desk_open.2 ⟨va, vb, vo, vw, lt, x, H⟩) ?_
    clear H
    rintro ⟨k, K1, E1, E2⟩ hs ⟨hk, hkl, F1⟩ H
    simp only at hk hkl F1 H
    by_cases hlt : k < K.length
    · obtain ⟨e, he⟩ : ∃ e, K1[k]? = some e := ⟨_, List.getElem?_eq_getElem (by omega)⟩
      obtain ⟨f1, f2, f3, f4⟩ := F1.each_ e (List.mem_of_getElem? he)
      have nf := next_fit e.s
      have nf2 := next_fit (nextS e.s).2
      have hm := F1.many
      obtain ⟨K2, hK2⟩ : ∃ K2, K2 = K1.set k ⟨e.p, e.q, (nextS e.s).2⟩ := ⟨_, rfl⟩
      have he2 : K2[k]? = some ⟨e.p, e.q, (nextS e.s).2⟩ := by rw [hK2, List.getElem?_set_self (by omega)]
      obtain ⟨K3, hK3⟩ : ∃ K3, K3 = K2.set k ⟨e.p, e.q, (nextS (nextS e.s).2).2⟩ := ⟨_, rfl⟩
      have he3 : K3[k]? = some ⟨e.p, e.q, (nextS (nextS e.s).2).2⟩ := by rw [hK3, List.getElem?_set_self (by rw [hK2, List.length_set]; omega)]
      have l3 : K3.length = K.length := by rw [hK3, hK2, List.length_set, List.length_set, hkl]
      have qa1 := True.intro
      have qa2 := True.intro
      have qb1 := True.intro
      have qb2 := True.intro
      first | have f0 := Sat.pf (H) | have f0 := trivial
      first | have f1 := Sat.pf (H.t) | have f1 := trivial
      first | have f2 := Sat.pf (H.t.t) | have f2 := trivial
      first | have f3 := Sat.pf (H.t.t.t) | have f3 := trivial
      first | have f4 := Sat.pf (H.t.t.t.t) | have f4 := trivial
      first | have f5 := Sat.pf (H.t.t.t.t.t) | have f5 := trivial
      first | have f6 := Sat.pf (H.t.t.t.t.t.t) | have f6 := trivial
      first | have f7 := Sat.pf (H.t.t.t.t.t.t.t) | have f7 := trivial
      first | have f8 := Sat.pf (H.t.t.t.t.t.t.t.t) | have f8 := trivial
      first | have f9 := Sat.pf (H.t.t.t.t.t.t.t.t.t) | have f9 := trivial
      first | have f10 := Sat.pf (H.t.t.t.t.t.t.t.t.t.t) | have f10 := trivial
      first | have f11 := Sat.pf (H.t.t.t.t.t.t.t.t.t.t.t) | have f11 := trivial
      repeat' first
        | ((with_reducible show Need _); refine need_of ?_; (first | have f0 := Sat.pf (H) | have f0 := trivial); (first | have f1 := Sat.pf (H.t) | have f1 := trivial); (first | have f2 := Sat.pf (H.t.t) | have f2 := trivial); (first | have f3 := Sat.pf (H.t.t.t) | have f3 := trivial); (first | have f4 := Sat.pf (H.t.t.t.t) | have f4 := trivial); (first | have f5 := Sat.pf (H.t.t.t.t.t) | have f5 := trivial); (first | have f6 := Sat.pf (H.t.t.t.t.t.t) | have f6 := trivial); (first | have f7 := Sat.pf (H.t.t.t.t.t.t.t) | have f7 := trivial); (first | have f8 := Sat.pf (H.t.t.t.t.t.t.t.t) | have f8 := trivial); (first | have f9 := Sat.pf (H.t.t.t.t.t.t.t.t.t) | have f9 := trivial); (first | have f10 := Sat.pf (H.t.t.t.t.t.t.t.t.t.t) | have f10 := trivial); (first | have f11 := Sat.pf (H.t.t.t.t.t.t.t.t.t.t.t) | have f11 := trivial))
        | simp -implicitDefEqProofs (disch := first | omega | decide | exact rfl | assumption | exact Nat.le_of_ble_eq_true rfl | exact One.c | exact One.o) only [vsA, vsB, eq_self, if_true, if_false, implies_true, false_implies, evp, HX.ev, Nat.reduceAdd, HOp.looks, Nat.reduceEqDiff, overw, Nat.reduceBEq, vadd1, qa1, qa2, qb1, qb2, ub3, f0, f1, f2, f3, f4, f5, f6, f7, f8, f9, f10, f11]
        | (refine condK_cases (fun h => ?_) (fun h => ?_) <;> (try simp only [h]) <;> (try simp only [athA, ne_eq] at h) <;> (try (exfalso; omega)))
        | (refine guardK_cases (fun h => ?_) (fun h => ?_) <;> (try simp only [h]) <;> (try simp only [athA, ne_eq] at h) <;> (try (exfalso; omega)))
        | (refine dgK_cases (fun h => ?_) (fun h => ?_) <;> (try simp only [h]) <;> (try simp only [athA, ne_eq] at h) <;> (try (exfalso; omega)))
        | (clear H f0 f1 f2 f3 f4 f5 f6 f7 f8 f9 f10 f11; (with_reducible intro v2 hs H); (try simp only [setA, overw, Nat.reduceAdd] at H); refine need ?_)
        | ((with_reducible show actK _ (HAct.call (HX.cst (HV.func (Fn.func 13) _ _)) _) _ _ _ _ _); refine vcall_of ok13 rfl (dnext13 H G he (by omega) (by omega) (by omega) (by omega) (by rw [List.length_append]; omega) (by omega)) ?_;  clear H f0 f1 f2 f3 f4 f5 f6 f7 f8 f9 f10 f11; rintro v hs ⟨rfl, w1, w2, H⟩; rw [← hK2] at H; refine need ?_)
        | ((with_reducible show drK _ _ _ _ _ _ _ _ _ (some ⟨_, HAct.call (HX.cst (HV.func (Fn.func 13) _ _)) _, none⟩)); refine vdr_call ok13 rfl (dnext13 H G he (by omega) (by omega) (by omega) (by omega) (by rw [List.length_append]; omega) (by omega)) ?_;  clear H f0 f1 f2 f3 f4 f5 f6 f7 f8 f9 f10 f11; rintro v hs ⟨rfl, w1, w2, H⟩; rw [← hK2] at H; refine need ?_)
        | ((with_reducible show actK _ (HAct.call (HX.cst (HV.func (Fn.func 13) _ _)) _) _ _ _ _ _); refine vcall_of ok13 rfl (dnext13 H G he2 (by simp only; omega) (by simp only; omega) (by simp only; omega) (by simp only; omega) (by simp only [List.length_append, List.length_singleton]; omega) (by simp only; omega)) ?_;  clear H f0 f1 f2 f3 f4 f5 f6 f7 f8 f9 f10 f11; rintro v hs ⟨rfl, w3, w4, H⟩; rw [← hK3] at H; obtain ⟨va, vb, vo, vw, lt, x, H⟩ := desk_open.1 H; have H2 := dk_at H.p4.p4.p4.p4.p4.p5 he3; clear H; have H := H2.p2.p7.p7.p7.p7.p7.p7.p7; clear H2; obtain ⟨qa, qa1, qa2⟩ := (Sat.rd H.p3).idx1 (dkA_get he3) .i64; obtain ⟨qb, qb1, qb2⟩ := (Sat.rd H.p4).idx1 (dkB_get he3) .i64; refine need ?_)
        | ((with_reducible show drK _ _ _ _ _ _ _ _ _ (some ⟨_, HAct.call (HX.cst (HV.func (Fn.func 13) _ _)) _, none⟩)); refine vdr_call ok13 rfl (dnext13 H G he2 (by simp only; omega) (by simp only; omega) (by simp only; omega) (by simp only; omega) (by simp only [List.length_append, List.length_singleton]; omega) (by simp only; omega)) ?_;  clear H f0 f1 f2 f3 f4 f5 f6 f7 f8 f9 f10 f11; rintro v hs ⟨rfl, w3, w4, H⟩; rw [← hK3] at H; obtain ⟨va, vb, vo, vw, lt, x, H⟩ := desk_open.1 H; have H2 := dk_at H.p4.p4.p4.p4.p4.p5 he3; clear H; have H := H2.p2.p7.p7.p7.p7.p7.p7.p7; clear H2; obtain ⟨qa, qa1, qa2⟩ := (Sat.rd H.p3).idx1 (dkA_get he3) .i64; obtain ⟨qb, qb1, qb2⟩ := (Sat.rd H.p4).idx1 (dkB_get he3) .i64; refine need ?_)
        | ((with_reducible show actK _ (HAct.call (HX.cst (HV.func (Fn.func 14) _ _)) _) _ _ _ _ _); refine vcall_of ok14 rfl (held14 (p := e.p) (by with_reducible first | exact H | exact H.p1 | exact H.p2 | exact H.p3 | exact H.p4 | exact H.p5 | exact H.p6 | exact H.p7 | exact H.p8 | exact H.p9 | exact H.p10 | exact H.p11)) ?_; rintro _ _ ⟨rfl, rfl⟩)
        | ((with_reducible show drK _ _ _ _ _ _ _ _ _ (some ⟨_, HAct.call (HX.cst (HV.func (Fn.func 14) _ _)) _, none⟩)); refine vdr_call ok14 rfl (held14 (p := e.p) (by with_reducible first | exact H | exact H.p1 | exact H.p2 | exact H.p3 | exact H.p4 | exact H.p5 | exact H.p6 | exact H.p7 | exact H.p8 | exact H.p9 | exact H.p10 | exact H.p11)) ?_; rintro _ _ ⟨rfl, rfl⟩)
        | ((with_reducible show actK _ (HAct.call (HX.cst (HV.func (Fn.func 15) _ _)) _) _ _ _ _ _); refine vcall_of ok15 rfl (rheld15 (p := e.q) (by with_reducible first | exact H | exact H.p1 | exact H.p2 | exact H.p3 | exact H.p4 | exact H.p5 | exact H.p6 | exact H.p7 | exact H.p8 | exact H.p9 | exact H.p10 | exact H.p11)) ?_; rintro _ _ ⟨rfl, rfl⟩)
        | ((with_reducible show drK _ _ _ _ _ _ _ _ _ (some ⟨_, HAct.call (HX.cst (HV.func (Fn.func 15) _ _)) _, none⟩)); refine vdr_call ok15 rfl (rheld15 (p := e.q) (by with_reducible first | exact H | exact H.p1 | exact H.p2 | exact H.p3 | exact H.p4 | exact H.p5 | exact H.p6 | exact H.p7 | exact H.p8 | exact H.p9 | exact H.p10 | exact H.p11)) ?_; rintro _ _ ⟨rfl, rfl⟩)
        | refine opC_K ?_
        | refine opC_D ?_
        | ((with_reducible show opC (unit (hstore _ _ _ _)) _); refine sl_store1 (by with_reducible first | exact H | exact H.p1 | exact H.p2 | exact H.p3 | exact H.p4 | exact H.p5 | exact H.p6 | exact H.p7 | exact H.p8 | exact H.p9 | exact H.p10 | exact H.p11) (Nat.le_of_ble_eq_true rfl) (by first | exact rfl | (simp only [f0, f1, f2, f3, f4, f5, f6, f7, f8, f9, f10, f11]; done) | (simp only [onA, *]; done)) (by first | exact rfl | (simp only [f0, f1, f2, f3, f4, f5, f6, f7, f8, f9, f10, f11]; done) | (simp only [onA, *]; done)) ?_)
        | ((with_reducible show opC (unit (hstore _ _ _ _)) _); refine sl_storeN (by with_reducible first | exact H | exact H.p1 | exact H.p2 | exact H.p3 | exact H.p4 | exact H.p5 | exact H.p6 | exact H.p7 | exact H.p8 | exact H.p9 | exact H.p10 | exact H.p11) rfl (Nat.le_of_ble_eq_true rfl) (by first | exact rfl | (simp only [f0, f1, f2, f3, f4, f5, f6, f7, f8, f9, f10, f11]; done) | (simp only [onA, *]; done)) ?_)
        | ((with_reducible show opC (hbox _ _) _); refine sl_box1 H (by first | exact rfl | (simp only [f0, f1, f2, f3, f4, f5, f6, f7, f8, f9, f10, f11]; done) | (simp only [onA, *]; done)) (by first | exact rfl | (simp only [f0, f1, f2, f3, f4, f5, f6, f7, f8, f9, f10, f11]; done) | (simp only [onA, *]; done)) ?_)
        | ((with_reducible show opC (hbox _ _) _); refine sl_boxA H (by first | exact rfl | (simp only [f0, f1, f2, f3, f4, f5, f6, f7, f8, f9, f10, f11]; done) | (simp only [onA, *]; done)) ?_)
        | refine hwp_draw mixed rfl ?_
        | with_reducible intro hy

      have H := dk_put (e := ⟨e.p, e.q, (nextS (nextS e.s).2).2⟩) (s' := (nextS (nextS e.s).2).2) he3 H.p6.p6.p6.p6.p6.p7.p7.p7
      have hT2 : ∀ g ∈ K2, g.s.st ≤ 3 ∧ g.s.held.length ≤ TT ∧ g.s.size ≤ 4294967295 ∧ g.s.left ≤ 4294967297 := by
        rw [hK2]; exact fit_set F1.each_ (Nat.le_refl _) ⟨by simp only; omega, by simp only; omega, by simp only; omega, by simp only; omega⟩
      have hT3 : ∀ g ∈ K3, g.s.st ≤ 3 ∧ g.s.held.length ≤ TT ∧ g.s.size ≤ 4294967295 ∧ g.s.left ≤ 4294967297 := by
        rw [hK3]; exact fit_set hT2 (Nat.le_refl _) ⟨by simp only; omega, by simp only; omega, by simp only; omega, by simp only; omega⟩
      refine ⟨(k + 1, K3.set k ⟨e.p, e.q, (nextS (nextS e.s).2).2⟩, E1, E2 ++ [⟨w1, w2, itB (nextS e.s).1⟩] ++ [⟨w3, w4, itB (nextS (nextS e.s).2).1⟩]), _, by simp only; omega, ⟨by simp only; omega, by simp [l3], ?_⟩, (by (repeat first | exact Less.nil | refine Less.undef _ ?_ | refine Less.keep _ ?_)), Weak.refl _, desk_open.2 ⟨va, vb, vo, vw, lt, x, ?_⟩⟩
      · refine ⟨by simp [l3]; omega, fit_set hT3 (Nat.le_refl _) ⟨by simp only; omega, by simp only; omega, by simp only; omega, by simp only; omega⟩, ?_, F1.olds, ?_⟩
        · simp only [List.length_append, List.length_singleton]; omega
        · intro g hg
          simp only [List.mem_append, List.mem_singleton] at hg
          rcases hg with (hg | rfl) | rfl
          · exact F1.news g hg
          · simp only; omega
          · simp only; omega
      · rw [dkA_set he3, dkB_set he3, List.length_set]
        exact H.p5.p5.p5.p5.p5
    · have hbw : ∀ e ∈ E1 ++ E2, e.bs.length < 46116860184 := by
        intro g hg
        rcases List.mem_append.1 hg with hg | hg
        · have := F1.olds g hg; omega
        · have := F1.news g hg; omega
      have hm := F1.many
      obtain ⟨va, vb, vo, vw, lt, x, H1⟩ := desk_open.1 H
      clear H
      have H := H1
      clear H1
      first | have f0 := Sat.pf (H) | have f0 := trivial
      first | have f1 := Sat.pf (H.t) | have f1 := trivial
      first | have f2 := Sat.pf (H.t.t) | have f2 := trivial
      first | have f3 := Sat.pf (H.t.t.t) | have f3 := trivial
      first | have f4 := Sat.pf (H.t.t.t.t) | have f4 := trivial
      first | have f5 := Sat.pf (H.t.t.t.t.t) | have f5 := trivial
      first | have f6 := Sat.pf (H.t.t.t.t.t.t) | have f6 := trivial
      first | have f7 := Sat.pf (H.t.t.t.t.t.t.t) | have f7 := trivial
      first | have f8 := Sat.pf (H.t.t.t.t.t.t.t.t) | have f8 := trivial
      first | have f9 := Sat.pf (H.t.t.t.t.t.t.t.t.t) | have f9 := trivial
      first | have f10 := Sat.pf (H.t.t.t.t.t.t.t.t.t.t) | have f10 := trivial
      first | have f11 := Sat.pf (H.t.t.t.t.t.t.t.t.t.t.t) | have f11 := trivial
      repeat' first
        | ((with_reducible show Need _); refine need_of ?_; (first | have f0 := Sat.pf (H) | have f0 := trivial); (first | have f1 := Sat.pf (H.t) | have f1 := trivial); (first | have f2 := Sat.pf (H.t.t) | have f2 := trivial); (first | have f3 := Sat.pf (H.t.t.t) | have f3 := trivial); (first | have f4 := Sat.pf (H.t.t.t.t) | have f4 := trivial); (first | have f5 := Sat.pf (H.t.t.t.t.t) | have f5 := trivial); (first | have f6 := Sat.pf (H.t.t.t.t.t.t) | have f6 := trivial); (first | have f7 := Sat.pf (H.t.t.t.t.t.t.t) | have f7 := trivial); (first | have f8 := Sat.pf (H.t.t.t.t.t.t.t.t) | have f8 := trivial); (first | have f9 := Sat.pf (H.t.t.t.t.t.t.t.t.t) | have f9 := trivial); (first | have f10 := Sat.pf (H.t.t.t.t.t.t.t.t.t.t) | have f10 := trivial); (first | have f11 := Sat.pf (H.t.t.t.t.t.t.t.t.t.t.t) | have f11 := trivial))
        | simp -implicitDefEqProofs (disch := first | omega | decide | exact rfl | assumption | exact Nat.le_of_ble_eq_true rfl | exact One.c | exact One.o) only [vsA, vsB, eq_self, if_true, if_false, implies_true, false_implies, evp, HX.ev, Nat.reduceAdd, HOp.looks, Nat.reduceEqDiff, overw, Nat.reduceBEq, vadd1, ub3, f0, f1, f2, f3, f4, f5, f6, f7, f8, f9, f10, f11]
        | (refine condK_cases (fun h => ?_) (fun h => ?_) <;> (try simp only [h]) <;> (try simp only [athA, ne_eq] at h) <;> (try (exfalso; omega)))
        | (refine guardK_cases (fun h => ?_) (fun h => ?_) <;> (try simp only [h]) <;> (try simp only [athA, ne_eq] at h) <;> (try (exfalso; omega)))
        | (refine dgK_cases (fun h => ?_) (fun h => ?_) <;> (try simp only [h]) <;> (try simp only [athA, ne_eq] at h) <;> (try (exfalso; omega)))
        | (clear H f0 f1 f2 f3 f4 f5 f6 f7 f8 f9 f10 f11; (with_reducible intro v2 hs H); (try simp only [setA, overw, Nat.reduceAdd] at H); refine need ?_)
        | ((with_reducible show actK _ (HAct.call (HX.cst (HV.func (Fn.func 16) _ _)) _) _ _ _ _ _); refine vcall_of ok16 rfl (write16 H.p5.p5.p4.p4.p5.p5 (by omega) hbw) ?_;  clear H f0 f1 f2 f3 f4 f5 f6 f7 f8 f9 f10 f11; rintro v hs ⟨rfl, vo', vw', E3, e1, e2, H⟩; refine need ?_)
        | ((with_reducible show drK _ _ _ _ _ _ _ _ _ (some ⟨_, HAct.call (HX.cst (HV.func (Fn.func 16) _ _)) _, none⟩)); refine vdr_call ok16 rfl (write16 H.p5.p5.p4.p4.p5.p5 (by omega) hbw) ?_;  clear H f0 f1 f2 f3 f4 f5 f6 f7 f8 f9 f10 f11; rintro v hs ⟨rfl, vo', vw', E3, e1, e2, H⟩; refine need ?_)
        | refine opC_K ?_
        | refine opC_D ?_
        | ((with_reducible show opC (unit (hstore _ _ _ _)) _); refine sl_store1 (by with_reducible first | exact H | exact H.p1 | exact H.p2 | exact H.p3 | exact H.p4 | exact H.p5 | exact H.p6 | exact H.p7 | exact H.p8 | exact H.p9 | exact H.p10 | exact H.p11) (Nat.le_of_ble_eq_true rfl) (by first | exact rfl | (simp only [f0, f1, f2, f3, f4, f5, f6, f7, f8, f9, f10, f11]; done) | (simp only [onA, *]; done)) (by first | exact rfl | (simp only [f0, f1, f2, f3, f4, f5, f6, f7, f8, f9, f10, f11]; done) | (simp only [onA, *]; done)) ?_)
        | ((with_reducible show opC (unit (hstore _ _ _ _)) _); refine sl_storeN (by with_reducible first | exact H | exact H.p1 | exact H.p2 | exact H.p3 | exact H.p4 | exact H.p5 | exact H.p6 | exact H.p7 | exact H.p8 | exact H.p9 | exact H.p10 | exact H.p11) rfl (Nat.le_of_ble_eq_true rfl) (by first | exact rfl | (simp only [f0, f1, f2, f3, f4, f5, f6, f7, f8, f9, f10, f11]; done) | (simp only [onA, *]; done)) ?_)
        | ((with_reducible show opC (hbox _ _) _); refine sl_box1 H (by first | exact rfl | (simp only [f0, f1, f2, f3, f4, f5, f6, f7, f8, f9, f10, f11]; done) | (simp only [onA, *]; done)) (by first | exact rfl | (simp only [f0, f1, f2, f3, f4, f5, f6, f7, f8, f9, f10, f11]; done) | (simp only [onA, *]; done)) ?_)
        | ((with_reducible show opC (hbox _ _) _); refine sl_boxA H (by first | exact rfl | (simp only [f0, f1, f2, f3, f4, f5, f6, f7, f8, f9, f10, f11]; done) | (simp only [onA, *]; done)) ?_)
        | refine hwp_draw mixed rfl ?_
        | with_reducible intro hy

end Go.Proofs.Ytccfcegmaejlnaa
namespace Go.Proofs.Ytccfcegmaejlnaa
open Go Go.HL Go.ChangeShapes Go.WideShapes Go.ChangeAt Go.RowKit Go.Shelf
set_option maxRecDepth 100000
set_option linter.unusedSimpArgs false

theorem own : ownKnob Try.prog.godebug = none := by kernel_rfl
theorem laidOut : laidOutB Try.prog = true := by kernel_rfl
/-- an act, as it was handed in. -/
theorem act_of {H : Type} {enc : TypeId × Value → H} {M : World} {fuel : Nat} {cs : List Value} {x : DataW H × List MemPlace} (h : DataW.trod enc Try.prog M 0 (fun _ => true) true fuel 36 cs = some x) (hw : ∀ n ∈ x.1.weights Try.prog 36, n ≤ reachBytes)
    {β : List Ent} {hs : HS} (E : Emb β hs M) (hro : AllRo hs) (hz : 0 < hs.length) :
    ∃ β' hs' a, Ext β β' ∧ (∃ g, hs' = hs ++ g) ∧ Emb β' hs' M ∧ AllRo hs' ∧ RelL β' (ActV.cells a) cs ∧ Rd hs' 1 a.v a.data.length (bcells a.data) ∧ a.data.length ≤ 140737488351232 := by
  obtain ⟨xs, n', rfl, rfl, hl, hxl, hf⟩ := DataW.trod_struct Try.underlying36 h
  have c36 : Try.prog.cellsOf 36 = 4 := by kernel_rfl
  have c3 : Try.prog.cellsOf 3 = 1 := by kernel_rfl
  have c30 : Try.prog.cellsOf 30 = 1 := by kernel_rfl
  have c5 : Try.prog.cellsOf 5 = 1 := by kernel_rfl
  rw [c36] at hl
  obtain ⟨a, b, c, d, rfl⟩ : ∃ a b c d, cs = [a, b, c, d] := by
    match cs, hl with
    | [a, b, c, d], _ => exact ⟨a, b, c, d, rfl⟩
  obtain ⟨y0, y1, y2, y3, rfl⟩ : ∃ a b c d, xs = [a, b, c, d] := by
    match xs, hxl with
    | [a, b, c, d], _ => exact ⟨a, b, c, d, rfl⟩
  have f0 : DataW.trod enc Try.prog M 0 (fun _ => true) true n' 3 (([a, b, c, d].drop 0).take (Try.prog.cellsOf 3)) = some y0 := hf 0 _ rfl
  have f1 : DataW.trod enc Try.prog M 0 (fun _ => true) true n' 3 (([a, b, c, d].drop 1).take (Try.prog.cellsOf 3)) = some y1 := hf 1 _ rfl
  have f2 : DataW.trod enc Try.prog M 0 (fun _ => true) true n' 3 (([a, b, c, d].drop 2).take (Try.prog.cellsOf 3)) = some y2 := hf 2 _ rfl
  have f3 : DataW.trod enc Try.prog M 0 (fun _ => true) true n' 30 (([a, b, c, d].drop 3).take (Try.prog.cellsOf 30)) = some y3 := hf 3 _ rfl
  rw [c3] at f0 f1 f2
  rw [c30] at f3
  simp only [List.drop_zero, List.drop_succ_cons, List.take_succ_cons, List.take_zero] at f0 f1 f2 f3
  obtain ⟨k, e0, _⟩ := arg_int Try.underlying3 f0
  obtain ⟨id, e1, _⟩ := arg_int Try.underlying3 f1
  obtain ⟨num, e2, _⟩ := arg_int Try.underlying3 f2
  simp at e0 e1 e2
  subst e0 e1 e2
  obtain ⟨β', hs', v, bb, x1, x2, x3, x4, x5, x6, x8⟩ := arg_bytesR Try.underlying30 Try.underlying5 c5 f3 E hro hz
  have bl : bb.length ≤ 140737488351232 := by
    rcases x8 with rfl | ⟨el, sp, e4, e5⟩
    · simp
    · have := hw ((el.length + sp.length) * Try.prog.bytesOf 5) (by
        simp only [DataW.weights, Try.underlying36, List.map_cons, List.map_nil]
        refine DataW.weights_mem_each (j := 3) (t := 30) (d := y3.1) (by kernel_rfl) rfl _ ?_
        rw [e4]; simp [DataW.weights, Try.underlying30])
      have b5 : Try.prog.bytesOf 5 = 1 := by kernel_rfl
      rw [b5] at this
      have hr : reachBytes = 140737488351232 := rfl
      omega
  refine ⟨β', hs', ⟨k, id, num, v, bb⟩, x1, x2, x3, x4, ?_, x6, bl⟩
  simp only [ActV.cells, RelL] at x5 ⊢
  obtain ⟨u, us, h1, h2, rfl⟩ := x5
  simp at h1; subst h1
  exact ⟨_, _, rfl, rfl, _, _, rfl, rfl, _, _, rfl, rfl, _, _, rfl, h2, rfl⟩
/-- a script, as it was handed in. -/
theorem acts_of {H : Type} {enc : TypeId × Value → H} {M : World} {fuel : Nat} {v0 : Value} {x : DataW H × List MemPlace} (h : DataW.trod enc Try.prog M 0 (fun _ => true) true fuel 22 v0.cells.toList = some x) (hv : ∃ a l c, v0 = .slice a l c) (hw : ∀ n ∈ x.1.weights Try.prog 22, n ≤ reachBytes)
    {β : List Ent} {hs : HS} (E : Emb β hs M) (hro : AllRo hs) (hz : 0 < hs.length) :
    ∃ β' hs' v A, Ext β β' ∧ (∃ g, hs' = hs ++ g) ∧ Emb β' hs' M ∧ AllRo hs' ∧ Rel β' v v0 ∧ ArgsAt hs' v A := by
  have shape : ∀ a l c, [Value.slice a l c] = v0.cells.toList → v0 = .slice a l c := by
    intro a l c h
    obtain ⟨a', l', c', rfl⟩ := hv
    simp [Value.cells] at h
    obtain ⟨rfl, rfl, rfl⟩ := h
    rfl
  rcases Go.Deep.open_slice Try.underlying22 h with ⟨hcs, hx0⟩ | ⟨a, len, cap, m, n, D, Pl, hcs, _, hle, hmax, hm, hx0, hel⟩
  · have hv0 := shape _ _ _ hcs.symm
    subst hv0
    exact ⟨β, hs, .nilSlice, [], Ext.refl _, ⟨[], by simp⟩, E, hro, rfl, ⟨Rd.nil, by simp, by simp, by simp⟩⟩
  · have hv0 := shape _ _ _ hcs.symm
    subst hv0
    rw [if_pos rfl] at hm
    subst hm
    obtain ⟨hd0, _⟩ := Prod.mk.inj hx0
    rw [hd0] at hw
    have hr : reachBytes = 140737488351232 := rfl
    have hb36 : Try.prog.bytesOf 36 = 48 := by kernel_rfl
    have hlen : len < 4398046511104 := by
      have := hw _ (by simp only [DataW.weights, Try.underlying22]; exact List.mem_cons_self)
      rw [hb36] at this
      simp only [List.length_map, List.length_range] at this
      omega
    have hwe : ∀ i, i < len → ∀ n ∈ (D i).weights Try.prog 36, n ≤ reachBytes := fun i hi n hn => hw n (by
      simp only [DataW.weights, Try.underlying22]
      exact List.mem_cons_of_mem _ (List.mem_append_left _ (weights_mem_all (i := i) (d := D i) (by simp [hi]) n hn)))
    rcases Nat.eq_zero_or_pos m with hc0 | hc0
    · have hl0 : len = 0 := by omega
      subst hc0 hl0
      have hzb : 0 < β.length := by rw [E.len]; exact hz
      refine ⟨β, hs, .slice 0 0 0 (some 0), [], Ext.refl _, ⟨[], by simp⟩, E, hro, ?_, ⟨⟨by simp, .inr (.inl ⟨0, 0, rfl, rfl⟩)⟩, by simp, by simp, by simp⟩⟩
      exact ⟨β[0], a, 0, List.getElem?_eq_getElem hzb, rfl, Nat.le_refl _, ⟨rfl, Nat.zero_le _⟩, fun h => absurd h (by omega)⟩
    · have c36 : Try.prog.cellsOf 36 = 4 := by kernel_rfl
      rw [c36] at hel
      have each : ∀ i, ∃ cs : List Value, cs.length = 4 ∧ (i < m → (∀ (j : Nat) u, cs[j]? = some u → M.cell? (a.add (i * 4 + j)) = some u) ∧ DataW.trod enc Try.prog M 0 (fun _ => true) true n 36 cs = some (D i, Pl i)) := by
        intro i
        by_cases hi : i < m
        · obtain ⟨cs', e1, e2⟩ := hel i hi
          obtain ⟨_, e3, e4⟩ := World.cells?_some e1
          refine ⟨cs', e3, fun _ => ⟨fun j u hu => ?_, e2⟩⟩
          have hj := lt_of_get hu
          rw [← add_add, e4 j (by rw [← e3]; exact hj)]
          exact hu
        · exact ⟨[.bool true, .bool true, .bool true, .bool true], rfl, fun h => absurd h hi⟩
      obtain ⟨C, hC⟩ : ∃ C : Nat → List Value, ∀ i, (C i).length = 4 ∧ (i < m → (∀ (j : Nat) u, (C i)[j]? = some u → M.cell? (a.add (i * 4 + j)) = some u) ∧ DataW.trod enc Try.prog M 0 (fun _ => true) true n 36 (C i) = some (D i, Pl i)) := ⟨fun i => Classical.choose (each i), fun i => Classical.choose_spec (each i)⟩
      obtain ⟨β1, hs1, A, hA, x1, ⟨g1, x2⟩, x3, x4, x5⟩ := emb_each (M := M) (Good := fun β hs i (o : ActV) => RelL β o.cells (C i) ∧ Rd hs 1 o.v o.data.length (bcells o.data) ∧ o.data.length ≤ 140737488351232)
        (fun β β' hs g i o h e => ⟨h.1.mono e _ _, h.2.1.more, h.2.2⟩) len (fun i hi β hs E hro hz => by
          obtain ⟨β', hs', o, q1, q2, q3, q4, q5, q6, q7⟩ := act_of ((hC i).2 (by omega)).2 (hwe i hi) E hro hz
          exact ⟨β', hs', o, q1, q2, q3, q4, q5, q6, q7⟩) E hro hz
      obtain ⟨X, hX⟩ : ∃ X : Nat → List HV, X = fun i => match A[i]? with
        | some o => o.cells
        | none => [] := ⟨_, rfl⟩
      have hXi : ∀ i, i < len → ∃ o, A[i]? = some o ∧ X i = o.cells := fun i hi => ⟨A[i], List.getElem?_eq_getElem (by omega), by rw [hX]; simp only [List.getElem?_eq_getElem (show i < A.length by omega)]⟩
      obtain ⟨e, E4, R4⟩ := emb_rows (s := 4) x3 x4 (by omega) hle hc0 (C := C) (fun i hi => (hC i).1) (fun i hi => ((hC i).2 hi).1) (X := X) (fun i hi => by
        obtain ⟨o, h1, h2⟩ := hXi i hi
        rw [h2]; exact (x5 i o h1).1) (fun i hi y hy => by
        obtain ⟨o, h1, h2⟩ := hXi i hi
        rw [h2] at hy
        have hvo := (x5 i o h1).2.1.one
        simp only [ActV.cells, List.mem_cons, List.not_mem_nil, or_false] at hy
        rcases hy with rfl | rfl | rfl | rfl
        · rfl
        · rfl
        · rfl
        · exact hvo)
      have hfl : (List.range len).flatMap X = A.flatMap ActV.cells := by
        have : (List.range len).map X = A.map ActV.cells := by
          apply List.ext_getElem?
          intro i
          rw [List.getElem?_map, List.getElem?_map]
          by_cases hi : i < len
          · obtain ⟨o, h1, h2⟩ := hXi i hi
            rw [List.getElem?_range hi, h1]; simp [h2]
          · rw [List.getElem?_eq_none (by simp; omega), List.getElem?_eq_none (by omega)]; rfl
        rw [List.flatMap_def, List.flatMap_def, this]
      rw [hfl] at E4
      refine ⟨_, _, .slice hs1.length 0 len (some m), A, x1.trans (Ext.snoc _ _), ⟨g1 ++ [some (.cells 4 (A.flatMap ActV.cells) true false [])], by rw [x2, List.append_assoc]⟩, E4, x4.snoc rfl, R4, ⟨?_, ?_, by omega, ?_⟩⟩
      · rw [hA]
        exact Rd.fresh hs1 4 len _ true false (by rw [flat_len (s := 4) (fun _ => rfl), hA]) (some m) (fun c e => by cases e; exact hle)
      · intro o ho
        obtain ⟨i, hi⟩ := List.getElem?_of_mem ho
        exact (x5 i o hi).2.1.more
      · intro o ho
        obtain ⟨i, hi⟩ := List.getElem?_of_mem ho
        have := (x5 i o hi).2.2
        omega
theorem ArgsAt.base {hs hs0 : HS} {l : List SA} {sv : HV} {A : List ActV} (R : ArgsAt hs0 sv A) (H : Sat hs (HL.base hs0 :: l)) : ArgsAt hs sv A :=
  ⟨R.row.base H, fun a ha => (R.data a ha).base H, R.few, R.small⟩
end Go.Proofs.Ytccfcegmaejlnaa
namespace Go.Proofs.Ytccfcegmaejlnaa
open Go Go.HL Go.ChangeShapes Go.WideShapes Go.ChangeAt Go.RowKit Go.Shelf
set_option maxRecDepth 100000
set_option linter.unusedSimpArgs false

theorem script_lifted (os : Os) (started : os.Started) (H : Type) (enc : TypeId × Value → H) :
    ReturnsInHanded {} Try.checked os 3 .any (Rows.intakeScriptSpec.pre6 enc Try.prog Try.f3 Rows.intakeScriptRow.domain false) (Rows.intakeScriptSpec.post enc Try.prog Try.f3 false true false false) := by
  refine returnsInHanded_of_change_shaped (C := Try.checked) own started (by kernel_rfl) Try.func3
    (ChangeSpec.witness6 (enc := enc) (C := Try.checked) false ⟨#[], #[.int .i64 0, .int .i64 0, .slice none 0 0], []⟩ 8 (by kernel_rfl) (by kernel_rfl) (by kernel_rfl) (by kernel_rfl)) ?_
  intro M base args ds gs before hval0 hW _ hsz0 hsh _
  have hval : ∀ (j : Nat) t v, Try.f3.params[j]? = some t → args[j]? = some v → Value.okWide Try.prog M .any base t v := hval0
  have hsz : (DataW.weightsEach Try.prog (Try.f3.params.toList ++ Rows.intakeScriptSpec.plain.varTypes Try.prog) (ds ++ gs)).all (· ≤ reachBytes) = true := hsz0
  have hW' := hW
  obtain ⟨p, q, hA0, hV, rfl, hfz, hnd⟩ := hW
  have hA : DataW.TrodAll enc Try.prog M 0 (fun _ => true) true Try.f3.params.toList args.toList ds p := hA0
  rw [Try.params3] at hA hval hsz
  obtain ⟨v0, v1, v2, d0, d1, d2, p0, p1, p2, rfl, rfl, rfl, h0, h1, h2⟩ := trodAll_three hA
  obtain ⟨rfl, rfl⟩ := trodVars_none hV
  obtain ⟨fu0, hf0⟩ := h0
  obtain ⟨fu1, hf1⟩ := h1
  obtain ⟨fu2, hf2⟩ := h2
  obtain ⟨mi, hm⟩ := Try.laysM185.s1_3 M hsh
  have hE : Emb [⟨0, 0, 1, 1⟩] [some (.gint 0)] M := emb_gint hm
  have hro0 : AllRo [some (.gint 0)] := fun i b h => by
    have hi : i = 0 := by have := lt_of_get h; simp at this; omega
    subst hi
    simp at h; subst h; rfl
  have hwt : ∀ n ∈ d2.weights Try.prog 22, n ≤ reachBytes := fun n hn => by
    have := List.all_eq_true.1 hsz n (DataW.weights_mem_each (j := 2) (t := 22) (d := d2) rfl (by simp) n hn)
    simpa using this
  obtain ⟨β', hs', sv, A, x1, ⟨g, x2⟩, x3, x4, x5, x6⟩ := acts_of hf2 (okWide_slice Try.underlying22 (hval 2 22 v2 rfl rfl)) hwt hE hro0 (by simp)
  obtain ⟨k0, rfl⟩ : ∃ k, v0 = .int .i64 k := by
    obtain ⟨k, rfl, _⟩ := okWide_int Try.underlying3 (hval 0 3 v0 rfl rfl)
    exact ⟨k, rfl⟩
  obtain ⟨k1, rfl⟩ : ∃ k, v1 = .int .i64 k := by
    obtain ⟨k, rfl, _⟩ := okWide_int Try.underlying3 (hval 1 3 v1 rfl rfl)
    exact ⟨k, rfl⟩
  have hG : ∀ hs, Sat hs [HL.base hs'] → hs[0]? = some (some (HB.gint 0)) := fun hs h => h.base_get (by rw [x2]; rfl)
  refine (HC.below (us := [.int .i64 k0, .int .i64 k1, v2]) x3 (by simp only [RelL]; exact ⟨_, _, rfl, rfl, _, _, rfl, rfl, _, _, rfl, x5, rfl⟩) x4 (law3 (Sat.base_of hs') hG (fun hs h => x6.base h) k0 k1)).mono fun e M' ⟨he, hb⟩ => ?_
  subst he
  exact ⟨_, rfl, law_post (s := Rows.intakeScriptSpec) (tb := 4) laidOut rfl Try.underlying4 (by kernel_rfl) (by kernel_rfl) hW' rfl hb⟩

theorem intakeScript_holds : Rows.IntakeScriptSaid :=
  OpenClaim.holds_of_wide 3 Try.f3 rfl rfl rfl rfl rfl rfl rfl ⟨rfl, rfl, rfl, rfl, rfl⟩ rfl rfl rfl rfl rfl (by kernel_rfl) Try.func3 (by kernel_rfl)
    (of_decide_eq_true (by kernel_rfl)) (by unfold Func.isWrapper; first | (rw [if_pos (by decide +kernel)]; kernel_rfl) | (rw [if_neg (by decide +kernel)]; exact ⟨rfl, rfl⟩))
    (fun os started H enc _ => script_lifted os started H enc)
#print axioms intakeScript_holds
end Go.Proofs.Ytccfcegmaejlnaa
