/-
  intake: New, Held, Body, Clone, Next of any intake.
  stintlaw06: what the statements share: places among some, the bound of what comes, what is shown at the head.
  intake, plainly: how little is held, how much is told.
  stintlaw06: what the statements about parts and cuts share.
  intake, plainly: what is said part by part is told part by part.
-/
import Derived.Test.YtccfcegmaejlnaaKP1
import Derived.Test.YtccfcegmaejlnaaHLFlat
namespace Go.Proofs.Ytccfcegmaejlnaa
open Go Go.HL
set_option maxRecDepth 100000
set_option maxHeartbeats 40000000
set_option linter.unusedSimpArgs false
attribute [local irreducible] pt My Ex Vw Gr GrK each grp exs Sat takeCells happend hbuildSlice hstore hbox hslice hmakeSlice hs2b hcopy HL.unit opC
def InP (p : Nat) (s : St) : SA := exs fun v => grp [pt p (.cells 1 (s.cells v) false false []), My 1 v s.held.length (bcells s.held)]
theorem in_open {hs : HS} {l : List SA} {p : Nat} {s : St} : Sat hs (InP p s :: l) ↔ ∃ v, Sat hs (pt p (.cells 1 (s.cells v) false false []) :: My 1 v s.held.length (bcells s.held) :: l) := by
  unfold InP
  rw [Sat.exs_iff]
  exact exists_congr fun v => Sat.grp_iff
theorem held14 {hs : HS} {l : List SA} {p : Nat} {s : St} (H : Sat hs (InP p s :: l)) : HC Try.prog 14 [.ptr p 0] hs fun v hs' => v = .int .i64 (s.held.length : Nat) ∧ hs' = hs := by
  obtain ⟨v, H⟩ := in_open.1 H
  simp only [St.cells] at H
  refine HC.wp mixed Try.func14 c14 ?_
  first | have f0 := Sat.pf (H) | have f0 := trivial
  first | have f1 := Sat.pf (H.t) | have f1 := trivial
  first | have f2 := Sat.pf (H.t.t) | have f2 := trivial
  first | have f3 := Sat.pf (H.t.t.t) | have f3 := trivial
  first | have f4 := Sat.pf (H.t.t.t.t) | have f4 := trivial
  first | have f5 := Sat.pf (H.t.t.t.t.t) | have f5 := trivial
  first | have f6 := Sat.pf (H.t.t.t.t.t.t) | have f6 := trivial
  first | have f7 := Sat.pf (H.t.t.t.t.t.t.t) | have f7 := trivial
  repeat' first
    | ((with_reducible show Need _); refine need_of ?_; (first | have f0 := Sat.pf (H) | have f0 := trivial); (first | have f1 := Sat.pf (H.t) | have f1 := trivial); (first | have f2 := Sat.pf (H.t.t) | have f2 := trivial); (first | have f3 := Sat.pf (H.t.t.t) | have f3 := trivial); (first | have f4 := Sat.pf (H.t.t.t.t) | have f4 := trivial); (first | have f5 := Sat.pf (H.t.t.t.t.t) | have f5 := trivial); (first | have f6 := Sat.pf (H.t.t.t.t.t.t) | have f6 := trivial); (first | have f7 := Sat.pf (H.t.t.t.t.t.t.t) | have f7 := trivial))
    | simp -implicitDefEqProofs (disch := first | omega | decide | exact rfl | assumption | exact Nat.le_of_ble_eq_true rfl | exact One.c | exact One.o) only [vsA, vsB, eq_self, if_true, if_false, implies_true, false_implies, evp, HX.ev, Nat.reduceAdd, HOp.looks, Nat.reduceEqDiff, overw, Nat.reduceBEq, h14, f0, f1, f2, f3, f4, f5, f6, f7, frame0, List.replicate, Nat.sub]
    | (refine condK_cases (fun h => ?_) (fun h => ?_) <;> (try simp only [h]) <;> (try simp only [athA, ne_eq] at h) <;> (try (exfalso; omega)))
    | (refine guardK_cases (fun h => ?_) (fun h => ?_) <;> (try simp only [h]) <;> (try simp only [athA, ne_eq] at h) <;> (try (exfalso; omega)))
    | (refine dgK_cases (fun h => ?_) (fun h => ?_) <;> (try simp only [h]) <;> (try simp only [athA, ne_eq] at h) <;> (try (exfalso; omega)))
    | (clear H f0 f1 f2 f3 f4 f5 f6 f7; (with_reducible intro v2 hs H); (try simp only [setA, overw, Nat.reduceAdd] at H); refine need ?_)
    | refine opC_K ?_
    | refine opC_D ?_
    | ((with_reducible show opC (unit (hstore _ _ _ _)) _); refine sl_store1 (by with_reducible first | exact H | exact H.p1 | exact H.p2 | exact H.p3 | exact H.p4 | exact H.p5 | exact H.p6 | exact H.p7) (Nat.le_of_ble_eq_true rfl) (by first | exact rfl | (simp only [f0, f1, f2, f3, f4, f5, f6, f7]; done) | (simp only [onA, *]; done)) (by first | exact rfl | (simp only [f0, f1, f2, f3, f4, f5, f6, f7]; done) | (simp only [onA, *]; done)) ?_)
    | ((with_reducible show opC (unit (hstore _ _ _ _)) _); refine sl_storeN (by with_reducible first | exact H | exact H.p1 | exact H.p2 | exact H.p3 | exact H.p4 | exact H.p5 | exact H.p6 | exact H.p7) rfl (Nat.le_of_ble_eq_true rfl) (by first | exact rfl | (simp only [f0, f1, f2, f3, f4, f5, f6, f7]; done) | (simp only [onA, *]; done)) ?_)
    | ((with_reducible show opC (happend _ _ _ _ _) _); refine sl_append (by with_reducible first | exact H | exact H.p1 | exact H.p2 | exact H.p3 | exact H.p4 | exact H.p5 | exact H.p6 | exact H.p7) (by first | assumption | with_reducible first | exact f0.2.1 | exact f1.2.1 | exact f2.2.1 | exact f3.2.1 | exact f4.2.1 | exact f5.2.1 | exact f6.2.1 | exact f7.2.1 | exact va_takeS) (by first | exact roomFor_of (by omega) | exact roomFor_wide (by omega)) (by omega) ?_)
    | ((with_reducible show opC (happend _ _ _ _ _) _); refine sl_append0X H (by first | assumption | with_reducible first | exact f0.2.1 | exact f1.2.1 | exact f2.2.1 | exact f3.2.1 | exact f4.2.1 | exact f5.2.1 | exact f6.2.1 | exact f7.2.1 | exact va_takeS) (by first | exact roomFor_of (by omega) | exact roomFor_wide (by omega)) (by omega) ?_)
    | ((with_reducible show opC (happend _ _ _ _ _) _); refine sl_appendX (by with_reducible first | exact H | exact H.p1 | exact H.p2 | exact H.p3 | exact H.p4 | exact H.p5 | exact H.p6 | exact H.p7) (by first | assumption | with_reducible first | exact f0.2.1 | exact f1.2.1 | exact f2.2.1 | exact f3.2.1 | exact f4.2.1 | exact f5.2.1 | exact f6.2.1 | exact f7.2.1 | exact va_takeS) (by first | exact roomFor_of (by omega) | exact roomFor_wide (by omega)) (by omega) ?_)
    | ((with_reducible show opC (hbuildSlice _ _ _ _ _) _); refine sl_bslice1 H rfl (by first | exact rfl | (simp only [f0, f1, f2, f3, f4, f5, f6, f7]; done) | (simp only [onA, *]; done)) (by first | exact rfl | (simp only [f0, f1, f2, f3, f4, f5, f6, f7]; done) | (simp only [onA, *]; done)) ?_)
    | ((with_reducible show opC (hbox _ _) _); refine sl_box1 H (by first | exact rfl | (simp only [f0, f1, f2, f3, f4, f5, f6, f7]; done) | (simp only [onA, *]; done)) (by first | exact rfl | (simp only [f0, f1, f2, f3, f4, f5, f6, f7]; done) | (simp only [onA, *]; done)) ?_)
    | ((with_reducible show opC (hbox _ _) _); refine sl_boxA H (by first | exact rfl | (simp only [f0, f1, f2, f3, f4, f5, f6, f7]; done) | (simp only [onA, *]; done)) ?_)
    | refine hwp_draw mixed rfl ?_
    | with_reducible intro hy

theorem feedP {hs : HS} {l : List SA} {p : Nat} {s : St} {b : HV} {bs : List UInt8} (H : Sat hs (InP p s :: l)) (R : Rdl l b bs.length (bcells bs)) (hb : s.held.length + bs.length < 46116860184) (hl : s.left < 4611686018427387904) :
    HC Try.prog 18 [.ptr p 0, b] hs fun _ hs' => Sat hs' (InP p (feedF s bs) :: l) := by
  obtain ⟨v, H⟩ := in_open.1 H
  exact (feed18 H (fun _ _ h => h) (fun _ h => R _ h.t) hb hl).mono fun _ _ ⟨v', h⟩ => in_open.2 ⟨v', h⟩
def newS (m : Nat) : St := ⟨m, 0, [], 0, 0, false, false⟩
theorem new17 {hs : HS} {l : List SA} (H : Sat hs l) (m : Int) :
    HC Try.prog 17 [.int .i64 m] hs fun v hs' => if m < 1 ∨ 65535 < m then v = .tup [.nilPtr, .int .i64 60] ∧ Sat hs' l else ∃ p, v = .tup [.ptr p 0, .int .i64 0] ∧ Sat hs' (InP p (newS m.toNat) :: l) := by
  refine HC.wp mixed Try.func17 c17 ?_
  first | have f0 := Sat.pf (H) | have f0 := trivial
  first | have f1 := Sat.pf (H.t) | have f1 := trivial
  first | have f2 := Sat.pf (H.t.t) | have f2 := trivial
  first | have f3 := Sat.pf (H.t.t.t) | have f3 := trivial
  first | have f4 := Sat.pf (H.t.t.t.t) | have f4 := trivial
  first | have f5 := Sat.pf (H.t.t.t.t.t) | have f5 := trivial
  first | have f6 := Sat.pf (H.t.t.t.t.t.t) | have f6 := trivial
  first | have f7 := Sat.pf (H.t.t.t.t.t.t.t) | have f7 := trivial
  repeat' first
    | ((with_reducible show Need _); refine need_of ?_; (first | have f0 := Sat.pf (H) | have f0 := trivial); (first | have f1 := Sat.pf (H.t) | have f1 := trivial); (first | have f2 := Sat.pf (H.t.t) | have f2 := trivial); (first | have f3 := Sat.pf (H.t.t.t) | have f3 := trivial); (first | have f4 := Sat.pf (H.t.t.t.t) | have f4 := trivial); (first | have f5 := Sat.pf (H.t.t.t.t.t) | have f5 := trivial); (first | have f6 := Sat.pf (H.t.t.t.t.t.t) | have f6 := trivial); (first | have f7 := Sat.pf (H.t.t.t.t.t.t.t) | have f7 := trivial))
    | simp -implicitDefEqProofs (disch := first | omega | decide | exact rfl | assumption | exact Nat.le_of_ble_eq_true rfl | exact One.c | exact One.o) only [vsA, vsB, eq_self, if_true, if_false, implies_true, false_implies, evp, HX.ev, Nat.reduceAdd, HOp.looks, Nat.reduceEqDiff, overw, Nat.reduceBEq, h17, ub17, f0, f1, f2, f3, f4, f5, f6, f7, frame0, List.replicate, Nat.sub]
    | (refine condK_cases (fun h => ?_) (fun h => ?_) <;> (try simp only [h]) <;> (try simp only [athA, ne_eq] at h) <;> (try (exfalso; omega)))
    | (refine guardK_cases (fun h => ?_) (fun h => ?_) <;> (try simp only [h]) <;> (try simp only [athA, ne_eq] at h) <;> (try (exfalso; omega)))
    | (refine dgK_cases (fun h => ?_) (fun h => ?_) <;> (try simp only [h]) <;> (try simp only [athA, ne_eq] at h) <;> (try (exfalso; omega)))
    | (clear H f0 f1 f2 f3 f4 f5 f6 f7; (with_reducible intro v2 hs H); (try simp only [setA, overw, Nat.reduceAdd] at H); refine need ?_)
    | refine opC_K ?_
    | refine opC_D ?_
    | ((with_reducible show opC (unit (hstore _ _ _ _)) _); refine sl_store1 (by with_reducible first | exact H | exact H.p1 | exact H.p2 | exact H.p3 | exact H.p4 | exact H.p5 | exact H.p6 | exact H.p7) (Nat.le_of_ble_eq_true rfl) (by first | exact rfl | (simp only [f0, f1, f2, f3, f4, f5, f6, f7]; done) | (simp only [onA, *]; done)) (by first | exact rfl | (simp only [f0, f1, f2, f3, f4, f5, f6, f7]; done) | (simp only [onA, *]; done)) ?_)
    | ((with_reducible show opC (unit (hstore _ _ _ _)) _); refine sl_storeN (by with_reducible first | exact H | exact H.p1 | exact H.p2 | exact H.p3 | exact H.p4 | exact H.p5 | exact H.p6 | exact H.p7) rfl (Nat.le_of_ble_eq_true rfl) (by first | exact rfl | (simp only [f0, f1, f2, f3, f4, f5, f6, f7]; done) | (simp only [onA, *]; done)) ?_)
    | ((with_reducible show opC (happend _ _ _ _ _) _); refine sl_append (by with_reducible first | exact H | exact H.p1 | exact H.p2 | exact H.p3 | exact H.p4 | exact H.p5 | exact H.p6 | exact H.p7) (by first | assumption | with_reducible first | exact f0.2.1 | exact f1.2.1 | exact f2.2.1 | exact f3.2.1 | exact f4.2.1 | exact f5.2.1 | exact f6.2.1 | exact f7.2.1 | exact va_takeS) (by first | exact roomFor_of (by omega) | exact roomFor_wide (by omega)) (by omega) ?_)
    | ((with_reducible show opC (happend _ _ _ _ _) _); refine sl_append0X H (by first | assumption | with_reducible first | exact f0.2.1 | exact f1.2.1 | exact f2.2.1 | exact f3.2.1 | exact f4.2.1 | exact f5.2.1 | exact f6.2.1 | exact f7.2.1 | exact va_takeS) (by first | exact roomFor_of (by omega) | exact roomFor_wide (by omega)) (by omega) ?_)
    | ((with_reducible show opC (happend _ _ _ _ _) _); refine sl_appendX (by with_reducible first | exact H | exact H.p1 | exact H.p2 | exact H.p3 | exact H.p4 | exact H.p5 | exact H.p6 | exact H.p7) (by first | assumption | with_reducible first | exact f0.2.1 | exact f1.2.1 | exact f2.2.1 | exact f3.2.1 | exact f4.2.1 | exact f5.2.1 | exact f6.2.1 | exact f7.2.1 | exact va_takeS) (by first | exact roomFor_of (by omega) | exact roomFor_wide (by omega)) (by omega) ?_)
    | ((with_reducible show opC (hbuildSlice _ _ _ _ _) _); refine sl_bslice1 H rfl (by first | exact rfl | (simp only [f0, f1, f2, f3, f4, f5, f6, f7]; done) | (simp only [onA, *]; done)) (by first | exact rfl | (simp only [f0, f1, f2, f3, f4, f5, f6, f7]; done) | (simp only [onA, *]; done)) ?_)
    | ((with_reducible show opC (hbox _ _) _); refine sl_box1 H (by first | exact rfl | (simp only [f0, f1, f2, f3, f4, f5, f6, f7]; done) | (simp only [onA, *]; done)) (by first | exact rfl | (simp only [f0, f1, f2, f3, f4, f5, f6, f7]; done) | (simp only [onA, *]; done)) ?_)
    | ((with_reducible show opC (hbox _ _) _); refine sl_boxA H (by first | exact rfl | (simp only [f0, f1, f2, f3, f4, f5, f6, f7]; done) | (simp only [onA, *]; done)) ?_)
    | refine hwp_draw mixed rfl ?_
    | with_reducible intro hy

  iterate 2
    · rw [if_pos (by omega)]; exact H
  rw [if_neg (by omega)]
  obtain ⟨k, rfl⟩ := Int.eq_ofNat_of_zero_le (show 0 ≤ m by omega)
  exact ⟨_, rfl, in_open.2 ⟨.nilSlice, H.own0.p1⟩⟩
def bodyS (s : St) (n : Int) : St × Int :=
  if n < 0 ∨ 4294967295 < n ∨ s.st ≠ 0 then (s, 61)
  else if n ≤ (s.most : Nat) then ({ s with st := 2, size := n.toNat }, 0)
  else ({ s with st := 3, left := n.toNat + 2 - min (n.toNat + 2) s.held.length, held := s.held.drop (min (n.toNat + 2) s.held.length) }, 0)
theorem body27 {hs : HS} {l : List SA} {p : Nat} {s : St} (H : Sat hs (InP p s :: l)) (n : Int) (hb : s.held.length < 46116860184) :
    HC Try.prog 27 [.ptr p 0, .int .i64 n] hs fun v hs' => v = .int .i64 (bodyS s n).2 ∧ Sat hs' (InP p (bodyS s n).1 :: l) := by
  obtain ⟨v, H⟩ := in_open.1 H
  obtain ⟨most, st, held, size, left, half, ended⟩ := s
  simp only [St.cells] at H hb
  refine HC.wp mixed Try.func27 c27 ?_
  first | have f0 := Sat.pf (H) | have f0 := trivial
  first | have f1 := Sat.pf (H.t) | have f1 := trivial
  first | have f2 := Sat.pf (H.t.t) | have f2 := trivial
  first | have f3 := Sat.pf (H.t.t.t) | have f3 := trivial
  first | have f4 := Sat.pf (H.t.t.t.t) | have f4 := trivial
  first | have f5 := Sat.pf (H.t.t.t.t.t) | have f5 := trivial
  first | have f6 := Sat.pf (H.t.t.t.t.t.t) | have f6 := trivial
  first | have f7 := Sat.pf (H.t.t.t.t.t.t.t) | have f7 := trivial
  by_cases hn : 0 ≤ n ∧ n ≤ 4294967295
  · obtain ⟨k, rfl⟩ := Int.eq_ofNat_of_zero_le hn.1
    repeat' first
      | ((with_reducible show Need _); refine need_of ?_; (first | have f0 := Sat.pf (H) | have f0 := trivial); (first | have f1 := Sat.pf (H.t) | have f1 := trivial); (first | have f2 := Sat.pf (H.t.t) | have f2 := trivial); (first | have f3 := Sat.pf (H.t.t.t) | have f3 := trivial); (first | have f4 := Sat.pf (H.t.t.t.t) | have f4 := trivial); (first | have f5 := Sat.pf (H.t.t.t.t.t) | have f5 := trivial); (first | have f6 := Sat.pf (H.t.t.t.t.t.t) | have f6 := trivial); (first | have f7 := Sat.pf (H.t.t.t.t.t.t.t) | have f7 := trivial))
      | simp -implicitDefEqProofs (disch := first | omega | decide | exact rfl | assumption | exact Nat.le_of_ble_eq_true rfl | exact One.c | exact One.o) only [vsA, vsB, eq_self, if_true, if_false, implies_true, false_implies, evp, HX.ev, Nat.reduceAdd, HOp.looks, Nat.reduceEqDiff, overw, Nat.reduceBEq, h27, ub27, f0, f1, f2, f3, f4, f5, f6, f7, frame0, List.replicate, Nat.sub]
      | (refine condK_cases (fun h => ?_) (fun h => ?_) <;> (try simp only [h]) <;> (try simp only [athA, ne_eq] at h) <;> (try (exfalso; omega)))
      | (refine guardK_cases (fun h => ?_) (fun h => ?_) <;> (try simp only [h]) <;> (try simp only [athA, ne_eq] at h) <;> (try (exfalso; omega)))
      | (refine dgK_cases (fun h => ?_) (fun h => ?_) <;> (try simp only [h]) <;> (try simp only [athA, ne_eq] at h) <;> (try (exfalso; omega)))
      | (clear H f0 f1 f2 f3 f4 f5 f6 f7; (with_reducible intro v2 hs H); (try simp only [setA, overw, Nat.reduceAdd] at H); refine need ?_)
      | ((with_reducible show actK _ (HAct.call (HX.cst (HV.func (Fn.func 37) _ _)) _) _ _ _ _ _); refine vcall_of ok37 rfl (skip37 H (fun _ h => h.rd) (by omega) (by omega)) ?_;  clear H f0 f1 f2 f3 f4 f5 f6 f7; rintro w hs ⟨H, Rw, hw⟩; have H := (H.p1.cut (Lo.some (k := .i64)) Hi.none (by omega) (by omega) hw).p1; refine need ?_)
      | ((with_reducible show drK _ _ _ _ _ _ _ _ _ (some ⟨_, HAct.call (HX.cst (HV.func (Fn.func 37) _ _)) _, none⟩)); refine vdr_call ok37 rfl (skip37 H (fun _ h => h.rd) (by omega) (by omega)) ?_;  clear H f0 f1 f2 f3 f4 f5 f6 f7; rintro w hs ⟨H, Rw, hw⟩; have H := (H.p1.cut (Lo.some (k := .i64)) Hi.none (by omega) (by omega) hw).p1; refine need ?_)
      | refine opC_K ?_
      | refine opC_D ?_
      | ((with_reducible show opC (unit (hstore _ _ _ _)) _); refine sl_store1 (by with_reducible first | exact H | exact H.p1 | exact H.p2 | exact H.p3 | exact H.p4 | exact H.p5 | exact H.p6 | exact H.p7) (Nat.le_of_ble_eq_true rfl) (by first | exact rfl | (simp only [f0, f1, f2, f3, f4, f5, f6, f7]; done) | (simp only [onA, *]; done)) (by first | exact rfl | (simp only [f0, f1, f2, f3, f4, f5, f6, f7]; done) | (simp only [onA, *]; done)) ?_)
      | ((with_reducible show opC (unit (hstore _ _ _ _)) _); refine sl_storeN (by with_reducible first | exact H | exact H.p1 | exact H.p2 | exact H.p3 | exact H.p4 | exact H.p5 | exact H.p6 | exact H.p7) rfl (Nat.le_of_ble_eq_true rfl) (by first | exact rfl | (simp only [f0, f1, f2, f3, f4, f5, f6, f7]; done) | (simp only [onA, *]; done)) ?_)
      | ((with_reducible show opC (happend _ _ _ _ _) _); refine sl_append (by with_reducible first | exact H | exact H.p1 | exact H.p2 | exact H.p3 | exact H.p4 | exact H.p5 | exact H.p6 | exact H.p7) (by first | assumption | with_reducible first | exact f0.2.1 | exact f1.2.1 | exact f2.2.1 | exact f3.2.1 | exact f4.2.1 | exact f5.2.1 | exact f6.2.1 | exact f7.2.1 | exact va_takeS) (by first | exact roomFor_of (by omega) | exact roomFor_wide (by omega)) (by omega) ?_)
      | ((with_reducible show opC (happend _ _ _ _ _) _); refine sl_append0X H (by first | assumption | with_reducible first | exact f0.2.1 | exact f1.2.1 | exact f2.2.1 | exact f3.2.1 | exact f4.2.1 | exact f5.2.1 | exact f6.2.1 | exact f7.2.1 | exact va_takeS) (by first | exact roomFor_of (by omega) | exact roomFor_wide (by omega)) (by omega) ?_)
      | ((with_reducible show opC (happend _ _ _ _ _) _); refine sl_appendX (by with_reducible first | exact H | exact H.p1 | exact H.p2 | exact H.p3 | exact H.p4 | exact H.p5 | exact H.p6 | exact H.p7) (by first | assumption | with_reducible first | exact f0.2.1 | exact f1.2.1 | exact f2.2.1 | exact f3.2.1 | exact f4.2.1 | exact f5.2.1 | exact f6.2.1 | exact f7.2.1 | exact va_takeS) (by first | exact roomFor_of (by omega) | exact roomFor_wide (by omega)) (by omega) ?_)
      | ((with_reducible show opC (hbuildSlice _ _ _ _ _) _); refine sl_bslice1 H rfl (by first | exact rfl | (simp only [f0, f1, f2, f3, f4, f5, f6, f7]; done) | (simp only [onA, *]; done)) (by first | exact rfl | (simp only [f0, f1, f2, f3, f4, f5, f6, f7]; done) | (simp only [onA, *]; done)) ?_)
      | ((with_reducible show opC (hbox _ _) _); refine sl_box1 H (by first | exact rfl | (simp only [f0, f1, f2, f3, f4, f5, f6, f7]; done) | (simp only [onA, *]; done)) (by first | exact rfl | (simp only [f0, f1, f2, f3, f4, f5, f6, f7]; done) | (simp only [onA, *]; done)) ?_)
      | ((with_reducible show opC (hbox _ _) _); refine sl_boxA H (by first | exact rfl | (simp only [f0, f1, f2, f3, f4, f5, f6, f7]; done) | (simp only [onA, *]; done)) ?_)
      | refine hwp_draw mixed rfl ?_
      | with_reducible intro hy

    · have e : bodyS ⟨most, st, held, size, left, half, ended⟩ (k : Nat) = (⟨most, st, held, size, left, half, ended⟩, 61) := if_pos (.inr (.inr (by simp only; omega)))
      rw [e]
      exact ⟨rfl, in_open.2 ⟨_, H⟩⟩
    · have e : bodyS ⟨most, st, held, size, left, half, ended⟩ (k : Nat) = (⟨most, 2, held, k, left, half, ended⟩, 0) := (if_neg (by simp only; omega)).trans (if_pos (by simp only; omega))
      rw [e]
      exact ⟨rfl, in_open.2 ⟨_, H⟩⟩
    · have e : bodyS ⟨most, st, held, size, left, half, ended⟩ (k : Nat) = (⟨most, 3, held.drop (min (k + 2) held.length), size, k + 2 - min (k + 2) held.length, half, ended⟩, 0) := (if_neg (by simp only; omega)).trans (if_neg (by simp only; omega))
      rw [e]
      refine ⟨rfl, in_open.2 ⟨w, ?_⟩⟩
      rw [Nat.mul_one, Nat.mul_one, bc_drop, bc_take, List.take_of_length_le (by simp)] at H
      simp only [List.length_drop]
      exact H
  · skip
    repeat' first
      | ((with_reducible show Need _); refine need_of ?_; (first | have f0 := Sat.pf (H) | have f0 := trivial); (first | have f1 := Sat.pf (H.t) | have f1 := trivial); (first | have f2 := Sat.pf (H.t.t) | have f2 := trivial); (first | have f3 := Sat.pf (H.t.t.t) | have f3 := trivial); (first | have f4 := Sat.pf (H.t.t.t.t) | have f4 := trivial); (first | have f5 := Sat.pf (H.t.t.t.t.t) | have f5 := trivial); (first | have f6 := Sat.pf (H.t.t.t.t.t.t) | have f6 := trivial); (first | have f7 := Sat.pf (H.t.t.t.t.t.t.t) | have f7 := trivial))
      | simp -implicitDefEqProofs (disch := first | omega | decide | exact rfl | assumption | exact Nat.le_of_ble_eq_true rfl | exact One.c | exact One.o) only [vsA, vsB, eq_self, if_true, if_false, implies_true, false_implies, evp, HX.ev, Nat.reduceAdd, HOp.looks, Nat.reduceEqDiff, overw, Nat.reduceBEq, h27, ub27, f0, f1, f2, f3, f4, f5, f6, f7, frame0, List.replicate, Nat.sub]
      | (refine condK_cases (fun h => ?_) (fun h => ?_) <;> (try simp only [h]) <;> (try simp only [athA, ne_eq] at h) <;> (try (exfalso; omega)))
      | (refine guardK_cases (fun h => ?_) (fun h => ?_) <;> (try simp only [h]) <;> (try simp only [athA, ne_eq] at h) <;> (try (exfalso; omega)))
      | (refine dgK_cases (fun h => ?_) (fun h => ?_) <;> (try simp only [h]) <;> (try simp only [athA, ne_eq] at h) <;> (try (exfalso; omega)))
      | (clear H f0 f1 f2 f3 f4 f5 f6 f7; (with_reducible intro v2 hs H); (try simp only [setA, overw, Nat.reduceAdd] at H); refine need ?_)
      | refine opC_K ?_
      | refine opC_D ?_
      | ((with_reducible show opC (unit (hstore _ _ _ _)) _); refine sl_store1 (by with_reducible first | exact H | exact H.p1 | exact H.p2 | exact H.p3 | exact H.p4 | exact H.p5 | exact H.p6 | exact H.p7) (Nat.le_of_ble_eq_true rfl) (by first | exact rfl | (simp only [f0, f1, f2, f3, f4, f5, f6, f7]; done) | (simp only [onA, *]; done)) (by first | exact rfl | (simp only [f0, f1, f2, f3, f4, f5, f6, f7]; done) | (simp only [onA, *]; done)) ?_)
      | ((with_reducible show opC (unit (hstore _ _ _ _)) _); refine sl_storeN (by with_reducible first | exact H | exact H.p1 | exact H.p2 | exact H.p3 | exact H.p4 | exact H.p5 | exact H.p6 | exact H.p7) rfl (Nat.le_of_ble_eq_true rfl) (by first | exact rfl | (simp only [f0, f1, f2, f3, f4, f5, f6, f7]; done) | (simp only [onA, *]; done)) ?_)
      | ((with_reducible show opC (happend _ _ _ _ _) _); refine sl_append (by with_reducible first | exact H | exact H.p1 | exact H.p2 | exact H.p3 | exact H.p4 | exact H.p5 | exact H.p6 | exact H.p7) (by first | assumption | with_reducible first | exact f0.2.1 | exact f1.2.1 | exact f2.2.1 | exact f3.2.1 | exact f4.2.1 | exact f5.2.1 | exact f6.2.1 | exact f7.2.1 | exact va_takeS) (by first | exact roomFor_of (by omega) | exact roomFor_wide (by omega)) (by omega) ?_)
      | ((with_reducible show opC (happend _ _ _ _ _) _); refine sl_append0X H (by first | assumption | with_reducible first | exact f0.2.1 | exact f1.2.1 | exact f2.2.1 | exact f3.2.1 | exact f4.2.1 | exact f5.2.1 | exact f6.2.1 | exact f7.2.1 | exact va_takeS) (by first | exact roomFor_of (by omega) | exact roomFor_wide (by omega)) (by omega) ?_)
      | ((with_reducible show opC (happend _ _ _ _ _) _); refine sl_appendX (by with_reducible first | exact H | exact H.p1 | exact H.p2 | exact H.p3 | exact H.p4 | exact H.p5 | exact H.p6 | exact H.p7) (by first | assumption | with_reducible first | exact f0.2.1 | exact f1.2.1 | exact f2.2.1 | exact f3.2.1 | exact f4.2.1 | exact f5.2.1 | exact f6.2.1 | exact f7.2.1 | exact va_takeS) (by first | exact roomFor_of (by omega) | exact roomFor_wide (by omega)) (by omega) ?_)
      | ((with_reducible show opC (hbuildSlice _ _ _ _ _) _); refine sl_bslice1 H rfl (by first | exact rfl | (simp only [f0, f1, f2, f3, f4, f5, f6, f7]; done) | (simp only [onA, *]; done)) (by first | exact rfl | (simp only [f0, f1, f2, f3, f4, f5, f6, f7]; done) | (simp only [onA, *]; done)) ?_)
      | ((with_reducible show opC (hbox _ _) _); refine sl_box1 H (by first | exact rfl | (simp only [f0, f1, f2, f3, f4, f5, f6, f7]; done) | (simp only [onA, *]; done)) (by first | exact rfl | (simp only [f0, f1, f2, f3, f4, f5, f6, f7]; done) | (simp only [onA, *]; done)) ?_)
      | ((with_reducible show opC (hbox _ _) _); refine sl_boxA H (by first | exact rfl | (simp only [f0, f1, f2, f3, f4, f5, f6, f7]; done) | (simp only [onA, *]; done)) ?_)
      | refine hwp_draw mixed rfl ?_
      | with_reducible intro hy

    all_goals
      have e : bodyS ⟨most, st, held, size, left, half, ended⟩ n = (⟨most, st, held, size, left, half, ended⟩, 61) := if_pos (by omega)
      rw [e]
      exact ⟨rfl, in_open.2 ⟨_, H⟩⟩
theorem clone28 {hs : HS} {l : List SA} {p : Nat} {s : St} (H : Sat hs (InP p s :: l)) (hb : s.held.length < 46116860184) :
    HC Try.prog 28 [.ptr p 0] hs fun v hs' => ∃ q, v = .ptr q 0 ∧ Sat hs' (InP q s :: InP p s :: l) := by
  obtain ⟨v, H⟩ := in_open.1 H
  obtain ⟨most, st, held, size, left, half, ended⟩ := s
  simp only [St.cells] at H hb
  refine HC.wp mixed Try.func28 c28 ?_
  first | have f0 := Sat.pf (H) | have f0 := trivial
  first | have f1 := Sat.pf (H.t) | have f1 := trivial
  first | have f2 := Sat.pf (H.t.t) | have f2 := trivial
  first | have f3 := Sat.pf (H.t.t.t) | have f3 := trivial
  first | have f4 := Sat.pf (H.t.t.t.t) | have f4 := trivial
  first | have f5 := Sat.pf (H.t.t.t.t.t) | have f5 := trivial
  first | have f6 := Sat.pf (H.t.t.t.t.t.t) | have f6 := trivial
  first | have f7 := Sat.pf (H.t.t.t.t.t.t.t) | have f7 := trivial
  repeat' first
    | ((with_reducible show Need _); refine need_of ?_; (first | have f0 := Sat.pf (H) | have f0 := trivial); (first | have f1 := Sat.pf (H.t) | have f1 := trivial); (first | have f2 := Sat.pf (H.t.t) | have f2 := trivial); (first | have f3 := Sat.pf (H.t.t.t) | have f3 := trivial); (first | have f4 := Sat.pf (H.t.t.t.t) | have f4 := trivial); (first | have f5 := Sat.pf (H.t.t.t.t.t) | have f5 := trivial); (first | have f6 := Sat.pf (H.t.t.t.t.t.t) | have f6 := trivial); (first | have f7 := Sat.pf (H.t.t.t.t.t.t.t) | have f7 := trivial))
    | simp -implicitDefEqProofs (disch := first | omega | decide | exact rfl | assumption | exact Nat.le_of_ble_eq_true rfl | exact One.c | exact One.o) only [vsA, vsB, eq_self, if_true, if_false, implies_true, false_implies, evp, HX.ev, Nat.reduceAdd, HOp.looks, Nat.reduceEqDiff, overw, Nat.reduceBEq, h28, ub28, f0, f1, f2, f3, f4, f5, f6, f7, frame0, List.replicate, Nat.sub]
    | (refine condK_cases (fun h => ?_) (fun h => ?_) <;> (try simp only [h]) <;> (try simp only [athA, ne_eq] at h) <;> (try (exfalso; omega)))
    | (refine guardK_cases (fun h => ?_) (fun h => ?_) <;> (try simp only [h]) <;> (try simp only [athA, ne_eq] at h) <;> (try (exfalso; omega)))
    | (refine dgK_cases (fun h => ?_) (fun h => ?_) <;> (try simp only [h]) <;> (try simp only [athA, ne_eq] at h) <;> (try (exfalso; omega)))
    | (clear H f0 f1 f2 f3 f4 f5 f6 f7; (with_reducible intro v2 hs H); (try simp only [setA, overw, Nat.reduceAdd] at H); refine need ?_)
    | ((with_reducible show actK _ (HAct.call (HX.cst (HV.func (Fn.func 41) _ _)) _) _ _ _ _ _); refine vcall_of ok41 rfl (clone41 H (fun _ h => h.t.t.rd) (by omega)) ?_;  clear H f0 f1 f2 f3 f4 f5 f6 f7; rintro w hs H; refine need ?_)
    | ((with_reducible show drK _ _ _ _ _ _ _ _ _ (some ⟨_, HAct.call (HX.cst (HV.func (Fn.func 41) _ _)) _, none⟩)); refine vdr_call ok41 rfl (clone41 H (fun _ h => h.t.t.rd) (by omega)) ?_;  clear H f0 f1 f2 f3 f4 f5 f6 f7; rintro w hs H; refine need ?_)
    | refine opC_K ?_
    | refine opC_D ?_
    | ((with_reducible show opC (unit (hstore _ _ _ _)) _); refine sl_store1 (by with_reducible first | exact H | exact H.p1 | exact H.p2 | exact H.p3 | exact H.p4 | exact H.p5 | exact H.p6 | exact H.p7) (Nat.le_of_ble_eq_true rfl) (by first | exact rfl | (simp only [f0, f1, f2, f3, f4, f5, f6, f7]; done) | (simp only [onA, *]; done)) (by first | exact rfl | (simp only [f0, f1, f2, f3, f4, f5, f6, f7]; done) | (simp only [onA, *]; done)) ?_)
    | ((with_reducible show opC (unit (hstore _ _ _ _)) _); refine sl_storeN (by with_reducible first | exact H | exact H.p1 | exact H.p2 | exact H.p3 | exact H.p4 | exact H.p5 | exact H.p6 | exact H.p7) rfl (Nat.le_of_ble_eq_true rfl) (by first | exact rfl | (simp only [f0, f1, f2, f3, f4, f5, f6, f7]; done) | (simp only [onA, *]; done)) ?_)
    | ((with_reducible show opC (happend _ _ _ _ _) _); refine sl_append (by with_reducible first | exact H | exact H.p1 | exact H.p2 | exact H.p3 | exact H.p4 | exact H.p5 | exact H.p6 | exact H.p7) (by first | assumption | with_reducible first | exact f0.2.1 | exact f1.2.1 | exact f2.2.1 | exact f3.2.1 | exact f4.2.1 | exact f5.2.1 | exact f6.2.1 | exact f7.2.1 | exact va_takeS) (by first | exact roomFor_of (by omega) | exact roomFor_wide (by omega)) (by omega) ?_)
    | ((with_reducible show opC (happend _ _ _ _ _) _); refine sl_append0X H (by first | assumption | with_reducible first | exact f0.2.1 | exact f1.2.1 | exact f2.2.1 | exact f3.2.1 | exact f4.2.1 | exact f5.2.1 | exact f6.2.1 | exact f7.2.1 | exact va_takeS) (by first | exact roomFor_of (by omega) | exact roomFor_wide (by omega)) (by omega) ?_)
    | ((with_reducible show opC (happend _ _ _ _ _) _); refine sl_appendX (by with_reducible first | exact H | exact H.p1 | exact H.p2 | exact H.p3 | exact H.p4 | exact H.p5 | exact H.p6 | exact H.p7) (by first | assumption | with_reducible first | exact f0.2.1 | exact f1.2.1 | exact f2.2.1 | exact f3.2.1 | exact f4.2.1 | exact f5.2.1 | exact f6.2.1 | exact f7.2.1 | exact va_takeS) (by first | exact roomFor_of (by omega) | exact roomFor_wide (by omega)) (by omega) ?_)
    | ((with_reducible show opC (hbuildSlice _ _ _ _ _) _); refine sl_bslice1 H rfl (by first | exact rfl | (simp only [f0, f1, f2, f3, f4, f5, f6, f7]; done) | (simp only [onA, *]; done)) (by first | exact rfl | (simp only [f0, f1, f2, f3, f4, f5, f6, f7]; done) | (simp only [onA, *]; done)) ?_)
    | ((with_reducible show opC (hbox _ _) _); refine sl_box1 H (by first | exact rfl | (simp only [f0, f1, f2, f3, f4, f5, f6, f7]; done) | (simp only [onA, *]; done)) (by first | exact rfl | (simp only [f0, f1, f2, f3, f4, f5, f6, f7]; done) | (simp only [onA, *]; done)) ?_)
    | ((with_reducible show opC (hbox _ _) _); refine sl_boxA H (by first | exact rfl | (simp only [f0, f1, f2, f3, f4, f5, f6, f7]; done) | (simp only [onA, *]; done)) ?_)
    | refine hwp_draw mixed rfl ?_
    | with_reducible intro hy

  have H := Sat.my H.p3.p3.p2.p3
  exact ⟨_, rfl, in_open.2 ⟨_, (in_open.2 ⟨_, H.p1.p3.p3⟩).p2.p2⟩⟩

/-- what Next tells: kind, text, body. -/
structure It where
  kind : Int
  text : List UInt8
  body : List UInt8
def nextS (s : St) : Option It × St :=
  if s.st = 0 then
    match lineAt (s.held.take (min 224 s.held.length)) with
    | some k => (some ⟨1, s.held.take k, []⟩, { s with st := 0, held := s.held.drop (k + 2) })
    | none => if s.held.length < 224 then (none, s) else
      if (skipL false s.held).2.1 = true then (some ⟨2, [], []⟩, { s with st := 0, half := (skipL false s.held).1, ended := true, held := (skipL false s.held).2.2 })
      else (none, { s with st := 1, half := (skipL false s.held).1, ended := false, held := (skipL false s.held).2.2 })
  else if s.st = 1 then (if s.ended = true then (some ⟨2, [], []⟩, { s with st := 0 }) else (none, s))
  else if s.st = 2 then (if s.held.length < s.size + 2 then (none, s) else (some ⟨(bodyF (s.held.take (s.size + 2)) s.size).1, [], (bodyF (s.held.take (s.size + 2)) s.size).2⟩, { s with st := 0, held := s.held.drop (s.size + 2) }))
  else (if 0 < s.left then (none, s) else (some ⟨4, [], []⟩, { s with st := 0 }))
/-- the answer in memory. -/
def itV (o : Option It) (w : HV) : HV := match o with
  | none => .tup [.agg [.int .i64 0, .str [], .nilSlice], .bool false]
  | some i => .tup [.agg [.int .i64 i.kind, .str i.text, w], .bool true]
def itB (o : Option It) : List UInt8 := match o with
  | none => []
  | some i => i.body
theorem next26 {hs : HS} {l : List SA} {p : Nat} {s : St} (H : Sat hs (InP p s :: l)) (G : ∀ hs, Sat hs l → hs[0]? = some (some (HB.gint 0))) (hb : s.held.length < 4294967281) (hst : s.st ≤ 3) (hsz : s.size ≤ 4294967295) (hlf : s.left ≤ 4294967297) :
    HC Try.prog 26 [.ptr p 0] hs fun v hs' => ∃ w, v = itV (nextS s).1 w ∧ Sat hs' (InP p (nextS s).2 :: Ex 1 w (itB (nextS s).1).length (bcells (itB (nextS s).1)) :: l) := by
  obtain ⟨v, H⟩ := in_open.1 H
  obtain ⟨most, st, held, size, left, half, ended⟩ := s
  simp only [St.cells] at H hb hst hsz hlf
  refine HC.wp mixed Try.func26 c26 ?_
  first | have f0 := Sat.pf (H) | have f0 := trivial
  first | have f1 := Sat.pf (H.t) | have f1 := trivial
  first | have f2 := Sat.pf (H.t.t) | have f2 := trivial
  first | have f3 := Sat.pf (H.t.t.t) | have f3 := trivial
  first | have f4 := Sat.pf (H.t.t.t.t) | have f4 := trivial
  first | have f5 := Sat.pf (H.t.t.t.t.t) | have f5 := trivial
  first | have f6 := Sat.pf (H.t.t.t.t.t.t) | have f6 := trivial
  first | have f7 := Sat.pf (H.t.t.t.t.t.t.t) | have f7 := trivial
  have hmax : maxLen = 9223372036854775807 := rfl
  have hst4 : st = 0 ∨ st = 1 ∨ st = 2 ∨ st = 3 := by omega
  repeat' first
    | ((with_reducible show Need _); refine need_of ?_; (first | have f0 := Sat.pf (H) | have f0 := trivial); (first | have f1 := Sat.pf (H.t) | have f1 := trivial); (first | have f2 := Sat.pf (H.t.t) | have f2 := trivial); (first | have f3 := Sat.pf (H.t.t.t) | have f3 := trivial); (first | have f4 := Sat.pf (H.t.t.t.t) | have f4 := trivial); (first | have f5 := Sat.pf (H.t.t.t.t.t) | have f5 := trivial); (first | have f6 := Sat.pf (H.t.t.t.t.t.t) | have f6 := trivial); (first | have f7 := Sat.pf (H.t.t.t.t.t.t.t) | have f7 := trivial))
    | simp -implicitDefEqProofs (disch := first | omega | decide | exact rfl | assumption | exact Nat.le_of_ble_eq_true rfl | exact One.c | exact One.o) only [vsA, vsB, eq_self, if_true, if_false, implies_true, false_implies, evp, HX.ev, Nat.reduceAdd, HOp.looks, Nat.reduceEqDiff, overw, Nat.reduceBEq, h26, ub26, f0, f1, f2, f3, f4, f5, f6, f7, frame0, List.replicate, Nat.sub]
    | (refine condK_cases (fun h => ?_) (fun h => ?_) <;> (try simp only [h]) <;> (try simp only [athA, ne_eq] at h) <;> (try (exfalso; omega)))
    | (refine guardK_cases (fun h => ?_) (fun h => ?_) <;> (try simp only [h]) <;> (try simp only [athA, ne_eq] at h) <;> (try (exfalso; omega)))
    | (refine dgK_cases (fun h => ?_) (fun h => ?_) <;> (try simp only [h]) <;> (try simp only [athA, ne_eq] at h) <;> (try (exfalso; omega)))
    | (clear H f0 f1 f2 f3 f4 f5 f6 f7; (with_reducible intro v2 hs H); (try simp only [setA, overw, Nat.reduceAdd] at H); refine need ?_)
    | refine opC_K ?_
    | refine opC_D ?_
    | ((with_reducible show opC (unit (hstore _ _ _ _)) _); refine sl_store1 (by with_reducible first | exact H | exact H.p1 | exact H.p2 | exact H.p3 | exact H.p4 | exact H.p5 | exact H.p6 | exact H.p7) (Nat.le_of_ble_eq_true rfl) (by first | exact rfl | (simp only [f0, f1, f2, f3, f4, f5, f6, f7]; done) | (simp only [onA, *]; done)) (by first | exact rfl | (simp only [f0, f1, f2, f3, f4, f5, f6, f7]; done) | (simp only [onA, *]; done)) ?_)
    | ((with_reducible show opC (unit (hstore _ _ _ _)) _); refine sl_storeN (by with_reducible first | exact H | exact H.p1 | exact H.p2 | exact H.p3 | exact H.p4 | exact H.p5 | exact H.p6 | exact H.p7) rfl (Nat.le_of_ble_eq_true rfl) (by first | exact rfl | (simp only [f0, f1, f2, f3, f4, f5, f6, f7]; done) | (simp only [onA, *]; done)) ?_)
    | ((with_reducible show opC (happend _ _ _ _ _) _); refine sl_append (by with_reducible first | exact H | exact H.p1 | exact H.p2 | exact H.p3 | exact H.p4 | exact H.p5 | exact H.p6 | exact H.p7) (by first | assumption | with_reducible first | exact f0.2.1 | exact f1.2.1 | exact f2.2.1 | exact f3.2.1 | exact f4.2.1 | exact f5.2.1 | exact f6.2.1 | exact f7.2.1 | exact va_takeS) (by first | exact roomFor_of (by omega) | exact roomFor_wide (by omega)) (by omega) ?_)
    | ((with_reducible show opC (happend _ _ _ _ _) _); refine sl_append0X H (by first | assumption | with_reducible first | exact f0.2.1 | exact f1.2.1 | exact f2.2.1 | exact f3.2.1 | exact f4.2.1 | exact f5.2.1 | exact f6.2.1 | exact f7.2.1 | exact va_takeS) (by first | exact roomFor_of (by omega) | exact roomFor_wide (by omega)) (by omega) ?_)
    | ((with_reducible show opC (happend _ _ _ _ _) _); refine sl_appendX (by with_reducible first | exact H | exact H.p1 | exact H.p2 | exact H.p3 | exact H.p4 | exact H.p5 | exact H.p6 | exact H.p7) (by first | assumption | with_reducible first | exact f0.2.1 | exact f1.2.1 | exact f2.2.1 | exact f3.2.1 | exact f4.2.1 | exact f5.2.1 | exact f6.2.1 | exact f7.2.1 | exact va_takeS) (by first | exact roomFor_of (by omega) | exact roomFor_wide (by omega)) (by omega) ?_)
    | ((with_reducible show opC (hbuildSlice _ _ _ _ _) _); refine sl_bslice1 H rfl (by first | exact rfl | (simp only [f0, f1, f2, f3, f4, f5, f6, f7]; done) | (simp only [onA, *]; done)) (by first | exact rfl | (simp only [f0, f1, f2, f3, f4, f5, f6, f7]; done) | (simp only [onA, *]; done)) ?_)
    | ((with_reducible show opC (hbox _ _) _); refine sl_box1 H (by first | exact rfl | (simp only [f0, f1, f2, f3, f4, f5, f6, f7]; done) | (simp only [onA, *]; done)) (by first | exact rfl | (simp only [f0, f1, f2, f3, f4, f5, f6, f7]; done) | (simp only [onA, *]; done)) ?_)
    | ((with_reducible show opC (hbox _ _) _); refine sl_boxA H (by first | exact rfl | (simp only [f0, f1, f2, f3, f4, f5, f6, f7]; done) | (simp only [onA, *]; done)) ?_)
    | refine hwp_draw mixed rfl ?_
    | with_reducible intro hy

  refine HW.rounds mixed 2 ?_
  rcases hst4 with rfl | rfl | rfl | rfl
  · -- a line
    have Rx : ∃ x, hslice v none (some (.int .i64 ((min 224 held.length : Nat) : Int))) none = some x ∧ ∀ hs l, Sat hs (My 1 v held.length (bcells held) :: l) → Rd hs 1 x (min 224 held.length) (bcells (held.take (min 224 held.length))) := by
      obtain ⟨x, hx, _⟩ := rd_cut (H.t.t.t.rd) rfl (lo := 0) (hi := min 224 held.length) Lo.none (Hi.some (k := .i64)) (by omega) (by omega)
      refine ⟨x, hx, fun hs l H => ?_⟩
      obtain ⟨x2, hx2, r2⟩ := rd_cut H.rd rfl (lo := 0) (hi := min 224 held.length) Lo.none (Hi.some (k := .i64)) (by omega) (by omega)
      rw [hx] at hx2; cases hx2; simpa using r2
    obtain ⟨x, hx, Rx⟩ := Rx
    have hix := lineAt_index (held.take (min 224 held.length))
    cases hln : lineAt (held.take (min 224 held.length)) with
    | some k =>
      rw [hln] at hix
      have hk := lineAt_le hln
      rw [List.length_take] at hk
      simp only at hix
      have rcs := True.intro
      have rbs := True.intro
      have hc := True.intro
      repeat' first
        | ((with_reducible show Need _); refine need_of ?_; (first | have f0 := Sat.pf (H) | have f0 := trivial); (first | have f1 := Sat.pf (H.t) | have f1 := trivial); (first | have f2 := Sat.pf (H.t.t) | have f2 := trivial); (first | have f3 := Sat.pf (H.t.t.t) | have f3 := trivial); (first | have f4 := Sat.pf (H.t.t.t.t) | have f4 := trivial); (first | have f5 := Sat.pf (H.t.t.t.t.t) | have f5 := trivial); (first | have f6 := Sat.pf (H.t.t.t.t.t.t) | have f6 := trivial); (first | have f7 := Sat.pf (H.t.t.t.t.t.t.t) | have f7 := trivial))
        | simp -implicitDefEqProofs (disch := first | omega | decide | exact rfl | assumption | exact Nat.le_of_ble_eq_true rfl | exact One.c | exact One.o) only [vsA, vsB, eq_self, if_true, if_false, implies_true, false_implies, evp, HX.ev, Nat.reduceAdd, HOp.looks, Nat.reduceEqDiff, overw, Nat.reduceBEq, lr_succ, hx, rcs, rbs, hc, ub26, f0, f1, f2, f3, f4, f5, f6, f7]
        | (refine condK_cases (fun h => ?_) (fun h => ?_) <;> (try simp only [h]) <;> (try simp only [athA, ne_eq] at h) <;> (try (exfalso; omega)))
        | (refine guardK_cases (fun h => ?_) (fun h => ?_) <;> (try simp only [h]) <;> (try simp only [athA, ne_eq] at h) <;> (try (exfalso; omega)))
        | (refine dgK_cases (fun h => ?_) (fun h => ?_) <;> (try simp only [h]) <;> (try simp only [athA, ne_eq] at h) <;> (try (exfalso; omega)))
        | (clear H f0 f1 f2 f3 f4 f5 f6 f7; (with_reducible intro v2 hs H); (try simp only [setA, overw, Nat.reduceAdd] at H); refine need ?_)
        | ((with_reducible show actK _ (HAct.call _ _) _ _ _ _ _); refine vcall_ofC rfl (index38R (G _ H.t.t.t.t) (Rx _ _ H.t.t.t) hy (by omega)) ?_;  rw [hix]; rintro _ _ ⟨rfl, rfl⟩)
        | ((with_reducible show drK _ _ _ _ _ _ _ _ _ (some ⟨_, HAct.call _ _, none⟩)); refine vdr_callC rfl (index38R (G _ H.t.t.t.t) (Rx _ _ H.t.t.t) hy (by omega)) ?_;  rw [hix]; rintro _ _ ⟨rfl, rfl⟩)
        | ((with_reducible show actK _ (HAct.call (HX.cst (HV.func (Fn.func 39) _ _)) _) _ _ _ _ _); refine vcall_of ok39 rfl (take39 H.p2 (fun _ h => h.t.t.rd) (by omega)) ?_;  clear H f0 f1 f2 f3 f4 f5 f6 f7; rintro b hs ⟨v', hb1, hv1, H⟩; obtain ⟨b2, e1, rb⟩ := rd_cut (H.t.t.t.rd) rfl (lo := 0) (hi := k + 2) Lo.none (Hi.some (k := .i64)) (by omega) (by omega); rw [hb1] at e1; cases e1; simp only [List.drop_zero, Nat.sub_zero] at rb; obtain ⟨c, hc, rc⟩ := rd_cut rb (by simp; omega) (lo := 0) (hi := k) Lo.none (Hi.some (k := .i64)) (by omega) (by omega); simp only [List.drop_zero, Nat.sub_zero, List.take_take, Nat.min_eq_left (show k ≤ k + 2 by omega)] at rc; have rcs := rd_b2sK rc; have rbs := rb.sOk; have H := H.p3.cut (Lo.some (k := .i64)) Hi.none (by omega) (by omega) hv1; refine need ?_)
        | ((with_reducible show drK _ _ _ _ _ _ _ _ _ (some ⟨_, HAct.call (HX.cst (HV.func (Fn.func 39) _ _)) _, none⟩)); refine vdr_call ok39 rfl (take39 H.p2 (fun _ h => h.t.t.rd) (by omega)) ?_;  clear H f0 f1 f2 f3 f4 f5 f6 f7; rintro b hs ⟨v', hb1, hv1, H⟩; obtain ⟨b2, e1, rb⟩ := rd_cut (H.t.t.t.rd) rfl (lo := 0) (hi := k + 2) Lo.none (Hi.some (k := .i64)) (by omega) (by omega); rw [hb1] at e1; cases e1; simp only [List.drop_zero, Nat.sub_zero] at rb; obtain ⟨c, hc, rc⟩ := rd_cut rb (by simp; omega) (lo := 0) (hi := k) Lo.none (Hi.some (k := .i64)) (by omega) (by omega); simp only [List.drop_zero, Nat.sub_zero, List.take_take, Nat.min_eq_left (show k ≤ k + 2 by omega)] at rc; have rcs := rd_b2sK rc; have rbs := rb.sOk; have H := H.p3.cut (Lo.some (k := .i64)) Hi.none (by omega) (by omega) hv1; refine need ?_)
        | refine opC_K ?_
        | refine opC_D ?_
        | ((with_reducible show opC (hbuildSlice _ _ _ _ _) _); refine sl_bslice H rfl rfl (by omega) rfl rfl ?_; clear H f0 f1 f2 f3 f4 f5 f6 f7; intro y hs H hy; refine need ?_)
        | ((with_reducible show opC (unit (hstore _ _ _ _)) _); refine sl_store1 (by with_reducible first | exact H | exact H.p1 | exact H.p2 | exact H.p3 | exact H.p4 | exact H.p5 | exact H.p6 | exact H.p7) (Nat.le_of_ble_eq_true rfl) (by first | exact rfl | (simp only [f0, f1, f2, f3, f4, f5, f6, f7]; done) | (simp only [onA, *]; done)) (by first | exact rfl | (simp only [f0, f1, f2, f3, f4, f5, f6, f7]; done) | (simp only [onA, *]; done)) ?_)
        | ((with_reducible show opC (unit (hstore _ _ _ _)) _); refine sl_storeN (by with_reducible first | exact H | exact H.p1 | exact H.p2 | exact H.p3 | exact H.p4 | exact H.p5 | exact H.p6 | exact H.p7) rfl (Nat.le_of_ble_eq_true rfl) (by first | exact rfl | (simp only [f0, f1, f2, f3, f4, f5, f6, f7]; done) | (simp only [onA, *]; done)) ?_)
        | ((with_reducible show opC (happend _ _ _ _ _) _); refine sl_append (by with_reducible first | exact H | exact H.p1 | exact H.p2 | exact H.p3 | exact H.p4 | exact H.p5 | exact H.p6 | exact H.p7) (by first | assumption | with_reducible first | exact f0.2.1 | exact f1.2.1 | exact f2.2.1 | exact f3.2.1 | exact f4.2.1 | exact f5.2.1 | exact f6.2.1 | exact f7.2.1 | exact va_takeS) (by first | exact roomFor_of (by omega) | exact roomFor_wide (by omega)) (by omega) ?_)
        | ((with_reducible show opC (happend _ _ _ _ _) _); refine sl_append0X H (by first | assumption | with_reducible first | exact f0.2.1 | exact f1.2.1 | exact f2.2.1 | exact f3.2.1 | exact f4.2.1 | exact f5.2.1 | exact f6.2.1 | exact f7.2.1 | exact va_takeS) (by first | exact roomFor_of (by omega) | exact roomFor_wide (by omega)) (by omega) ?_)
        | ((with_reducible show opC (happend _ _ _ _ _) _); refine sl_appendX (by with_reducible first | exact H | exact H.p1 | exact H.p2 | exact H.p3 | exact H.p4 | exact H.p5 | exact H.p6 | exact H.p7) (by first | assumption | with_reducible first | exact f0.2.1 | exact f1.2.1 | exact f2.2.1 | exact f3.2.1 | exact f4.2.1 | exact f5.2.1 | exact f6.2.1 | exact f7.2.1 | exact va_takeS) (by first | exact roomFor_of (by omega) | exact roomFor_wide (by omega)) (by omega) ?_)
        | ((with_reducible show opC (hbuildSlice _ _ _ _ _) _); refine sl_bslice1 H rfl (by first | exact rfl | (simp only [f0, f1, f2, f3, f4, f5, f6, f7]; done) | (simp only [onA, *]; done)) (by first | exact rfl | (simp only [f0, f1, f2, f3, f4, f5, f6, f7]; done) | (simp only [onA, *]; done)) ?_)
        | ((with_reducible show opC (hbox _ _) _); refine sl_box1 H (by first | exact rfl | (simp only [f0, f1, f2, f3, f4, f5, f6, f7]; done) | (simp only [onA, *]; done)) (by first | exact rfl | (simp only [f0, f1, f2, f3, f4, f5, f6, f7]; done) | (simp only [onA, *]; done)) ?_)
        | ((with_reducible show opC (hbox _ _) _); refine sl_boxA H (by first | exact rfl | (simp only [f0, f1, f2, f3, f4, f5, f6, f7]; done) | (simp only [onA, *]; done)) ?_)
        | refine hwp_draw mixed rfl ?_
        | with_reducible intro hy

      have e : nextS ⟨most, 0, held, size, left, half, ended⟩ = (some ⟨1, held.take k, []⟩, ⟨most, 0, held.drop (k + 2), size, left, half, ended⟩) := by
        unfold nextS; rw [if_pos rfl]; simp only [hln]
      rw [e]
      have H := H.t.p1.t.p1
      rw [Nat.mul_one, Nat.mul_one, bc_drop, bc_take, List.take_of_length_le (by simp)] at H
      refine ⟨.nilSlice, rfl, Sat.p1 (Sat.ex0 (in_open.2 ⟨v', ?_⟩))⟩
      simp only [List.length_drop]
      exact H.p1
    | none =>
      rw [hln] at hix
      simp only at hix
      by_cases hlen : held.length < 224
      · skip
        repeat' first
          | ((with_reducible show Need _); refine need_of ?_; (first | have f0 := Sat.pf (H) | have f0 := trivial); (first | have f1 := Sat.pf (H.t) | have f1 := trivial); (first | have f2 := Sat.pf (H.t.t) | have f2 := trivial); (first | have f3 := Sat.pf (H.t.t.t) | have f3 := trivial); (first | have f4 := Sat.pf (H.t.t.t.t) | have f4 := trivial); (first | have f5 := Sat.pf (H.t.t.t.t.t) | have f5 := trivial); (first | have f6 := Sat.pf (H.t.t.t.t.t.t) | have f6 := trivial); (first | have f7 := Sat.pf (H.t.t.t.t.t.t.t) | have f7 := trivial))
          | simp -implicitDefEqProofs (disch := first | omega | decide | exact rfl | assumption | exact Nat.le_of_ble_eq_true rfl | exact One.c | exact One.o) only [vsA, vsB, eq_self, if_true, if_false, implies_true, false_implies, evp, HX.ev, Nat.reduceAdd, HOp.looks, Nat.reduceEqDiff, overw, Nat.reduceBEq, lr_succ, hx, ub26, f0, f1, f2, f3, f4, f5, f6, f7]
          | (refine condK_cases (fun h => ?_) (fun h => ?_) <;> (try simp only [h]) <;> (try simp only [athA, ne_eq] at h) <;> (try (exfalso; omega)))
          | (refine guardK_cases (fun h => ?_) (fun h => ?_) <;> (try simp only [h]) <;> (try simp only [athA, ne_eq] at h) <;> (try (exfalso; omega)))
          | (refine dgK_cases (fun h => ?_) (fun h => ?_) <;> (try simp only [h]) <;> (try simp only [athA, ne_eq] at h) <;> (try (exfalso; omega)))
          | (clear H f0 f1 f2 f3 f4 f5 f6 f7; (with_reducible intro v2 hs H); (try simp only [setA, overw, Nat.reduceAdd] at H); refine need ?_)
          | ((with_reducible show actK _ (HAct.call _ _) _ _ _ _ _); refine vcall_ofC rfl (index38R (G _ H.t.t.t.t) (Rx _ _ H.t.t.t) hy (by omega)) ?_;  rw [hix]; rintro _ _ ⟨rfl, rfl⟩)
          | ((with_reducible show drK _ _ _ _ _ _ _ _ _ (some ⟨_, HAct.call _ _, none⟩)); refine vdr_callC rfl (index38R (G _ H.t.t.t.t) (Rx _ _ H.t.t.t) hy (by omega)) ?_;  rw [hix]; rintro _ _ ⟨rfl, rfl⟩)
          | refine opC_K ?_
          | refine opC_D ?_
          | ((with_reducible show opC (hbuildSlice _ _ _ _ _) _); refine sl_bslice H rfl rfl (by omega) rfl rfl ?_; clear H f0 f1 f2 f3 f4 f5 f6 f7; intro y hs H hy; refine need ?_)
          | ((with_reducible show opC (unit (hstore _ _ _ _)) _); refine sl_store1 (by with_reducible first | exact H | exact H.p1 | exact H.p2 | exact H.p3 | exact H.p4 | exact H.p5 | exact H.p6 | exact H.p7) (Nat.le_of_ble_eq_true rfl) (by first | exact rfl | (simp only [f0, f1, f2, f3, f4, f5, f6, f7]; done) | (simp only [onA, *]; done)) (by first | exact rfl | (simp only [f0, f1, f2, f3, f4, f5, f6, f7]; done) | (simp only [onA, *]; done)) ?_)
          | ((with_reducible show opC (unit (hstore _ _ _ _)) _); refine sl_storeN (by with_reducible first | exact H | exact H.p1 | exact H.p2 | exact H.p3 | exact H.p4 | exact H.p5 | exact H.p6 | exact H.p7) rfl (Nat.le_of_ble_eq_true rfl) (by first | exact rfl | (simp only [f0, f1, f2, f3, f4, f5, f6, f7]; done) | (simp only [onA, *]; done)) ?_)
          | ((with_reducible show opC (happend _ _ _ _ _) _); refine sl_append (by with_reducible first | exact H | exact H.p1 | exact H.p2 | exact H.p3 | exact H.p4 | exact H.p5 | exact H.p6 | exact H.p7) (by first | assumption | with_reducible first | exact f0.2.1 | exact f1.2.1 | exact f2.2.1 | exact f3.2.1 | exact f4.2.1 | exact f5.2.1 | exact f6.2.1 | exact f7.2.1 | exact va_takeS) (by first | exact roomFor_of (by omega) | exact roomFor_wide (by omega)) (by omega) ?_)
          | ((with_reducible show opC (happend _ _ _ _ _) _); refine sl_append0X H (by first | assumption | with_reducible first | exact f0.2.1 | exact f1.2.1 | exact f2.2.1 | exact f3.2.1 | exact f4.2.1 | exact f5.2.1 | exact f6.2.1 | exact f7.2.1 | exact va_takeS) (by first | exact roomFor_of (by omega) | exact roomFor_wide (by omega)) (by omega) ?_)
          | ((with_reducible show opC (happend _ _ _ _ _) _); refine sl_appendX (by with_reducible first | exact H | exact H.p1 | exact H.p2 | exact H.p3 | exact H.p4 | exact H.p5 | exact H.p6 | exact H.p7) (by first | assumption | with_reducible first | exact f0.2.1 | exact f1.2.1 | exact f2.2.1 | exact f3.2.1 | exact f4.2.1 | exact f5.2.1 | exact f6.2.1 | exact f7.2.1 | exact va_takeS) (by first | exact roomFor_of (by omega) | exact roomFor_wide (by omega)) (by omega) ?_)
          | ((with_reducible show opC (hbuildSlice _ _ _ _ _) _); refine sl_bslice1 H rfl (by first | exact rfl | (simp only [f0, f1, f2, f3, f4, f5, f6, f7]; done) | (simp only [onA, *]; done)) (by first | exact rfl | (simp only [f0, f1, f2, f3, f4, f5, f6, f7]; done) | (simp only [onA, *]; done)) ?_)
          | ((with_reducible show opC (hbox _ _) _); refine sl_box1 H (by first | exact rfl | (simp only [f0, f1, f2, f3, f4, f5, f6, f7]; done) | (simp only [onA, *]; done)) (by first | exact rfl | (simp only [f0, f1, f2, f3, f4, f5, f6, f7]; done) | (simp only [onA, *]; done)) ?_)
          | ((with_reducible show opC (hbox _ _) _); refine sl_boxA H (by first | exact rfl | (simp only [f0, f1, f2, f3, f4, f5, f6, f7]; done) | (simp only [onA, *]; done)) ?_)
          | refine hwp_draw mixed rfl ?_
          | with_reducible intro hy

        have e : nextS ⟨most, 0, held, size, left, half, ended⟩ = (none, ⟨most, 0, held, size, left, half, ended⟩) := by
          unfold nextS; rw [if_pos rfl]; simp only [hln]; rw [if_pos hlen]
        rw [e]
        exact ⟨.nilSlice, rfl, Sat.p1 (Sat.ex0 (in_open.2 ⟨v, H.t.t⟩))⟩
      · skip
        repeat' first
          | ((with_reducible show Need _); refine need_of ?_; (first | have f0 := Sat.pf (H) | have f0 := trivial); (first | have f1 := Sat.pf (H.t) | have f1 := trivial); (first | have f2 := Sat.pf (H.t.t) | have f2 := trivial); (first | have f3 := Sat.pf (H.t.t.t) | have f3 := trivial); (first | have f4 := Sat.pf (H.t.t.t.t) | have f4 := trivial); (first | have f5 := Sat.pf (H.t.t.t.t.t) | have f5 := trivial); (first | have f6 := Sat.pf (H.t.t.t.t.t.t) | have f6 := trivial); (first | have f7 := Sat.pf (H.t.t.t.t.t.t.t) | have f7 := trivial))
          | simp -implicitDefEqProofs (disch := first | omega | decide | exact rfl | assumption | exact Nat.le_of_ble_eq_true rfl | exact One.c | exact One.o) only [vsA, vsB, eq_self, if_true, if_false, implies_true, false_implies, evp, HX.ev, Nat.reduceAdd, HOp.looks, Nat.reduceEqDiff, overw, Nat.reduceBEq, lr_succ, hx, ub26, f0, f1, f2, f3, f4, f5, f6, f7]
          | (refine condK_cases (fun h => ?_) (fun h => ?_) <;> (try simp only [h]) <;> (try simp only [athA, ne_eq] at h) <;> (try (exfalso; omega)))
          | (refine guardK_cases (fun h => ?_) (fun h => ?_) <;> (try simp only [h]) <;> (try simp only [athA, ne_eq] at h) <;> (try (exfalso; omega)))
          | (refine dgK_cases (fun h => ?_) (fun h => ?_) <;> (try simp only [h]) <;> (try simp only [athA, ne_eq] at h) <;> (try (exfalso; omega)))
          | (clear H f0 f1 f2 f3 f4 f5 f6 f7; (with_reducible intro v2 hs H); (try simp only [setA, overw, Nat.reduceAdd] at H); refine need ?_)
          | ((with_reducible show actK _ (HAct.call _ _) _ _ _ _ _); refine vcall_ofC rfl (index38R (G _ H.t.t.t.t) (Rx _ _ H.t.t.t) hy (by omega)) ?_;  rw [hix]; rintro _ _ ⟨rfl, rfl⟩)
          | ((with_reducible show drK _ _ _ _ _ _ _ _ _ (some ⟨_, HAct.call _ _, none⟩)); refine vdr_callC rfl (index38R (G _ H.t.t.t.t) (Rx _ _ H.t.t.t) hy (by omega)) ?_;  rw [hix]; rintro _ _ ⟨rfl, rfl⟩)
          | ((with_reducible show actK _ (HAct.call (HX.cst (HV.func (Fn.func 39) _ _)) _) _ _ _ _ _); refine vcall_of ok39 rfl (take39 H (fun _ h => h.t.t.rd) (Nat.le_refl _)) ?_;  clear H f0 f1 f2 f3 f4 f5 f6 f7; rintro b hs ⟨v', hb1, hv1, H⟩; refine need ?_)
          | ((with_reducible show drK _ _ _ _ _ _ _ _ _ (some ⟨_, HAct.call (HX.cst (HV.func (Fn.func 39) _ _)) _, none⟩)); refine vdr_call ok39 rfl (take39 H (fun _ h => h.t.t.rd) (Nat.le_refl _)) ?_;  clear H f0 f1 f2 f3 f4 f5 f6 f7; rintro b hs ⟨v', hb1, hv1, H⟩; refine need ?_)
          | ((with_reducible show actK _ (HAct.call (HX.cst (HV.func (Fn.func 18) _ _)) _) _ _ _ _ _); refine vcall_of ok18 rfl (feed18 (b := b) (v := v') (s := ⟨most, 1, [], size, left, false, false⟩) (bs := held) H.p2.p2.p3.p3 (fun hs l' h => by have := h.cut (Lo.some (k := .i64)) Hi.none (Nat.le_refl _) (Nat.le_refl _) hv1; simpa [bcells] using this) (fun hs h => by obtain ⟨b2, e1, rb⟩ := rd_cut h.rd rfl (lo := 0) (hi := held.length) Lo.none (Hi.some (k := .i64)) (by omega) (by omega); rw [hb1] at e1; cases e1; simpa using rb) (by simp only [List.length_nil]; omega) (by simp only; omega)) ?_;  clear H f0 f1 f2 f3 f4 f5 f6 f7; rintro _ hs ⟨vq, H⟩; rw [feedF1 rfl rfl] at H; simp only [St.cells, List.nil_append] at H; refine need ?_)
          | ((with_reducible show drK _ _ _ _ _ _ _ _ _ (some ⟨_, HAct.call (HX.cst (HV.func (Fn.func 18) _ _)) _, none⟩)); refine vdr_call ok18 rfl (feed18 (b := b) (v := v') (s := ⟨most, 1, [], size, left, false, false⟩) (bs := held) H.p2.p2.p3.p3 (fun hs l' h => by have := h.cut (Lo.some (k := .i64)) Hi.none (Nat.le_refl _) (Nat.le_refl _) hv1; simpa [bcells] using this) (fun hs h => by obtain ⟨b2, e1, rb⟩ := rd_cut h.rd rfl (lo := 0) (hi := held.length) Lo.none (Hi.some (k := .i64)) (by omega) (by omega); rw [hb1] at e1; cases e1; simpa using rb) (by simp only [List.length_nil]; omega) (by simp only; omega)) ?_;  clear H f0 f1 f2 f3 f4 f5 f6 f7; rintro _ hs ⟨vq, H⟩; rw [feedF1 rfl rfl] at H; simp only [St.cells, List.nil_append] at H; refine need ?_)
          | refine opC_K ?_
          | refine opC_D ?_
          | ((with_reducible show opC (hbuildSlice _ _ _ _ _) _); refine sl_bslice H rfl rfl (by omega) rfl rfl ?_; clear H f0 f1 f2 f3 f4 f5 f6 f7; intro y hs H hy; refine need ?_)
          | ((with_reducible show opC (unit (hstore _ _ _ _)) _); refine sl_store1 (by with_reducible first | exact H | exact H.p1 | exact H.p2 | exact H.p3 | exact H.p4 | exact H.p5 | exact H.p6 | exact H.p7) (Nat.le_of_ble_eq_true rfl) (by first | exact rfl | (simp only [f0, f1, f2, f3, f4, f5, f6, f7]; done) | (simp only [onA, *]; done)) (by first | exact rfl | (simp only [f0, f1, f2, f3, f4, f5, f6, f7]; done) | (simp only [onA, *]; done)) ?_)
          | ((with_reducible show opC (unit (hstore _ _ _ _)) _); refine sl_storeN (by with_reducible first | exact H | exact H.p1 | exact H.p2 | exact H.p3 | exact H.p4 | exact H.p5 | exact H.p6 | exact H.p7) rfl (Nat.le_of_ble_eq_true rfl) (by first | exact rfl | (simp only [f0, f1, f2, f3, f4, f5, f6, f7]; done) | (simp only [onA, *]; done)) ?_)
          | ((with_reducible show opC (happend _ _ _ _ _) _); refine sl_append (by with_reducible first | exact H | exact H.p1 | exact H.p2 | exact H.p3 | exact H.p4 | exact H.p5 | exact H.p6 | exact H.p7) (by first | assumption | with_reducible first | exact f0.2.1 | exact f1.2.1 | exact f2.2.1 | exact f3.2.1 | exact f4.2.1 | exact f5.2.1 | exact f6.2.1 | exact f7.2.1 | exact va_takeS) (by first | exact roomFor_of (by omega) | exact roomFor_wide (by omega)) (by omega) ?_)
          | ((with_reducible show opC (happend _ _ _ _ _) _); refine sl_append0X H (by first | assumption | with_reducible first | exact f0.2.1 | exact f1.2.1 | exact f2.2.1 | exact f3.2.1 | exact f4.2.1 | exact f5.2.1 | exact f6.2.1 | exact f7.2.1 | exact va_takeS) (by first | exact roomFor_of (by omega) | exact roomFor_wide (by omega)) (by omega) ?_)
          | ((with_reducible show opC (happend _ _ _ _ _) _); refine sl_appendX (by with_reducible first | exact H | exact H.p1 | exact H.p2 | exact H.p3 | exact H.p4 | exact H.p5 | exact H.p6 | exact H.p7) (by first | assumption | with_reducible first | exact f0.2.1 | exact f1.2.1 | exact f2.2.1 | exact f3.2.1 | exact f4.2.1 | exact f5.2.1 | exact f6.2.1 | exact f7.2.1 | exact va_takeS) (by first | exact roomFor_of (by omega) | exact roomFor_wide (by omega)) (by omega) ?_)
          | ((with_reducible show opC (hbuildSlice _ _ _ _ _) _); refine sl_bslice1 H rfl (by first | exact rfl | (simp only [f0, f1, f2, f3, f4, f5, f6, f7]; done) | (simp only [onA, *]; done)) (by first | exact rfl | (simp only [f0, f1, f2, f3, f4, f5, f6, f7]; done) | (simp only [onA, *]; done)) ?_)
          | ((with_reducible show opC (hbox _ _) _); refine sl_box1 H (by first | exact rfl | (simp only [f0, f1, f2, f3, f4, f5, f6, f7]; done) | (simp only [onA, *]; done)) (by first | exact rfl | (simp only [f0, f1, f2, f3, f4, f5, f6, f7]; done) | (simp only [onA, *]; done)) ?_)
          | ((with_reducible show opC (hbox _ _) _); refine sl_boxA H (by first | exact rfl | (simp only [f0, f1, f2, f3, f4, f5, f6, f7]; done) | (simp only [onA, *]; done)) ?_)
          | refine hwp_draw mixed rfl ?_
          | with_reducible intro hy

        · have e : nextS ⟨most, 0, held, size, left, half, ended⟩ = (none, ⟨most, 1, (skipL false held).2.2, size, left, (skipL false held).1, false⟩) := by
            unfold nextS; rw [if_pos rfl]; simp only [hln]; rw [if_neg hlen, if_neg (by simp [*])]
          rw [e]
          have hE : (skipL false held).2.1 = false := by assumption
          rw [hE] at H
          exact ⟨.nilSlice, rfl, Sat.p1 (Sat.ex0 (in_open.2 ⟨vq, H.t.p2.t⟩))⟩
        · have e : nextS ⟨most, 0, held, size, left, half, ended⟩ = (some ⟨2, [], []⟩, ⟨most, 0, (skipL false held).2.2, size, left, (skipL false held).1, true⟩) := by
            unfold nextS; rw [if_pos rfl]; simp only [hln]; rw [if_neg hlen, if_pos (by simp [*])]
          rw [e]
          have hE : (skipL false held).2.1 = true := by assumption
          rw [hE] at H
          exact ⟨.nilSlice, rfl, Sat.p1 (Sat.ex0 (in_open.2 ⟨vq, H.t.p1.t⟩))⟩
  · skip
    repeat' first
      | ((with_reducible show Need _); refine need_of ?_; (first | have f0 := Sat.pf (H) | have f0 := trivial); (first | have f1 := Sat.pf (H.t) | have f1 := trivial); (first | have f2 := Sat.pf (H.t.t) | have f2 := trivial); (first | have f3 := Sat.pf (H.t.t.t) | have f3 := trivial); (first | have f4 := Sat.pf (H.t.t.t.t) | have f4 := trivial); (first | have f5 := Sat.pf (H.t.t.t.t.t) | have f5 := trivial); (first | have f6 := Sat.pf (H.t.t.t.t.t.t) | have f6 := trivial); (first | have f7 := Sat.pf (H.t.t.t.t.t.t.t) | have f7 := trivial))
      | simp -implicitDefEqProofs (disch := first | omega | decide | exact rfl | assumption | exact Nat.le_of_ble_eq_true rfl | exact One.c | exact One.o) only [vsA, vsB, eq_self, if_true, if_false, implies_true, false_implies, evp, HX.ev, Nat.reduceAdd, HOp.looks, Nat.reduceEqDiff, overw, Nat.reduceBEq, lr_succ, ub26, f0, f1, f2, f3, f4, f5, f6, f7]
      | (refine condK_cases (fun h => ?_) (fun h => ?_) <;> (try simp only [h]) <;> (try simp only [athA, ne_eq] at h) <;> (try (exfalso; omega)))
      | (refine guardK_cases (fun h => ?_) (fun h => ?_) <;> (try simp only [h]) <;> (try simp only [athA, ne_eq] at h) <;> (try (exfalso; omega)))
      | (refine dgK_cases (fun h => ?_) (fun h => ?_) <;> (try simp only [h]) <;> (try simp only [athA, ne_eq] at h) <;> (try (exfalso; omega)))
      | (clear H f0 f1 f2 f3 f4 f5 f6 f7; (with_reducible intro v2 hs H); (try simp only [setA, overw, Nat.reduceAdd] at H); refine need ?_)
      | refine opC_K ?_
      | refine opC_D ?_
      | ((with_reducible show opC (unit (hstore _ _ _ _)) _); refine sl_store1 (by with_reducible first | exact H | exact H.p1 | exact H.p2 | exact H.p3 | exact H.p4 | exact H.p5 | exact H.p6 | exact H.p7) (Nat.le_of_ble_eq_true rfl) (by first | exact rfl | (simp only [f0, f1, f2, f3, f4, f5, f6, f7]; done) | (simp only [onA, *]; done)) (by first | exact rfl | (simp only [f0, f1, f2, f3, f4, f5, f6, f7]; done) | (simp only [onA, *]; done)) ?_)
      | ((with_reducible show opC (unit (hstore _ _ _ _)) _); refine sl_storeN (by with_reducible first | exact H | exact H.p1 | exact H.p2 | exact H.p3 | exact H.p4 | exact H.p5 | exact H.p6 | exact H.p7) rfl (Nat.le_of_ble_eq_true rfl) (by first | exact rfl | (simp only [f0, f1, f2, f3, f4, f5, f6, f7]; done) | (simp only [onA, *]; done)) ?_)
      | ((with_reducible show opC (happend _ _ _ _ _) _); refine sl_append (by with_reducible first | exact H | exact H.p1 | exact H.p2 | exact H.p3 | exact H.p4 | exact H.p5 | exact H.p6 | exact H.p7) (by first | assumption | with_reducible first | exact f0.2.1 | exact f1.2.1 | exact f2.2.1 | exact f3.2.1 | exact f4.2.1 | exact f5.2.1 | exact f6.2.1 | exact f7.2.1 | exact va_takeS) (by first | exact roomFor_of (by omega) | exact roomFor_wide (by omega)) (by omega) ?_)
      | ((with_reducible show opC (happend _ _ _ _ _) _); refine sl_append0X H (by first | assumption | with_reducible first | exact f0.2.1 | exact f1.2.1 | exact f2.2.1 | exact f3.2.1 | exact f4.2.1 | exact f5.2.1 | exact f6.2.1 | exact f7.2.1 | exact va_takeS) (by first | exact roomFor_of (by omega) | exact roomFor_wide (by omega)) (by omega) ?_)
      | ((with_reducible show opC (happend _ _ _ _ _) _); refine sl_appendX (by with_reducible first | exact H | exact H.p1 | exact H.p2 | exact H.p3 | exact H.p4 | exact H.p5 | exact H.p6 | exact H.p7) (by first | assumption | with_reducible first | exact f0.2.1 | exact f1.2.1 | exact f2.2.1 | exact f3.2.1 | exact f4.2.1 | exact f5.2.1 | exact f6.2.1 | exact f7.2.1 | exact va_takeS) (by first | exact roomFor_of (by omega) | exact roomFor_wide (by omega)) (by omega) ?_)
      | ((with_reducible show opC (hbuildSlice _ _ _ _ _) _); refine sl_bslice1 H rfl (by first | exact rfl | (simp only [f0, f1, f2, f3, f4, f5, f6, f7]; done) | (simp only [onA, *]; done)) (by first | exact rfl | (simp only [f0, f1, f2, f3, f4, f5, f6, f7]; done) | (simp only [onA, *]; done)) ?_)
      | ((with_reducible show opC (hbox _ _) _); refine sl_box1 H (by first | exact rfl | (simp only [f0, f1, f2, f3, f4, f5, f6, f7]; done) | (simp only [onA, *]; done)) (by first | exact rfl | (simp only [f0, f1, f2, f3, f4, f5, f6, f7]; done) | (simp only [onA, *]; done)) ?_)
      | ((with_reducible show opC (hbox _ _) _); refine sl_boxA H (by first | exact rfl | (simp only [f0, f1, f2, f3, f4, f5, f6, f7]; done) | (simp only [onA, *]; done)) ?_)
      | refine hwp_draw mixed rfl ?_
      | with_reducible intro hy

    · have e : nextS ⟨most, 1, held, size, left, half, ended⟩ = (none, ⟨most, 1, held, size, left, half, ended⟩) := by
        unfold nextS; rw [if_neg (by simp), if_pos rfl, if_neg (by simp [*])]
      rw [e]
      exact ⟨.nilSlice, rfl, Sat.p1 (Sat.ex0 (in_open.2 ⟨v, H.t.t⟩))⟩
    · have e : nextS ⟨most, 1, held, size, left, half, ended⟩ = (some ⟨2, [], []⟩, ⟨most, 0, held, size, left, half, ended⟩) := by
        unfold nextS; rw [if_neg (by simp), if_pos rfl, if_pos (by simp [*])]
      rw [e]
      exact ⟨.nilSlice, rfl, Sat.p1 (Sat.ex0 (in_open.2 ⟨v, H.t.p1.t⟩))⟩
  · by_cases hlen : held.length < size + 2
    · skip
      repeat' first
        | ((with_reducible show Need _); refine need_of ?_; (first | have f0 := Sat.pf (H) | have f0 := trivial); (first | have f1 := Sat.pf (H.t) | have f1 := trivial); (first | have f2 := Sat.pf (H.t.t) | have f2 := trivial); (first | have f3 := Sat.pf (H.t.t.t) | have f3 := trivial); (first | have f4 := Sat.pf (H.t.t.t.t) | have f4 := trivial); (first | have f5 := Sat.pf (H.t.t.t.t.t) | have f5 := trivial); (first | have f6 := Sat.pf (H.t.t.t.t.t.t) | have f6 := trivial); (first | have f7 := Sat.pf (H.t.t.t.t.t.t.t) | have f7 := trivial))
        | simp -implicitDefEqProofs (disch := first | omega | decide | exact rfl | assumption | exact Nat.le_of_ble_eq_true rfl | exact One.c | exact One.o) only [vsA, vsB, eq_self, if_true, if_false, implies_true, false_implies, evp, HX.ev, Nat.reduceAdd, HOp.looks, Nat.reduceEqDiff, overw, Nat.reduceBEq, lr_succ, ub26, f0, f1, f2, f3, f4, f5, f6, f7]
        | (refine condK_cases (fun h => ?_) (fun h => ?_) <;> (try simp only [h]) <;> (try simp only [athA, ne_eq] at h) <;> (try (exfalso; omega)))
        | (refine guardK_cases (fun h => ?_) (fun h => ?_) <;> (try simp only [h]) <;> (try simp only [athA, ne_eq] at h) <;> (try (exfalso; omega)))
        | (refine dgK_cases (fun h => ?_) (fun h => ?_) <;> (try simp only [h]) <;> (try simp only [athA, ne_eq] at h) <;> (try (exfalso; omega)))
        | (clear H f0 f1 f2 f3 f4 f5 f6 f7; (with_reducible intro v2 hs H); (try simp only [setA, overw, Nat.reduceAdd] at H); refine need ?_)
        | refine opC_K ?_
        | refine opC_D ?_
        | ((with_reducible show opC (unit (hstore _ _ _ _)) _); refine sl_store1 (by with_reducible first | exact H | exact H.p1 | exact H.p2 | exact H.p3 | exact H.p4 | exact H.p5 | exact H.p6 | exact H.p7) (Nat.le_of_ble_eq_true rfl) (by first | exact rfl | (simp only [f0, f1, f2, f3, f4, f5, f6, f7]; done) | (simp only [onA, *]; done)) (by first | exact rfl | (simp only [f0, f1, f2, f3, f4, f5, f6, f7]; done) | (simp only [onA, *]; done)) ?_)
        | ((with_reducible show opC (unit (hstore _ _ _ _)) _); refine sl_storeN (by with_reducible first | exact H | exact H.p1 | exact H.p2 | exact H.p3 | exact H.p4 | exact H.p5 | exact H.p6 | exact H.p7) rfl (Nat.le_of_ble_eq_true rfl) (by first | exact rfl | (simp only [f0, f1, f2, f3, f4, f5, f6, f7]; done) | (simp only [onA, *]; done)) ?_)
        | ((with_reducible show opC (happend _ _ _ _ _) _); refine sl_append (by with_reducible first | exact H | exact H.p1 | exact H.p2 | exact H.p3 | exact H.p4 | exact H.p5 | exact H.p6 | exact H.p7) (by first | assumption | with_reducible first | exact f0.2.1 | exact f1.2.1 | exact f2.2.1 | exact f3.2.1 | exact f4.2.1 | exact f5.2.1 | exact f6.2.1 | exact f7.2.1 | exact va_takeS) (by first | exact roomFor_of (by omega) | exact roomFor_wide (by omega)) (by omega) ?_)
        | ((with_reducible show opC (happend _ _ _ _ _) _); refine sl_append0X H (by first | assumption | with_reducible first | exact f0.2.1 | exact f1.2.1 | exact f2.2.1 | exact f3.2.1 | exact f4.2.1 | exact f5.2.1 | exact f6.2.1 | exact f7.2.1 | exact va_takeS) (by first | exact roomFor_of (by omega) | exact roomFor_wide (by omega)) (by omega) ?_)
        | ((with_reducible show opC (happend _ _ _ _ _) _); refine sl_appendX (by with_reducible first | exact H | exact H.p1 | exact H.p2 | exact H.p3 | exact H.p4 | exact H.p5 | exact H.p6 | exact H.p7) (by first | assumption | with_reducible first | exact f0.2.1 | exact f1.2.1 | exact f2.2.1 | exact f3.2.1 | exact f4.2.1 | exact f5.2.1 | exact f6.2.1 | exact f7.2.1 | exact va_takeS) (by first | exact roomFor_of (by omega) | exact roomFor_wide (by omega)) (by omega) ?_)
        | ((with_reducible show opC (hbuildSlice _ _ _ _ _) _); refine sl_bslice1 H rfl (by first | exact rfl | (simp only [f0, f1, f2, f3, f4, f5, f6, f7]; done) | (simp only [onA, *]; done)) (by first | exact rfl | (simp only [f0, f1, f2, f3, f4, f5, f6, f7]; done) | (simp only [onA, *]; done)) ?_)
        | ((with_reducible show opC (hbox _ _) _); refine sl_box1 H (by first | exact rfl | (simp only [f0, f1, f2, f3, f4, f5, f6, f7]; done) | (simp only [onA, *]; done)) (by first | exact rfl | (simp only [f0, f1, f2, f3, f4, f5, f6, f7]; done) | (simp only [onA, *]; done)) ?_)
        | ((with_reducible show opC (hbox _ _) _); refine sl_boxA H (by first | exact rfl | (simp only [f0, f1, f2, f3, f4, f5, f6, f7]; done) | (simp only [onA, *]; done)) ?_)
        | refine hwp_draw mixed rfl ?_
        | with_reducible intro hy

      have e : nextS ⟨most, 2, held, size, left, half, ended⟩ = (none, ⟨most, 2, held, size, left, half, ended⟩) := by
        unfold nextS; rw [if_neg (by simp), if_neg (by simp), if_pos rfl, if_pos hlen]
      rw [e]
      exact ⟨.nilSlice, rfl, Sat.p1 (Sat.ex0 (in_open.2 ⟨v, H.t.t⟩))⟩
    · have o1 := True.intro
      have o2 := True.intro
      repeat' first
        | ((with_reducible show Need _); refine need_of ?_; (first | have f0 := Sat.pf (H) | have f0 := trivial); (first | have f1 := Sat.pf (H.t) | have f1 := trivial); (first | have f2 := Sat.pf (H.t.t) | have f2 := trivial); (first | have f3 := Sat.pf (H.t.t.t) | have f3 := trivial); (first | have f4 := Sat.pf (H.t.t.t.t) | have f4 := trivial); (first | have f5 := Sat.pf (H.t.t.t.t.t) | have f5 := trivial); (first | have f6 := Sat.pf (H.t.t.t.t.t.t) | have f6 := trivial); (first | have f7 := Sat.pf (H.t.t.t.t.t.t.t) | have f7 := trivial))
        | simp -implicitDefEqProofs (disch := first | omega | decide | exact rfl | assumption | exact Nat.le_of_ble_eq_true rfl | exact One.c | exact One.o) only [vsA, vsB, eq_self, if_true, if_false, implies_true, false_implies, evp, HX.ev, Nat.reduceAdd, HOp.looks, Nat.reduceEqDiff, overw, Nat.reduceBEq, lr_succ, o1, o2, ub26, f0, f1, f2, f3, f4, f5, f6, f7]
        | (refine condK_cases (fun h => ?_) (fun h => ?_) <;> (try simp only [h]) <;> (try simp only [athA, ne_eq] at h) <;> (try (exfalso; omega)))
        | (refine guardK_cases (fun h => ?_) (fun h => ?_) <;> (try simp only [h]) <;> (try simp only [athA, ne_eq] at h) <;> (try (exfalso; omega)))
        | (refine dgK_cases (fun h => ?_) (fun h => ?_) <;> (try simp only [h]) <;> (try simp only [athA, ne_eq] at h) <;> (try (exfalso; omega)))
        | (clear H f0 f1 f2 f3 f4 f5 f6 f7; (with_reducible intro v2 hs H); (try simp only [setA, overw, Nat.reduceAdd] at H); refine need ?_)
        | ((with_reducible show actK _ (HAct.call (HX.cst (HV.func (Fn.func 39) _ _)) _) _ _ _ _ _); refine vcall_of ok39 rfl (take39 H.p2 (fun _ h => h.t.t.rd) (by omega)) ?_;  clear H f0 f1 f2 f3 f4 f5 f6 f7; rintro b hs ⟨v', hb1, hv1, H⟩; refine need ?_)
        | ((with_reducible show drK _ _ _ _ _ _ _ _ _ (some ⟨_, HAct.call (HX.cst (HV.func (Fn.func 39) _ _)) _, none⟩)); refine vdr_call ok39 rfl (take39 H.p2 (fun _ h => h.t.t.rd) (by omega)) ?_;  clear H f0 f1 f2 f3 f4 f5 f6 f7; rintro b hs ⟨v', hb1, hv1, H⟩; refine need ?_)
        | ((with_reducible show actK _ (HAct.call (HX.cst (HV.func (Fn.func 40) _ _)) _) _ _ _ _ _); refine vcall_of ok40 rfl (body40 (b := b) (bs := held.take (size + 2)) (n := size) (by simp; omega) H (fun hs h => by obtain ⟨b2, e1, rb⟩ := rd_cut h.t.t.t.rd rfl (lo := 0) (hi := size + 2) Lo.none (Hi.some (k := .i64)) (by omega) (by omega); rw [hb1] at e1; cases e1; rw [List.length_take, Nat.min_eq_left (by omega)]; simpa using rb) (by simp; omega)) ?_;  clear H f0 f1 f2 f3 f4 f5 f6 f7; rintro _ hs ⟨w, rfl, H⟩; have o1 := H.rdX.one; have o2 := H.rdX.cells; have H := H.p4.cut (Lo.some (k := .i64)) Hi.none (by omega) (by omega) hv1; refine need ?_)
        | ((with_reducible show drK _ _ _ _ _ _ _ _ _ (some ⟨_, HAct.call (HX.cst (HV.func (Fn.func 40) _ _)) _, none⟩)); refine vdr_call ok40 rfl (body40 (b := b) (bs := held.take (size + 2)) (n := size) (by simp; omega) H (fun hs h => by obtain ⟨b2, e1, rb⟩ := rd_cut h.t.t.t.rd rfl (lo := 0) (hi := size + 2) Lo.none (Hi.some (k := .i64)) (by omega) (by omega); rw [hb1] at e1; cases e1; rw [List.length_take, Nat.min_eq_left (by omega)]; simpa using rb) (by simp; omega)) ?_;  clear H f0 f1 f2 f3 f4 f5 f6 f7; rintro _ hs ⟨w, rfl, H⟩; have o1 := H.rdX.one; have o2 := H.rdX.cells; have H := H.p4.cut (Lo.some (k := .i64)) Hi.none (by omega) (by omega) hv1; refine need ?_)
        | refine opC_K ?_
        | refine opC_D ?_
        | ((with_reducible show opC (unit (hstore _ _ _ _)) _); refine sl_store1 (by with_reducible first | exact H | exact H.p1 | exact H.p2 | exact H.p3 | exact H.p4 | exact H.p5 | exact H.p6 | exact H.p7) (Nat.le_of_ble_eq_true rfl) (by first | exact rfl | (simp only [f0, f1, f2, f3, f4, f5, f6, f7]; done) | (simp only [onA, *]; done)) (by first | exact rfl | (simp only [f0, f1, f2, f3, f4, f5, f6, f7]; done) | (simp only [onA, *]; done)) ?_)
        | ((with_reducible show opC (unit (hstore _ _ _ _)) _); refine sl_storeN (by with_reducible first | exact H | exact H.p1 | exact H.p2 | exact H.p3 | exact H.p4 | exact H.p5 | exact H.p6 | exact H.p7) rfl (Nat.le_of_ble_eq_true rfl) (by first | exact rfl | (simp only [f0, f1, f2, f3, f4, f5, f6, f7]; done) | (simp only [onA, *]; done)) ?_)
        | ((with_reducible show opC (happend _ _ _ _ _) _); refine sl_append (by with_reducible first | exact H | exact H.p1 | exact H.p2 | exact H.p3 | exact H.p4 | exact H.p5 | exact H.p6 | exact H.p7) (by first | assumption | with_reducible first | exact f0.2.1 | exact f1.2.1 | exact f2.2.1 | exact f3.2.1 | exact f4.2.1 | exact f5.2.1 | exact f6.2.1 | exact f7.2.1 | exact va_takeS) (by first | exact roomFor_of (by omega) | exact roomFor_wide (by omega)) (by omega) ?_)
        | ((with_reducible show opC (happend _ _ _ _ _) _); refine sl_append0X H (by first | assumption | with_reducible first | exact f0.2.1 | exact f1.2.1 | exact f2.2.1 | exact f3.2.1 | exact f4.2.1 | exact f5.2.1 | exact f6.2.1 | exact f7.2.1 | exact va_takeS) (by first | exact roomFor_of (by omega) | exact roomFor_wide (by omega)) (by omega) ?_)
        | ((with_reducible show opC (happend _ _ _ _ _) _); refine sl_appendX (by with_reducible first | exact H | exact H.p1 | exact H.p2 | exact H.p3 | exact H.p4 | exact H.p5 | exact H.p6 | exact H.p7) (by first | assumption | with_reducible first | exact f0.2.1 | exact f1.2.1 | exact f2.2.1 | exact f3.2.1 | exact f4.2.1 | exact f5.2.1 | exact f6.2.1 | exact f7.2.1 | exact va_takeS) (by first | exact roomFor_of (by omega) | exact roomFor_wide (by omega)) (by omega) ?_)
        | ((with_reducible show opC (hbuildSlice _ _ _ _ _) _); refine sl_bslice1 H rfl (by first | exact rfl | (simp only [f0, f1, f2, f3, f4, f5, f6, f7]; done) | (simp only [onA, *]; done)) (by first | exact rfl | (simp only [f0, f1, f2, f3, f4, f5, f6, f7]; done) | (simp only [onA, *]; done)) ?_)
        | ((with_reducible show opC (hbox _ _) _); refine sl_box1 H (by first | exact rfl | (simp only [f0, f1, f2, f3, f4, f5, f6, f7]; done) | (simp only [onA, *]; done)) (by first | exact rfl | (simp only [f0, f1, f2, f3, f4, f5, f6, f7]; done) | (simp only [onA, *]; done)) ?_)
        | ((with_reducible show opC (hbox _ _) _); refine sl_boxA H (by first | exact rfl | (simp only [f0, f1, f2, f3, f4, f5, f6, f7]; done) | (simp only [onA, *]; done)) ?_)
        | refine hwp_draw mixed rfl ?_
        | with_reducible intro hy

      have e : nextS ⟨most, 2, held, size, left, half, ended⟩ = (some ⟨(bodyF (held.take (size + 2)) size).1, [], (bodyF (held.take (size + 2)) size).2⟩, ⟨most, 0, held.drop (size + 2), size, left, half, ended⟩) := by
        unfold nextS; rw [if_neg (by simp), if_neg (by simp), if_pos rfl, if_neg hlen]
      rw [e]
      have H := H.t.p1.t.p2.p1.p2
      rw [Nat.mul_one, Nat.mul_one, bc_drop, bc_take, List.take_of_length_le (by simp)] at H
      refine ⟨w, rfl, in_open.2 ⟨v', ?_⟩⟩
      simp only [List.length_drop]
      exact H.p1
  · skip
    repeat' first
      | ((with_reducible show Need _); refine need_of ?_; (first | have f0 := Sat.pf (H) | have f0 := trivial); (first | have f1 := Sat.pf (H.t) | have f1 := trivial); (first | have f2 := Sat.pf (H.t.t) | have f2 := trivial); (first | have f3 := Sat.pf (H.t.t.t) | have f3 := trivial); (first | have f4 := Sat.pf (H.t.t.t.t) | have f4 := trivial); (first | have f5 := Sat.pf (H.t.t.t.t.t) | have f5 := trivial); (first | have f6 := Sat.pf (H.t.t.t.t.t.t) | have f6 := trivial); (first | have f7 := Sat.pf (H.t.t.t.t.t.t.t) | have f7 := trivial))
      | simp -implicitDefEqProofs (disch := first | omega | decide | exact rfl | assumption | exact Nat.le_of_ble_eq_true rfl | exact One.c | exact One.o) only [vsA, vsB, eq_self, if_true, if_false, implies_true, false_implies, evp, HX.ev, Nat.reduceAdd, HOp.looks, Nat.reduceEqDiff, overw, Nat.reduceBEq, lr_succ, ub26, f0, f1, f2, f3, f4, f5, f6, f7]
      | (refine condK_cases (fun h => ?_) (fun h => ?_) <;> (try simp only [h]) <;> (try simp only [athA, ne_eq] at h) <;> (try (exfalso; omega)))
      | (refine guardK_cases (fun h => ?_) (fun h => ?_) <;> (try simp only [h]) <;> (try simp only [athA, ne_eq] at h) <;> (try (exfalso; omega)))
      | (refine dgK_cases (fun h => ?_) (fun h => ?_) <;> (try simp only [h]) <;> (try simp only [athA, ne_eq] at h) <;> (try (exfalso; omega)))
      | (clear H f0 f1 f2 f3 f4 f5 f6 f7; (with_reducible intro v2 hs H); (try simp only [setA, overw, Nat.reduceAdd] at H); refine need ?_)
      | refine opC_K ?_
      | refine opC_D ?_
      | ((with_reducible show opC (unit (hstore _ _ _ _)) _); refine sl_store1 (by with_reducible first | exact H | exact H.p1 | exact H.p2 | exact H.p3 | exact H.p4 | exact H.p5 | exact H.p6 | exact H.p7) (Nat.le_of_ble_eq_true rfl) (by first | exact rfl | (simp only [f0, f1, f2, f3, f4, f5, f6, f7]; done) | (simp only [onA, *]; done)) (by first | exact rfl | (simp only [f0, f1, f2, f3, f4, f5, f6, f7]; done) | (simp only [onA, *]; done)) ?_)
      | ((with_reducible show opC (unit (hstore _ _ _ _)) _); refine sl_storeN (by with_reducible first | exact H | exact H.p1 | exact H.p2 | exact H.p3 | exact H.p4 | exact H.p5 | exact H.p6 | exact H.p7) rfl (Nat.le_of_ble_eq_true rfl) (by first | exact rfl | (simp only [f0, f1, f2, f3, f4, f5, f6, f7]; done) | (simp only [onA, *]; done)) ?_)
      | ((with_reducible show opC (happend _ _ _ _ _) _); refine sl_append (by with_reducible first | exact H | exact H.p1 | exact H.p2 | exact H.p3 | exact H.p4 | exact H.p5 | exact H.p6 | exact H.p7) (by first | assumption | with_reducible first | exact f0.2.1 | exact f1.2.1 | exact f2.2.1 | exact f3.2.1 | exact f4.2.1 | exact f5.2.1 | exact f6.2.1 | exact f7.2.1 | exact va_takeS) (by first | exact roomFor_of (by omega) | exact roomFor_wide (by omega)) (by omega) ?_)
      | ((with_reducible show opC (happend _ _ _ _ _) _); refine sl_append0X H (by first | assumption | with_reducible first | exact f0.2.1 | exact f1.2.1 | exact f2.2.1 | exact f3.2.1 | exact f4.2.1 | exact f5.2.1 | exact f6.2.1 | exact f7.2.1 | exact va_takeS) (by first | exact roomFor_of (by omega) | exact roomFor_wide (by omega)) (by omega) ?_)
      | ((with_reducible show opC (happend _ _ _ _ _) _); refine sl_appendX (by with_reducible first | exact H | exact H.p1 | exact H.p2 | exact H.p3 | exact H.p4 | exact H.p5 | exact H.p6 | exact H.p7) (by first | assumption | with_reducible first | exact f0.2.1 | exact f1.2.1 | exact f2.2.1 | exact f3.2.1 | exact f4.2.1 | exact f5.2.1 | exact f6.2.1 | exact f7.2.1 | exact va_takeS) (by first | exact roomFor_of (by omega) | exact roomFor_wide (by omega)) (by omega) ?_)
      | ((with_reducible show opC (hbuildSlice _ _ _ _ _) _); refine sl_bslice1 H rfl (by first | exact rfl | (simp only [f0, f1, f2, f3, f4, f5, f6, f7]; done) | (simp only [onA, *]; done)) (by first | exact rfl | (simp only [f0, f1, f2, f3, f4, f5, f6, f7]; done) | (simp only [onA, *]; done)) ?_)
      | ((with_reducible show opC (hbox _ _) _); refine sl_box1 H (by first | exact rfl | (simp only [f0, f1, f2, f3, f4, f5, f6, f7]; done) | (simp only [onA, *]; done)) (by first | exact rfl | (simp only [f0, f1, f2, f3, f4, f5, f6, f7]; done) | (simp only [onA, *]; done)) ?_)
      | ((with_reducible show opC (hbox _ _) _); refine sl_boxA H (by first | exact rfl | (simp only [f0, f1, f2, f3, f4, f5, f6, f7]; done) | (simp only [onA, *]; done)) ?_)
      | refine hwp_draw mixed rfl ?_
      | with_reducible intro hy

    · have e : nextS ⟨most, 3, held, size, left, half, ended⟩ = (none, ⟨most, 3, held, size, left, half, ended⟩) := by
        unfold nextS; rw [if_neg (by simp), if_neg (by simp), if_neg (by simp), if_pos (by simp only; omega)]
      rw [e]
      exact ⟨.nilSlice, rfl, Sat.p1 (Sat.ex0 (in_open.2 ⟨v, H.t.t⟩))⟩
    · have e : nextS ⟨most, 3, held, size, left, half, ended⟩ = (some ⟨4, [], []⟩, ⟨most, 0, held, size, left, half, ended⟩) := by
        unfold nextS; rw [if_neg (by simp), if_neg (by simp), if_neg (by simp), if_neg (by simp only; omega)]
      rw [e]
      exact ⟨.nilSlice, rfl, Sat.p1 (Sat.ex0 (in_open.2 ⟨v, H.t.p1.t⟩))⟩
end Go.Proofs.Ytccfcegmaejlnaa
namespace Go.Proofs.Ytccfcegmaejlnaa
open Go Go.HL
set_option maxRecDepth 100000
set_option maxHeartbeats 40000000
set_option linter.unusedSimpArgs false
attribute [local irreducible] pt My Ex Vw Gr GrK each grp exs Sat takeCells happend hbuildSlice hstore hbox hslice hmakeSlice hs2b hcopy HL.unit opC
theorem ok8 : okF Try.prog 8 := ⟨_, Try.func8, by kernel_rfl, by kernel_rfl⟩
theorem ok9 : okF Try.prog 9 := ⟨_, Try.func9, by kernel_rfl, by kernel_rfl⟩
theorem ok20 : okF Try.prog 20 := ⟨_, Try.func20, by kernel_rfl, by kernel_rfl⟩
theorem ok21 : okF Try.prog 21 := ⟨_, Try.func21, by kernel_rfl, by kernel_rfl⟩
theorem ok22 : okF Try.prog 22 := ⟨_, Try.func22, by kernel_rfl, by kernel_rfl⟩
theorem ok23 : okF Try.prog 23 := ⟨_, Try.func23, by kernel_rfl, by kernel_rfl⟩
theorem ok24 : okF Try.prog 24 := ⟨_, Try.func24, by kernel_rfl, by kernel_rfl⟩
theorem ok25 : okF Try.prog 25 := ⟨_, Try.func25, by kernel_rfl, by kernel_rfl⟩
/-- an act that was handed in. -/
structure ActV where
  kind : Int
  at_ : Int
  n : Int
  v : HV
  data : List UInt8
def ActV.cells (a : ActV) : List HV := [.int .i64 a.kind, .int .i64 a.at_, .int .i64 a.n, a.v]
structure ArgsAt (hs : HS) (sv : HV) (A : List ActV) : Prop where
  row : Rd hs 4 sv A.length (A.flatMap ActV.cells)
  data : ∀ a ∈ A, Rd hs 1 a.v a.data.length (bcells a.data)
  few : A.length < 4611686018427387904
  small : ∀ a ∈ A, a.data.length < 4611686018427387904
def total (A : List ActV) : Nat := A.length + (A.map fun a => a.data.length).sum
theorem ArgsAt.idx {hs : HS} {sv : HV} {A : List ActV} (R : ArgsAt hs sv A) {i : Nat} {a : ActV} (hi : A[i]? = some a) :
    ∃ h o, hindexAddr 4 sv (.int .i64 (i : Nat)) = some (.ptr h o) ∧ hload none hs (.ptr h (o + 3)) = some a.v ∧ hload (some 4) hs (.ptr h o) = some (.agg a.cells) := by
  obtain ⟨h, o, h1, h2, h3⟩ := R.row.idxF (s := 4) (fun _ => rfl) rfl hi .i64
  exact ⟨h, o, h1, h2 3 (by omega), h3⟩
theorem sum_take {A : List ActV} {i : Nat} {a : ActV} (hi : A[i]? = some a) : ((A.take (i + 1)).map fun a => a.data.length).sum = ((A.take i).map fun a => a.data.length).sum + a.data.length := by
  rw [List.take_add_one, hi]; simp
theorem sum_le : ∀ (A : List ActV) (i : Nat), ((A.take i).map fun a => a.data.length).sum ≤ (A.map fun a => a.data.length).sum
  | [], i => by simp
  | a :: A, 0 => by simp
  | a :: A, i + 1 => by have := sum_le A i; simp only [List.take_succ_cons, List.map_cons, List.sum_cons]; omega

def amongF (i : Int) (m : Nat) : Nat := (i % (m : Int)).toNat
theorem among_lt {i : Int} {m : Nat} (h : 1 ≤ m) : amongF i m < m := by
  unfold amongF
  have h1 := Int.emod_nonneg i (show (m : Int) ≠ 0 by omega)
  have h2 := Int.emod_lt_of_pos i (show (0 : Int) < m by omega)
  omega
theorem among20 {hs : HS} (i : Int) (m : Nat) (hm : 1 ≤ m ∧ m < 4611686018427387904) : HC Try.prog 20 [.int .i64 i, .int .i64 (m : Nat)] hs fun v hs' => v = .int .i64 (amongF i m : Nat) ∧ hs' = hs := by
  refine HC.wp mixed Try.func20 c20 ?_
  · skip
    have hr : hbin .rem none (.int .i64 i) (.int .i64 (m : Nat)) = some (.int .i64 (i.tmod m)) := by
      have : hbin .rem none (.int .i64 i) (.int .i64 (m : Nat)) = if IntKind.i64 = IntKind.i64 ∧ ((m : Nat) : Int) ≠ 0 then some (.int .i64 (i.tmod m)) else none := rfl
      rw [this, if_pos ⟨rfl, by omega⟩]
    have hlt := among_lt (i := i) (m := m) (by omega)
    have h1 := Int.emod_nonneg i (show (m : Int) ≠ 0 by omega)
    have ht : i.tmod m = if i.tmod m < 0 then (amongF i m : Int) - m else (amongF i m : Int) := by
      unfold amongF
      rw [Int.toNat_of_nonneg h1, Int.tmod_eq_emod]
      have h2 := Int.emod_lt_of_pos i (show (0 : Int) < m by omega)
      by_cases hd : 0 ≤ i ∨ (m : Int) ∣ i
      · rw [if_pos hd, if_neg (by omega)]; omega
      · rw [if_neg hd, Int.natAbs_natCast, if_pos (by omega)]
    have ha : i.tmod m < 0 → hbin .add none (.int .i64 (i.tmod m)) (.int .i64 (m : Nat)) = some (.int .i64 (amongF i m : Nat)) := by
      intro h
      rw [if_pos h] at ht
      rw [vaddI (by omega)]
      congr 2; omega
    by_cases hneg : i.tmod m < 0
    · have ha := ha hneg
      repeat' first
        | simp -implicitDefEqProofs (disch := first | omega | decide | exact rfl | assumption | exact Nat.le_of_ble_eq_true rfl | exact One.c | exact One.o) only [vsA, vsB, eq_self, if_true, if_false, implies_true, false_implies, evp, HX.ev, Nat.reduceAdd, HOp.looks, Nat.reduceEqDiff, overw, Nat.reduceBEq, h20, hr, ha, ub20, frame0, List.replicate, Nat.sub]
        | (refine condK_cases (fun h => ?_) (fun h => ?_) <;> (try simp only [h]) <;> (try simp only [athA, ne_eq] at h) <;> (try (exfalso; omega)))
        | (refine guardK_cases (fun h => ?_) (fun h => ?_) <;> (try simp only [h]) <;> (try simp only [athA, ne_eq] at h) <;> (try (exfalso; omega)))
        | (refine dgK_cases (fun h => ?_) (fun h => ?_) <;> (try simp only [h]) <;> (try simp only [athA, ne_eq] at h) <;> (try (exfalso; omega)))
        | refine hwp_draw mixed rfl ?_

    · rw [if_neg hneg] at ht
      repeat' first
        | simp -implicitDefEqProofs (disch := first | omega | decide | exact rfl | assumption | exact Nat.le_of_ble_eq_true rfl | exact One.c | exact One.o) only [vsA, vsB, eq_self, if_true, if_false, implies_true, false_implies, evp, HX.ev, Nat.reduceAdd, HOp.looks, Nat.reduceEqDiff, overw, Nat.reduceBEq, h20, hr, ub20, frame0, List.replicate, Nat.sub]
        | (refine condK_cases (fun h => ?_) (fun h => ?_) <;> (try simp only [h]) <;> (try simp only [athA, ne_eq] at h) <;> (try (exfalso; omega)))
        | (refine guardK_cases (fun h => ?_) (fun h => ?_) <;> (try simp only [h]) <;> (try simp only [athA, ne_eq] at h) <;> (try (exfalso; omega)))
        | (refine dgK_cases (fun h => ?_) (fun h => ?_) <;> (try simp only [h]) <;> (try simp only [athA, ne_eq] at h) <;> (try (exfalso; omega)))
        | refine hwp_draw mixed rfl ?_

      rw [ht]
theorem beyond8 {hs : HS} {sv : HV} {A : List ActV} (R : ArgsAt hs sv A) : HC Try.prog 8 [sv] hs fun v hs' => v = .bool (decide (2147483647 < total A)) ∧ hs' = hs := by
  have ls := R.row.len hs
  have so := R.row.sOk
  have few := R.few
  refine HC.wp mixed Try.func8 c8 ?_
  repeat' first
    | simp -implicitDefEqProofs (disch := first | omega | decide | exact rfl | assumption | exact Nat.le_of_ble_eq_true rfl | exact One.c | exact One.o) only [vsA, vsB, eq_self, if_true, if_false, implies_true, false_implies, evp, HX.ev, Nat.reduceAdd, HOp.looks, Nat.reduceEqDiff, overw, Nat.reduceBEq, h8, ls, ub8, frame0, List.replicate, Nat.sub]
    | (refine condK_cases (fun h => ?_) (fun h => ?_) <;> (try simp only [h]) <;> (try simp only [athA, ne_eq] at h) <;> (try (exfalso; omega)))
    | (refine guardK_cases (fun h => ?_) (fun h => ?_) <;> (try simp only [h]) <;> (try simp only [athA, ne_eq] at h) <;> (try (exfalso; omega)))
    | (refine dgK_cases (fun h => ?_) (fun h => ?_) <;> (try simp only [h]) <;> (try simp only [athA, ne_eq] at h) <;> (try (exfalso; omega)))
    | refine hwp_draw mixed rfl ?_

  refine HW.loopR mixed (fun i : Nat => (sv :: .undef :: .undef :: .int .i64 ((A.length + ((A.take i).map fun a => a.data.length).sum : Nat) : Int) :: .int .i64 (i : Nat) :: .undef :: .undef :: .undef :: .undef :: .undef :: .undef :: .undef :: .undef :: .undef :: .undef :: .undef :: .undef :: .undef :: .undef :: .undef :: .undef :: .undef :: .undef :: .undef :: .undef :: .undef :: .undef :: [])) (fun i => A.length - i) (fun i => i ≤ A.length ∧ (((A.take i).map fun a => a.data.length).sum < 9223372036854775807 - A.length)) 0 ⟨by omega, by simp; omega⟩ (by (repeat first | exact Less.nil | refine Less.undef _ ?_ | refine Less.keep _ ?_)) ?_
  rintro i ⟨hi, hsum⟩
  by_cases h : i < A.length
  · obtain ⟨a, ha⟩ : ∃ a, A[i]? = some a := ⟨_, List.getElem?_eq_getElem h⟩
    obtain ⟨q, o, h1, h2, _⟩ := R.idx ha
    have hd := (R.data a (List.mem_of_getElem? ha)).len hs
    have hs1 := sum_take ha
    have hsm := R.small a (List.mem_of_getElem? ha)
    repeat' first
      | simp -implicitDefEqProofs (disch := first | omega | decide | exact rfl | assumption | exact Nat.le_of_ble_eq_true rfl | exact One.c | exact One.o) only [vsA, vsB, eq_self, if_true, if_false, implies_true, false_implies, evp, HX.ev, Nat.reduceAdd, HOp.looks, Nat.reduceEqDiff, overw, Nat.reduceBEq, ls, so, h1, h2, hd, vadd1, vaddn, ub8]
      | (refine condK_cases (fun h => ?_) (fun h => ?_) <;> (try simp only [h]) <;> (try simp only [athA, ne_eq] at h) <;> (try (exfalso; omega)))
      | (refine guardK_cases (fun h => ?_) (fun h => ?_) <;> (try simp only [h]) <;> (try simp only [athA, ne_eq] at h) <;> (try (exfalso; omega)))
      | (refine dgK_cases (fun h => ?_) (fun h => ?_) <;> (try simp only [h]) <;> (try simp only [athA, ne_eq] at h) <;> (try (exfalso; omega)))
      | refine hwp_draw mixed rfl ?_

    · refine ⟨i + 1, by omega, ⟨by omega, by omega⟩, ?_⟩
      rw [hs1, ← Nat.add_assoc]
      (repeat first | exact Less.nil | refine Less.undef _ ?_ | refine Less.keep _ ?_)
    · have := sum_le A i
      refine congrArg HV.bool (decide_eq_decide.2 ?_)
      unfold total
      omega
  · skip
    repeat' first
      | simp -implicitDefEqProofs (disch := first | omega | decide | exact rfl | assumption | exact Nat.le_of_ble_eq_true rfl | exact One.c | exact One.o) only [vsA, vsB, eq_self, if_true, if_false, implies_true, false_implies, evp, HX.ev, Nat.reduceAdd, HOp.looks, Nat.reduceEqDiff, overw, Nat.reduceBEq, ls, ub8]
      | (refine condK_cases (fun h => ?_) (fun h => ?_) <;> (try simp only [h]) <;> (try simp only [athA, ne_eq] at h) <;> (try (exfalso; omega)))
      | (refine guardK_cases (fun h => ?_) (fun h => ?_) <;> (try simp only [h]) <;> (try simp only [athA, ne_eq] at h) <;> (try (exfalso; omega)))
      | (refine dgK_cases (fun h => ?_) (fun h => ?_) <;> (try simp only [h]) <;> (try simp only [athA, ne_eq] at h) <;> (try (exfalso; omega)))
      | refine hwp_draw mixed rfl ?_

    obtain rfl : i = A.length := by omega
    rw [List.take_length]
    refine congrArg HV.bool (decide_eq_decide.2 ?_)
    unfold total
    omega

theorem shown9 {hs : HS} {l : List SA} (H : Sat hs l) (G : ∀ hs, Sat hs l → hs[0]? = some (some (HB.gint 0))) : HC Try.prog 9 [] hs fun v hs' => v = .bool true ∧ Sat hs' l := by
  have n1 := new17 H 4
  refine HC.wp mixed Try.func9 c9 ?_
  first | have f0 := Sat.pf (H) | have f0 := trivial
  first | have f1 := Sat.pf (H.t) | have f1 := trivial
  first | have f2 := Sat.pf (H.t.t) | have f2 := trivial
  first | have f3 := Sat.pf (H.t.t.t) | have f3 := trivial
  first | have f4 := Sat.pf (H.t.t.t.t) | have f4 := trivial
  first | have f5 := Sat.pf (H.t.t.t.t.t) | have f5 := trivial
  first | have f6 := Sat.pf (H.t.t.t.t.t.t) | have f6 := trivial
  first | have f7 := Sat.pf (H.t.t.t.t.t.t.t) | have f7 := trivial
  have e1 : feedF (newS 4) [97, 98, 13, 10, 120, 121, 122, 13, 10, 113] = ⟨4, 0, [97, 98, 13, 10, 120, 121, 122, 13, 10, 113], 0, 0, false, false⟩ := by kernel_rfl
  have e2 : nextS ⟨4, 0, [97, 98, 13, 10, 120, 121, 122, 13, 10, 113], 0, 0, false, false⟩ = (some ⟨1, [97, 98], []⟩, ⟨4, 0, [120, 121, 122, 13, 10, 113], 0, 0, false, false⟩) := by kernel_rfl
  have e3 : bodyS ⟨4, 0, [120, 121, 122, 13, 10, 113], 0, 0, false, false⟩ 3 = (⟨4, 2, [120, 121, 122, 13, 10, 113], 3, 0, false, false⟩, 0) := by kernel_rfl
  have e4 : nextS ⟨4, 2, [120, 121, 122, 13, 10, 113], 3, 0, false, false⟩ = (some ⟨3, [], [120, 121, 122]⟩, ⟨4, 0, [113], 3, 0, false, false⟩) := by kernel_rfl
  have hm := True.intro
  have o1 := True.intro
  have o2 := True.intro
  have rcs := True.intro
  have H := H
  repeat' first
    | ((with_reducible show Need _); refine need_of ?_; (first | have f0 := Sat.pf (H) | have f0 := trivial); (first | have f1 := Sat.pf (H.t) | have f1 := trivial); (first | have f2 := Sat.pf (H.t.t) | have f2 := trivial); (first | have f3 := Sat.pf (H.t.t.t) | have f3 := trivial); (first | have f4 := Sat.pf (H.t.t.t.t) | have f4 := trivial); (first | have f5 := Sat.pf (H.t.t.t.t.t) | have f5 := trivial); (first | have f6 := Sat.pf (H.t.t.t.t.t.t) | have f6 := trivial); (first | have f7 := Sat.pf (H.t.t.t.t.t.t.t) | have f7 := trivial); (first | have rcs := rd_b2sK (Sat.rdX H.t.t) | skip))
    | simp -implicitDefEqProofs (disch := first | omega | decide | exact rfl | assumption | exact Nat.le_of_ble_eq_true rfl | exact One.c | exact One.o) only [vsA, vsB, eq_self, if_true, if_false, implies_true, false_implies, evp, HX.ev, Nat.reduceAdd, HOp.looks, Nat.reduceEqDiff, overw, Nat.reduceBEq, h9, hm, o1, o2, rcs, u8e10, va_loadA, va_ldA, ub9, f0, f1, f2, f3, f4, f5, f6, f7, frame0, List.replicate, Nat.sub]
    | (refine condK_cases (fun h => ?_) (fun h => ?_) <;> (try simp only [h]) <;> (try simp only [athA, ne_eq] at h) <;> (try (exfalso; omega)))
    | (refine guardK_cases (fun h => ?_) (fun h => ?_) <;> (try simp only [h]) <;> (try simp only [athA, ne_eq] at h) <;> (try (exfalso; omega)))
    | (refine dgK_cases (fun h => ?_) (fun h => ?_) <;> (try simp only [h]) <;> (try simp only [athA, ne_eq] at h) <;> (try (exfalso; omega)))
    | (clear H f0 f1 f2 f3 f4 f5 f6 f7; (with_reducible intro v2 hs H); (try simp only [setA, overw, Nat.reduceAdd] at H); refine need ?_)
    | ((with_reducible show actK _ (HAct.call (HX.cst (HV.func (Fn.func 17) _ _)) _) _ _ _ _ _); refine vcall_of ok17 rfl (new17 H 4) ?_;  intro v hs h; rw [if_neg (by decide)] at h; obtain ⟨p, rfl, H⟩ := h; refine need ?_)
    | ((with_reducible show drK _ _ _ _ _ _ _ _ _ (some ⟨_, HAct.call (HX.cst (HV.func (Fn.func 17) _ _)) _, none⟩)); refine vdr_call ok17 rfl (new17 H 4) ?_;  intro v hs h; rw [if_neg (by decide)] at h; obtain ⟨p, rfl, H⟩ := h; refine need ?_)
    | ((with_reducible show actK _ (HAct.call (HX.cst (HV.func (Fn.func 28) _ _)) _) _ _ _ _ _); refine vcall_of ok28 rfl (clone28 H (by decide)) ?_;  clear H f0 f1 f2 f3 f4 f5 f6 f7; rintro v hs ⟨q, rfl, H⟩; have H := H.t; refine need ?_)
    | ((with_reducible show drK _ _ _ _ _ _ _ _ _ (some ⟨_, HAct.call (HX.cst (HV.func (Fn.func 28) _ _)) _, none⟩)); refine vdr_call ok28 rfl (clone28 H (by decide)) ?_;  clear H f0 f1 f2 f3 f4 f5 f6 f7; rintro v hs ⟨q, rfl, H⟩; have H := H.t; refine need ?_)
    | ((with_reducible show actK _ (HAct.call (HX.cst (HV.func (Fn.func 18) _ _)) _) _ _ _ _ _); refine vcall_of ok18 rfl (feedP (bs := [97, 98, 13, 10, 120, 121, 122, 13, 10, 113]) H.p1 (fun _ h => h.rd) (by decide) (by decide)) ?_;  clear H f0 f1 f2 f3 f4 f5 f6 f7; rintro _ hs H; have H := H.p1.t; rw [show (4 : Int).toNat = 4 from rfl, e1] at H; refine need ?_)
    | ((with_reducible show drK _ _ _ _ _ _ _ _ _ (some ⟨_, HAct.call (HX.cst (HV.func (Fn.func 18) _ _)) _, none⟩)); refine vdr_call ok18 rfl (feedP (bs := [97, 98, 13, 10, 120, 121, 122, 13, 10, 113]) H.p1 (fun _ h => h.rd) (by decide) (by decide)) ?_;  clear H f0 f1 f2 f3 f4 f5 f6 f7; rintro _ hs H; have H := H.p1.t; rw [show (4 : Int).toNat = 4 from rfl, e1] at H; refine need ?_)
    | ((with_reducible show actK _ (HAct.call (HX.cst (HV.func (Fn.func 26) _ _)) _) _ _ _ _ _); refine vcall_of ok26 rfl (next26 H G (by decide) (by decide) (by decide) (by decide)) ?_;  clear H f0 f1 f2 f3 f4 f5 f6 f7; rintro v hs ⟨w, rfl, H⟩; rw [e2] at H; simp only [e2, itV, itB]; refine need ?_)
    | ((with_reducible show drK _ _ _ _ _ _ _ _ _ (some ⟨_, HAct.call (HX.cst (HV.func (Fn.func 26) _ _)) _, none⟩)); refine vdr_call ok26 rfl (next26 H G (by decide) (by decide) (by decide) (by decide)) ?_;  clear H f0 f1 f2 f3 f4 f5 f6 f7; rintro v hs ⟨w, rfl, H⟩; rw [e2] at H; simp only [e2, itV, itB]; refine need ?_)
    | ((with_reducible show actK _ (HAct.call (HX.cst (HV.func (Fn.func 27) _ _)) _) _ _ _ _ _); refine vcall_of ok27 rfl (body27 H.p1 3 (by decide)) ?_;  clear H f0 f1 f2 f3 f4 f5 f6 f7; rintro v hs ⟨rfl, H⟩; rw [e3] at H; simp only [e3]; refine need ?_)
    | ((with_reducible show drK _ _ _ _ _ _ _ _ _ (some ⟨_, HAct.call (HX.cst (HV.func (Fn.func 27) _ _)) _, none⟩)); refine vdr_call ok27 rfl (body27 H.p1 3 (by decide)) ?_;  clear H f0 f1 f2 f3 f4 f5 f6 f7; rintro v hs ⟨rfl, H⟩; rw [e3] at H; simp only [e3]; refine need ?_)
    | ((with_reducible show actK _ (HAct.call (HX.cst (HV.func (Fn.func 26) _ _)) _) _ _ _ _ _); refine vcall_of ok26 rfl (next26 H (fun _ h => G _ h.t.t) (by decide) (by decide) (by decide) (by decide)) ?_;  clear H f0 f1 f2 f3 f4 f5 f6 f7; rintro v hs ⟨w2, rfl, H⟩; rw [e4] at H; simp only [e4, itV]; refine need ?_)
    | ((with_reducible show drK _ _ _ _ _ _ _ _ _ (some ⟨_, HAct.call (HX.cst (HV.func (Fn.func 26) _ _)) _, none⟩)); refine vdr_call ok26 rfl (next26 H (fun _ h => G _ h.t.t) (by decide) (by decide) (by decide) (by decide)) ?_;  clear H f0 f1 f2 f3 f4 f5 f6 f7; rintro v hs ⟨w2, rfl, H⟩; rw [e4] at H; simp only [e4, itV]; refine need ?_)
    | ((with_reducible show actK _ (HAct.call (HX.cst (HV.func (Fn.func 14) _ _)) _) _ _ _ _ _); refine vcall_of ok14 rfl (held14 H.p1) ?_; rintro _ _ ⟨rfl, rfl⟩)
    | ((with_reducible show drK _ _ _ _ _ _ _ _ _ (some ⟨_, HAct.call (HX.cst (HV.func (Fn.func 14) _ _)) _, none⟩)); refine vdr_call ok14 rfl (held14 H.p1) ?_; rintro _ _ ⟨rfl, rfl⟩)
    | refine opC_K ?_
    | refine opC_D ?_
    | ((with_reducible show opC (hbuildSlice _ _ _ _ _) _); refine sl_bsliceKM H (by decide) rfl rfl (by decide) rfl rfl ?_; clear H f0 f1 f2 f3 f4 f5 f6 f7; intro y hs H hm; refine need ?_)
    | ((with_reducible show opC (unit (hstore _ _ _ _)) _); refine sl_store1 (by with_reducible first | exact H | exact H.p1 | exact H.p2 | exact H.p3 | exact H.p4 | exact H.p5 | exact H.p6 | exact H.p7) (Nat.le_of_ble_eq_true rfl) (by first | exact rfl | (simp only [f0, f1, f2, f3, f4, f5, f6, f7]; done) | (simp only [onA, *]; done)) (by first | exact rfl | (simp only [f0, f1, f2, f3, f4, f5, f6, f7]; done) | (simp only [onA, *]; done)) ?_)
    | ((with_reducible show opC (unit (hstore _ _ _ _)) _); refine sl_storeN (by with_reducible first | exact H | exact H.p1 | exact H.p2 | exact H.p3 | exact H.p4 | exact H.p5 | exact H.p6 | exact H.p7) rfl (Nat.le_of_ble_eq_true rfl) (by first | exact rfl | (simp only [f0, f1, f2, f3, f4, f5, f6, f7]; done) | (simp only [onA, *]; done)) ?_)
    | ((with_reducible show opC (happend _ _ _ _ _) _); refine sl_append (by with_reducible first | exact H | exact H.p1 | exact H.p2 | exact H.p3 | exact H.p4 | exact H.p5 | exact H.p6 | exact H.p7) (by first | assumption | with_reducible first | exact f0.2.1 | exact f1.2.1 | exact f2.2.1 | exact f3.2.1 | exact f4.2.1 | exact f5.2.1 | exact f6.2.1 | exact f7.2.1 | exact va_takeS) (by first | exact roomFor_of (by omega) | exact roomFor_wide (by omega)) (by omega) ?_)
    | ((with_reducible show opC (happend _ _ _ _ _) _); refine sl_append0X H (by first | assumption | with_reducible first | exact f0.2.1 | exact f1.2.1 | exact f2.2.1 | exact f3.2.1 | exact f4.2.1 | exact f5.2.1 | exact f6.2.1 | exact f7.2.1 | exact va_takeS) (by first | exact roomFor_of (by omega) | exact roomFor_wide (by omega)) (by omega) ?_)
    | ((with_reducible show opC (happend _ _ _ _ _) _); refine sl_appendX (by with_reducible first | exact H | exact H.p1 | exact H.p2 | exact H.p3 | exact H.p4 | exact H.p5 | exact H.p6 | exact H.p7) (by first | assumption | with_reducible first | exact f0.2.1 | exact f1.2.1 | exact f2.2.1 | exact f3.2.1 | exact f4.2.1 | exact f5.2.1 | exact f6.2.1 | exact f7.2.1 | exact va_takeS) (by first | exact roomFor_of (by omega) | exact roomFor_wide (by omega)) (by omega) ?_)
    | ((with_reducible show opC (hbuildSlice _ _ _ _ _) _); refine sl_bslice1 H rfl (by first | exact rfl | (simp only [f0, f1, f2, f3, f4, f5, f6, f7]; done) | (simp only [onA, *]; done)) (by first | exact rfl | (simp only [f0, f1, f2, f3, f4, f5, f6, f7]; done) | (simp only [onA, *]; done)) ?_)
    | ((with_reducible show opC (hbox _ _) _); refine sl_box1 H (by first | exact rfl | (simp only [f0, f1, f2, f3, f4, f5, f6, f7]; done) | (simp only [onA, *]; done)) (by first | exact rfl | (simp only [f0, f1, f2, f3, f4, f5, f6, f7]; done) | (simp only [onA, *]; done)) ?_)
    | ((with_reducible show opC (hbox _ _) _); refine sl_boxA H (by first | exact rfl | (simp only [f0, f1, f2, f3, f4, f5, f6, f7]; done) | (simp only [onA, *]; done)) ?_)
    | refine hwp_draw mixed rfl ?_
    | with_reducible intro hy

  all_goals first | exact absurd rfl h | exact ⟨rfl, H.t.t.t.t.t⟩ | exact H.t.t.t.t.t | exact ⟨congrArg HV.bool (by decide), H.t.t.t.t.t⟩
/-- a text up to the first end of a line in it. -/
def cutF (s : List UInt8) : List UInt8 := match lineAt s with
  | some k => s.take k
  | none => s
theorem slStr_hi {s : List UInt8} {i : Nat} (h : i ≤ s.length) : hsliceStr (.str s) none (some (.int .i64 (i : Nat))) = some (.str (s.take i)) := by
  simp only [hsliceStr, bounds_of Lo.none (Hi.some (hi := i) (k := .i64)) (Nat.zero_le _) h (Nat.le_refl _)]
  rfl
theorem cut23 {hs : HS} (s : List UInt8) (hb : s.length < 4611686018427387904) : HC Try.prog 23 [.str s] hs fun v hs' => v = .str (cutF s) ∧ hs' = hs := by
  refine HC.wp mixed Try.func23 c23 ?_
  repeat' first
    | simp -implicitDefEqProofs (disch := first | omega | decide | exact rfl | assumption | exact Nat.le_of_ble_eq_true rfl | exact One.c | exact One.o) only [vsA, vsB, eq_self, if_true, if_false, implies_true, false_implies, evp, HX.ev, Nat.reduceAdd, HOp.looks, Nat.reduceEqDiff, overw, Nat.reduceBEq, h23, ub23, frame0, List.replicate, Nat.sub]
    | (refine condK_cases (fun h => ?_) (fun h => ?_) <;> (try simp only [h]) <;> (try simp only [athA, ne_eq] at h) <;> (try (exfalso; omega)))
    | (refine guardK_cases (fun h => ?_) (fun h => ?_) <;> (try simp only [h]) <;> (try simp only [athA, ne_eq] at h) <;> (try (exfalso; omega)))
    | (refine dgK_cases (fun h => ?_) (fun h => ?_) <;> (try simp only [h]) <;> (try simp only [athA, ne_eq] at h) <;> (try (exfalso; omega)))
    | refine hwp_draw mixed rfl ?_

  refine HW.loopR mixed (fun i : Nat => (.str s :: .undef :: .undef :: .int .i64 (i : Nat) :: .undef :: .undef :: .undef :: .undef :: .undef :: .undef :: .undef :: .undef :: .undef :: .undef :: .undef :: .undef :: .undef :: .undef :: .undef :: .undef :: .undef :: .undef :: .undef :: .undef :: .undef :: .undef :: [])) (fun i => s.length - i) (fun i => i ≤ s.length ∧ lineAt s = (lineAt (s.drop i)).map (· + i)) 0 ⟨by omega, by simp⟩ (by (repeat first | exact Less.nil | refine Less.undef _ ?_ | refine Less.keep _ ?_)) ?_
  rintro i ⟨hi, he⟩
  by_cases h : i + 1 < s.length
  · have g1 : hindexStr (.str s) (.int .i64 (i : Nat)) = some (.int .u8 (s[i].toNat)) := vidxStr_some (List.getElem?_eq_getElem (by omega))
    have g2 : hindexStr (.str s) (.int .i64 ((i + 1 : Nat) : Int)) = some (.int .u8 (s[i + 1].toNat)) := vidxStr_some (List.getElem?_eq_getElem h)
    have g3 := slStr_hi (s := s) (i := i) (by omega)
    have hd : s.drop i = s[i] :: s.drop (i + 1) := List.drop_eq_getElem_cons (by omega)
    have hh : (s.drop (i + 1)).head? = some s[i + 1] := by rw [List.head?_drop, List.getElem?_eq_getElem h]
    repeat' first
      | simp -implicitDefEqProofs (disch := first | omega | decide | exact rfl | assumption | exact Nat.le_of_ble_eq_true rfl | exact One.c | exact One.o) only [vsA, vsB, eq_self, if_true, if_false, implies_true, false_implies, evp, HX.ev, Nat.reduceAdd, HOp.looks, Nat.reduceEqDiff, overw, Nat.reduceBEq, g1, g2, g3, u8e10, u8e13, vadd1, ub23]
      | (refine condK_cases (fun h => ?_) (fun h => ?_) <;> (try simp only [h]) <;> (try simp only [athA, ne_eq] at h) <;> (try (exfalso; omega)))
      | (refine guardK_cases (fun h => ?_) (fun h => ?_) <;> (try simp only [h]) <;> (try simp only [athA, ne_eq] at h) <;> (try (exfalso; omega)))
      | (refine dgK_cases (fun h => ?_) (fun h => ?_) <;> (try simp only [h]) <;> (try simp only [athA, ne_eq] at h) <;> (try (exfalso; omega)))
      | refine hwp_draw mixed rfl ?_

    · have e : lineAt s = some i := by
        rw [he, hd, lineAt, if_pos ⟨by assumption, by rw [hh]; simp [*]⟩]; simp
      unfold cutF; rw [e]
    all_goals
      refine ⟨i + 1, by omega, ⟨by omega, ?_⟩, (by (repeat first | exact Less.nil | refine Less.undef _ ?_ | refine Less.keep _ ?_))⟩
      rw [he, hd, lineAt, if_neg (by rw [hh]; simp [*])]
      cases lineAt (s.drop (i + 1)) with
      | none => rfl
      | some k => simp only [Option.map_some, Option.some.injEq]; omega
  · skip
    repeat' first
      | simp -implicitDefEqProofs (disch := first | omega | decide | exact rfl | assumption | exact Nat.le_of_ble_eq_true rfl | exact One.c | exact One.o) only [vsA, vsB, eq_self, if_true, if_false, implies_true, false_implies, evp, HX.ev, Nat.reduceAdd, HOp.looks, Nat.reduceEqDiff, overw, Nat.reduceBEq, vadd1, ub23]
      | (refine condK_cases (fun h => ?_) (fun h => ?_) <;> (try simp only [h]) <;> (try simp only [athA, ne_eq] at h) <;> (try (exfalso; omega)))
      | (refine guardK_cases (fun h => ?_) (fun h => ?_) <;> (try simp only [h]) <;> (try simp only [athA, ne_eq] at h) <;> (try (exfalso; omega)))
      | (refine dgK_cases (fun h => ?_) (fun h => ?_) <;> (try simp only [h]) <;> (try simp only [athA, ne_eq] at h) <;> (try (exfalso; omega)))
      | refine hwp_draw mixed rfl ?_

    have e : lineAt s = none := by
      rw [he]
      cases hl : lineAt (s.drop i) with
      | none => rfl
      | some k => have := lineAt_le hl; simp at this; omega
    unfold cutF; rw [e]

end Go.Proofs.Ytccfcegmaejlnaa
namespace Go.Proofs.Ytccfcegmaejlnaa
open Go Go.HL
set_option maxRecDepth 100000
set_option linter.unusedSimpArgs false
theorem skipL_line : ∀ (b : List UInt8) (h : Bool), (skipL h b).2.1 = true →
    (h = true ∧ b.head? = some 10 ∧ (skipL h b).2.2 = b.tail) ∨ (¬ (h = true ∧ b.head? = some 10) ∧ ∃ k, lineAt b = some k ∧ (skipL h b).2.2 = b.drop (k + 2))
  | [], h, e => by simp [skipL] at e
  | c :: r, h, e => by
    by_cases hc : h = true ∧ c = 10
    · left
      refine ⟨hc.1, by rw [hc.2]; rfl, ?_⟩
      unfold skipL
      rw [if_pos (by simp [hc])]; rfl
    · right
      have hs : skipL h (c :: r) = skipL (c == 13) r := by
        rw [skipL, if_neg]
        simp only [Bool.and_eq_true, beq_iff_eq]; exact hc
      rw [hs] at e ⊢
      refine ⟨by simpa using hc, ?_⟩
      rcases skipL_line r (c == 13) e with ⟨h1, h2, h3⟩ | ⟨h1, k, h2, h3⟩
      · refine ⟨0, ?_, ?_⟩
        · unfold lineAt; rw [if_pos ⟨by simpa using h1, h2⟩]
        · rw [h3]; simp [List.drop_one]
      · refine ⟨k + 1, ?_, ?_⟩
        · unfold lineAt
          rw [if_neg (by simpa using h1), h2]; rfl
        · rw [h3]; rfl
theorem skipL_none : ∀ (b : List UInt8) (h : Bool), (skipL h b).2.1 = false → (skipL h b).2.2 = []
  | [], h, _ => rfl
  | c :: r, h, e => by
    unfold skipL at e ⊢
    split
    · rename_i hc; rw [if_pos hc] at e; cases e
    · rename_i hc; rw [if_neg hc] at e; exact skipL_none r _ e
theorem skipL_one {b : List UInt8} {h : Bool} (e : (skipL h b).2.1 = true) : (skipL h b).2.2.length + 1 ≤ b.length := by
  rcases skipL_line b h e with ⟨_, h2, h3⟩ | ⟨_, k, h2, h3⟩
  · rw [h3]
    cases b with
    | nil => simp at h2
    | cons c r => simp
  · have := lineAt_le h2
    rw [h3, List.length_drop]; omega
theorem lineAt_take : ∀ {b : List UInt8} {k n : Nat}, lineAt b = some k → k + 2 ≤ n → lineAt (b.take n) = some k
  | [], k, n, h, _ => by simp [lineAt] at h
  | c :: r, k, 0, h, hn => by omega
  | c :: r, k, n + 1, h, hn => by
    rw [List.take_succ_cons]
    unfold lineAt at h ⊢
    split at h
    · rename_i hc
      cases h
      rw [if_pos ⟨hc.1, by
        cases r with
        | nil => simp at hc
        | cons d r =>
          cases n with
          | zero => omega
          | succ n => simpa using hc.2⟩]
    · rename_i hc
      cases hr : lineAt r with
      | none => rw [hr] at h; simp at h
      | some j =>
        rw [hr] at h
        simp only [Option.map_some, Option.some.injEq] at h
        have hj := lineAt_le hr
        rw [if_neg (by
          rintro ⟨h1, h2⟩
          refine hc ⟨h1, ?_⟩
          cases r with
          | nil => simp at hj
          | cons d r =>
            cases n with
            | zero => omega
            | succ n => simpa using h2), lineAt_take hr (by omega)]
        simp only [Option.map_some, Option.some.injEq]; exact h
theorem lineAt_before : ∀ {b : List UInt8} {k : Nat}, lineAt b = some k → lineAt (b.take k) = none
  | [], k, h => by simp [lineAt] at h
  | c :: r, 0, h => by simp [lineAt]
  | c :: r, k + 1, h => by
    rw [List.take_succ_cons]
    unfold lineAt at h ⊢
    split at h
    · simp at h
    · rename_i hc
      cases hr : lineAt r with
      | none => rw [hr] at h; simp at h
      | some j =>
        rw [hr] at h
        simp only [Option.map_some, Option.some.injEq] at h
        obtain rfl : j = k := by omega
        rw [if_neg (by
          rintro ⟨h1, h2⟩
          refine hc ⟨h1, ?_⟩
          cases r with
          | nil => simp at h2
          | cons d r =>
            cases j with
            | zero => simp at h2
            | succ n => simpa using h2), lineAt_before hr]
        rfl

/-- how an intake stands to what came, what was told, how much it may hold. -/
structure Inv (mx : Nat) (s : St) (came told bound size g : Nat) : Prop where
  st : s.st ≤ 3
  most : s.most = mx ∧ mx ≤ 65535
  size_ : s.size ≤ 4294967295 ∧ size ≤ 4294967295 ∧ s.left ≤ 4294967297
  acc : told + s.held.length + g ≤ came
  s0 : s.st = 0 → bound = 223
  s1 : s.st = 1 → bound = 223 ∧ (s.ended = false → s.held = [] ∧ 224 ≤ g) ∧ (s.ended = true → 225 ≤ g)
  s2 : s.st = 2 → s.size = size ∧ size ≤ mx ∧ bound = size + 1
  s3 : s.st = 3 → bound = 223 ∧ mx < size ∧ size + 2 ≤ g + s.left ∧ (0 < s.left → s.held = [])
variable {mx came told bound size g : Nat} {s : St}
theorem inv_new (h : 1 ≤ mx ∧ mx ≤ 65535) : Inv mx (newS mx) 0 0 223 0 0 :=
  ⟨by simp [newS], ⟨rfl, h.2⟩, by simp [newS], by simp [newS], fun _ => rfl, by simp [newS], by simp [newS], by simp [newS]⟩
theorem inv_feed (I : Inv mx s came told bound size g) (b : List UInt8) : ∃ g', Inv mx (feedF s b) (came + b.length) told bound size g' := by
  obtain ⟨h1, h2, h3, h4, h5, h6, h7, h8⟩ := I
  by_cases c1 : s.st = 1 ∧ s.ended = false
  · obtain ⟨e1, e2⟩ := c1
    rw [feedF1 e1 e2]
    obtain ⟨q1, q2, q3⟩ := h6 e1
    obtain ⟨q4, q5⟩ := q2 e2
    have ql := skipL_len s.half b
    refine ⟨g + (b.length - (skipL s.half b).2.2.length), h1, h2, h3, ?_, fun h => by simp only at h; omega, fun _ => ⟨q1, fun h => ?_, fun h => ?_⟩, fun h => by simp only at h; omega, fun h => by simp only at h; omega⟩
    · simp only [q4, List.nil_append] at h4 ⊢; simp at h4; omega
    · simp only at h
      exact ⟨by simp only [q4, List.nil_append]; exact skipL_none b _ h, by omega⟩
    · simp only at h
      have := skipL_one h
      omega
  · by_cases c3 : s.st = 3
    · rw [feedF2 c3]
      obtain ⟨q1, q2, q3, q4⟩ := h8 c3
      refine ⟨g + min s.left b.length, h1, h2, by simp only; omega, ?_, fun h => by simp only at h; omega, fun h => by simp only at h; omega, fun h => by simp only at h; omega, fun _ => ⟨q1, q2, by simp only; omega, fun h => ?_⟩⟩
      · simp only [List.length_append, List.length_drop]; omega
      · simp only at h ⊢
        rw [q4 (by omega), List.nil_append, List.drop_eq_nil_of_le (by omega)]
    · rw [feedF3 (by
        by_cases e : s.st = 1
        · right
          cases he : s.ended with
          | true => rfl
          | false => exact absurd ⟨e, he⟩ c1
        · exact .inl e) c3]
      refine ⟨g, h1, h2, h3, by simp only [List.length_append]; omega, h5, fun h => ?_, h7, fun h => absurd h c3⟩
      obtain ⟨q1, q2, q3⟩ := h6 h
      refine ⟨q1, fun h' => absurd ⟨h, h'⟩ c1, q3⟩
/-- how much an item tells. -/
def tells (size : Nat) (i : It) : Nat := if i.kind = 1 then i.text.length + 2 else if i.kind = 2 then 225 else size + 2
theorem bodyF_cases (b : List UInt8) (n : Nat) (hn : n ≤ b.length) : ((bodyF b n).1 = 3 ∧ (bodyF b n).2.length = n) ∨ (bodyF b n).1 = 5 := by
  unfold bodyF
  split
  · exact .inl ⟨rfl, by simp; omega⟩
  · exact .inr rfl
theorem inv_next (I : Inv mx s came told bound size g) :
    match nextS s with
    | (none, s') => (∃ g', Inv mx s' came told bound size g') ∧ s'.held.length ≤ bound ∧ told + s'.held.length ≤ came
    | (some i, s') => (∃ g', Inv mx s' came (told + tells size i) 223 size g') ∧ (i.kind = 1 ∧ i.text.length ≤ 222 ∧ lineAt i.text = none ∨ i.kind = 2 ∨ (i.kind = 3 ∧ i.body.length = size ∧ size ≤ mx) ∨ (i.kind = 5 ∧ size ≤ mx) ∨ (i.kind = 4 ∧ mx < size)) ∧
        2 * s'.held.length + (if s'.st = 0 then 0 else 1) < 2 * s.held.length + (if s.st = 0 then 0 else 1) := by
  obtain ⟨h1, h2, h3, h4, h5, h6, h7, h8⟩ := I
  obtain ⟨most, st, held, sz, left, half, ended⟩ := s
  simp only at h1 h2 h3 h4 h5 h6 h7 h8
  have mk0 : ∀ (hd : List UInt8) (hf en : Bool) (lf t : Nat), lf ≤ 4294967297 → t + hd.length ≤ came → Inv mx ⟨most, 0, hd, sz, lf, hf, en⟩ came t 223 size 0 := fun hd hf en lf t hl ht =>
    ⟨by simp, h2, by simp only; omega, by simpa using ht, fun _ => rfl, fun h => by simp at h, fun h => by simp at h, fun h => by simp at h⟩
  have hst : st = 0 ∨ st = 1 ∨ st = 2 ∨ st = 3 := by omega
  rcases hst with rfl | rfl | rfl | rfl
  · unfold nextS
    rw [if_pos rfl]
    simp only
    cases hln : lineAt (held.take (min 224 held.length)) with
    | some k =>
      have hk := lineAt_le hln
      rw [List.length_take] at hk
      have hb := lineAt_before hln
      rw [List.take_take, Nat.min_eq_left (by omega)] at hb
      refine ⟨⟨0, mk0 _ _ _ _ _ h3.2.2 ?_⟩, .inl ⟨rfl, by simp; omega, hb⟩, ?_⟩
      · simp [tells]; omega
      · simp; omega
    | none =>
      simp only
      by_cases hlen : held.length < 224
      · rw [if_pos hlen]
        refine ⟨⟨g, h1, h2, h3, h4, h5, h6, h7, h8⟩, ?_, by simp only; omega⟩
        rw [h5 rfl]; simp only; omega
      · rw [if_neg hlen]
        by_cases he : (skipL false held).2.1 = true
        · rw [if_pos he]
          have hc : (skipL false held).2.2.length + 225 ≤ held.length := by
            rcases skipL_line held false he with ⟨hf, _⟩ | ⟨_, k, hk1, hk2⟩
            · cases hf
            · have hle := lineAt_le hk1
              have : ¬ k + 2 ≤ 224 := fun hh => by
                have := lineAt_take hk1 (n := min 224 held.length) (by omega)
                rw [this] at hln; cases hln
              rw [hk2, List.length_drop]; omega
          refine ⟨⟨0, mk0 _ _ _ _ _ h3.2.2 ?_⟩, .inr (.inl rfl), ?_⟩
          · simp [tells]; omega
          · simp; omega
        · rw [if_neg he]
          have hn := skipL_none held false (by simpa using he)
          refine ⟨⟨held.length, by simp, h2, h3, by simp [hn]; omega, fun h => by simp at h, fun _ => ⟨h5 rfl, fun _ => ⟨hn, by omega⟩, fun h => by simp at h⟩, fun h => by simp at h, fun h => by simp at h⟩, by simp [hn], by simp [hn]; omega⟩
  · unfold nextS
    rw [if_neg (by simp), if_pos rfl]
    simp only
    obtain ⟨q1, q2, q3⟩ := h6 rfl
    cases ended with
    | true =>
      rw [if_pos rfl]
      have := q3 rfl
      exact ⟨⟨0, mk0 _ _ _ _ _ h3.2.2 (by simp [tells]; omega)⟩, .inr (.inl rfl), by simp⟩
    | false =>
      rw [if_neg (by simp)]
      have := q2 rfl
      exact ⟨⟨g, h1, h2, h3, h4, h5, h6, h7, h8⟩, by rw [this.1]; simp, by rw [this.1] at h4 ⊢; simp at h4 ⊢; omega⟩
  · unfold nextS
    rw [if_neg (by simp), if_neg (by simp), if_pos rfl]
    simp only
    obtain ⟨q1, q2, q3⟩ := h7 rfl
    by_cases hlen : held.length < sz + 2
    · rw [if_pos hlen]
      exact ⟨⟨g, h1, h2, h3, h4, h5, h6, h7, h8⟩, by simp only; omega, by simp only; omega⟩
    · rw [if_neg hlen]
      have bc := bodyF_cases (held.take (sz + 2)) sz (by simp; omega)
      refine ⟨⟨0, mk0 _ _ _ _ _ h3.2.2 ?_⟩, ?_, ?_⟩
      · have : tells size ⟨(bodyF (held.take (sz + 2)) sz).1, [], (bodyF (held.take (sz + 2)) sz).2⟩ = size + 2 := by
          unfold tells
          simp only
          rcases bc with ⟨e, _⟩ | e <;> rw [e] <;> rfl
        rw [this]; simp only [List.length_drop]; omega
      · rcases bc with ⟨e, e2⟩ | e
        · exact .inr (.inr (.inl ⟨e, by simp only; omega, q2⟩))
        · exact .inr (.inr (.inr (.inl ⟨e, q2⟩)))
      · simp; omega
  · unfold nextS
    rw [if_neg (by simp), if_neg (by simp), if_neg (by simp)]
    simp only
    obtain ⟨q1, q2, q3, q4⟩ := h8 rfl
    by_cases hl : 0 < left
    · rw [if_pos hl]
      have := q4 hl
      exact ⟨⟨g, h1, h2, h3, h4, h5, h6, h7, h8⟩, by rw [this]; simp, by rw [this] at h4 ⊢; simp at h4 ⊢; omega⟩
    · rw [if_neg hl]
      exact ⟨⟨0, mk0 _ _ _ _ _ h3.2.2 (by simp [tells]; omega)⟩, .inr (.inr (.inr (.inr ⟨rfl, q2⟩))), by simp⟩
theorem inv_body (I : Inv mx s came told bound size g) (n : Int) : if (bodyS s n).2 = 0 then 0 ≤ n ∧ n ≤ 4294967295 ∧ ∃ g', Inv mx (bodyS s n).1 came told (if n ≤ (mx : Nat) then n.toNat + 1 else 223) n.toNat g' else (bodyS s n).1 = s := by
  obtain ⟨h1, h2, h3, h4, h5, h6, h7, h8⟩ := I
  unfold bodyS
  by_cases c : n < 0 ∨ 4294967295 < n ∨ s.st ≠ 0
  · rw [if_pos c, if_neg (by simp)]
  · rw [if_neg c]
    have c0 : s.st = 0 := by omega
    by_cases c2 : n ≤ (s.most : Nat)
    · rw [if_pos c2, if_pos rfl, if_pos (by rw [← h2.1]; exact c2)]
      refine ⟨by omega, by omega, g, by simp, h2, by simp only; omega, h4, fun h => by simp at h, fun h => by simp at h, fun _ => ⟨rfl, by omega, rfl⟩, fun h => by simp at h⟩
    · rw [if_neg c2, if_pos rfl, if_neg (by rw [← h2.1]; exact c2)]
      refine ⟨by omega, by omega, g + min (n.toNat + 2) s.held.length, by simp, h2, by simp only; omega, by simp only [List.length_drop]; omega, fun h => by simp at h, fun h => by simp at h, fun h => by simp at h, fun _ => ⟨rfl, by omega, by simp only; omega, fun h => ?_⟩⟩
      simp only at h ⊢
      exact List.drop_eq_nil_of_le (by omega)
end Go.Proofs.Ytccfcegmaejlnaa
namespace Go.Proofs.Ytccfcegmaejlnaa
open Go Go.HL
set_option maxRecDepth 100000
set_option maxHeartbeats 40000000
set_option linter.unusedSimpArgs false
attribute [local irreducible] pt My Ex Vw Gr GrK each grp exs Sat takeCells happend hbuildSlice hstore hbox hslice hmakeSlice hs2b hcopy HL.unit opC
theorem skipL_app1 : ∀ (a b : List UInt8) (h : Bool), (skipL h a).2.1 = true → skipL h (a ++ b) = ((skipL h a).1, true, (skipL h a).2.2 ++ b)
  | [], b, h, e => by simp [skipL] at e
  | c :: a, b, h, e => by
    rw [List.cons_append]
    unfold skipL at e ⊢
    split
    · rfl
    · rename_i hc
      rw [if_neg hc] at e
      exact skipL_app1 a b _ e
theorem skipL_app0 : ∀ (a b : List UInt8) (h : Bool), (skipL h a).2.1 = false → skipL h (a ++ b) = skipL (skipL h a).1 b
  | [], b, h, e => rfl
  | c :: a, b, h, e => by
    rw [List.cons_append]
    have h1 : skipL h (c :: (a ++ b)) = if (h && c == 10) = true then (h, true, a ++ b) else skipL (c == 13) (a ++ b) := rfl
    have h2 : skipL h (c :: a) = if (h && c == 10) = true then (h, true, a) else skipL (c == 13) a := rfl
    rw [h2] at e ⊢
    rw [h1]
    split
    · rename_i hc
      rw [if_pos hc] at e; cases e
    · rename_i hc
      rw [if_neg hc] at e
      exact skipL_app0 a b _ e
/-- how bytes are cut is not seen. -/
theorem feed_app (s : St) (a b : List UInt8) : feedF (feedF s a) b = feedF s (a ++ b) := by
  by_cases c1 : s.st = 1 ∧ s.ended = false
  · obtain ⟨e1, e2⟩ := c1
    rw [feedF1 (s := s) (bs := a) e1 e2, feedF1 (s := s) (bs := a ++ b) e1 e2]
    cases he : (skipL s.half a).2.1 with
    | true =>
      rw [feedF3 (.inr rfl) (by simp only; omega), skipL_app1 a b s.half he]
      simp
    | false =>
      have e3 := feedF1 (s := { s with half := (skipL s.half a).1, ended := false, held := s.held ++ (skipL s.half a).2.2 }) (bs := b) e1 rfl
      rw [e3, skipL_app0 a b s.half he, skipL_none a s.half he]
      simp
  · by_cases c3 : s.st = 3
    · have e0 := feedF2 (s := s) (bs := a) c3
      have e1 := feedF2 (s := s) (bs := a ++ b) c3
      have e2 := feedF2 (s := { s with left := s.left - min s.left a.length, held := s.held ++ a.drop (min s.left a.length) }) (bs := b) c3
      rw [e0, e1, e2]
      simp only [List.length_append]
      congr 1
      · rw [List.append_assoc]
        congr 1
        rw [List.drop_append]
        congr 1
        · by_cases hl : s.left ≤ a.length
          · rw [Nat.min_eq_left hl, Nat.min_eq_left (by omega)]
          · rw [List.drop_eq_nil_of_le (by omega), List.drop_eq_nil_of_le (by omega)]
        · congr 1; omega
      · omega
    · have h3 : s.st ≠ 1 ∨ s.ended = true := by
        by_cases e : s.st = 1
        · right
          cases he : s.ended with
          | true => rfl
          | false => exact absurd ⟨e, he⟩ c1
        · exact .inl e
      have e0 := feedF3 (s := s) (bs := a) h3 c3
      have e1 := feedF3 (s := s) (bs := a ++ b) h3 c3
      have e2 := feedF3 (s := { s with held := s.held ++ a }) (bs := b) h3 c3
      rw [e0, e1, e2]
      simp
theorem feed_len (s : St) (b : List UInt8) : (feedF s b).held.length ≤ s.held.length + b.length ∧ (feedF s b).left ≤ s.left ∧ (feedF s b).st = s.st ∧ (feedF s b).size = s.size := by
  unfold feedF
  split
  · have := skipL_len s.half b
    simp only [List.length_append, and_true, true_and]
    omega
  · split
    · simp only [List.length_append, List.length_drop]
      simp only [and_true]
      omega
    · simp

theorem alike21 {hs : HS} {l : List SA} {k k' : Int} {t t' x y : List UInt8} {va vb : HV} (H : Sat hs l) (A : Rdl l va x.length (bcells x)) (B : Rdl l vb y.length (bcells y)) (hx : x.length < 4611686018427387904) :
    HC Try.prog 21 [.agg [.int .i64 k, .str t, va], .agg [.int .i64 k', .str t', vb]] hs fun v hs' => v = .bool (decide (k = k') && (t == t') && (x == y)) ∧ Sat hs' l := by
  have a1 := (A _ H).one
  have b1 := (B _ H).one
  refine HC.wp mixed Try.func21 c21 ?_
  first | have f0 := Sat.pf (H) | have f0 := trivial
  first | have f1 := Sat.pf (H.t) | have f1 := trivial
  first | have f2 := Sat.pf (H.t.t) | have f2 := trivial
  first | have f3 := Sat.pf (H.t.t.t) | have f3 := trivial
  first | have f4 := Sat.pf (H.t.t.t.t) | have f4 := trivial
  first | have f5 := Sat.pf (H.t.t.t.t.t) | have f5 := trivial
  first | have f6 := Sat.pf (H.t.t.t.t.t.t) | have f6 := trivial
  first | have f7 := Sat.pf (H.t.t.t.t.t.t.t) | have f7 := trivial
  repeat' first
    | ((with_reducible show Need _); refine need_of ?_; (first | have f0 := Sat.pf (H) | have f0 := trivial); (first | have f1 := Sat.pf (H.t) | have f1 := trivial); (first | have f2 := Sat.pf (H.t.t) | have f2 := trivial); (first | have f3 := Sat.pf (H.t.t.t) | have f3 := trivial); (first | have f4 := Sat.pf (H.t.t.t.t) | have f4 := trivial); (first | have f5 := Sat.pf (H.t.t.t.t.t) | have f5 := trivial); (first | have f6 := Sat.pf (H.t.t.t.t.t.t) | have f6 := trivial); (first | have f7 := Sat.pf (H.t.t.t.t.t.t.t) | have f7 := trivial))
    | simp -implicitDefEqProofs (disch := first | omega | decide | exact rfl | assumption | exact Nat.le_of_ble_eq_true rfl | exact One.c | exact One.o) only [vsA, vsB, eq_self, if_true, if_false, implies_true, false_implies, evp, HX.ev, Nat.reduceAdd, HOp.looks, Nat.reduceEqDiff, overw, Nat.reduceBEq, h21, a1, b1, ub21, f0, f1, f2, f3, f4, f5, f6, f7, frame0, List.replicate, Nat.sub]
    | (refine condK_cases (fun h => ?_) (fun h => ?_) <;> (try simp only [h]) <;> (try simp only [athA, ne_eq] at h) <;> (try (exfalso; omega)))
    | (refine guardK_cases (fun h => ?_) (fun h => ?_) <;> (try simp only [h]) <;> (try simp only [athA, ne_eq] at h) <;> (try (exfalso; omega)))
    | (refine dgK_cases (fun h => ?_) (fun h => ?_) <;> (try simp only [h]) <;> (try simp only [athA, ne_eq] at h) <;> (try (exfalso; omega)))
    | (clear H f0 f1 f2 f3 f4 f5 f6 f7; (with_reducible intro v2 hs H); (try simp only [setA, overw, Nat.reduceAdd] at H); refine need ?_)
    | ((with_reducible show actK _ (HAct.call (HX.cst (HV.func (Fn.func 33) _ _)) _) _ _ _ _ _); refine vcall_of ok33 rfl (same33 (A _ H.t.t) (B _ H.t.t) hx) ?_; rintro _ _ ⟨rfl, rfl⟩)
    | ((with_reducible show drK _ _ _ _ _ _ _ _ _ (some ⟨_, HAct.call (HX.cst (HV.func (Fn.func 33) _ _)) _, none⟩)); refine vdr_call ok33 rfl (same33 (A _ H.t.t) (B _ H.t.t) hx) ?_; rintro _ _ ⟨rfl, rfl⟩)
    | refine opC_K ?_
    | refine opC_D ?_
    | ((with_reducible show opC (unit (hstore _ _ _ _)) _); refine sl_store1 (by with_reducible first | exact H | exact H.p1 | exact H.p2 | exact H.p3 | exact H.p4 | exact H.p5 | exact H.p6 | exact H.p7) (Nat.le_of_ble_eq_true rfl) (by first | exact rfl | (simp only [f0, f1, f2, f3, f4, f5, f6, f7]; done) | (simp only [onA, *]; done)) (by first | exact rfl | (simp only [f0, f1, f2, f3, f4, f5, f6, f7]; done) | (simp only [onA, *]; done)) ?_)
    | ((with_reducible show opC (unit (hstore _ _ _ _)) _); refine sl_storeN (by with_reducible first | exact H | exact H.p1 | exact H.p2 | exact H.p3 | exact H.p4 | exact H.p5 | exact H.p6 | exact H.p7) rfl (Nat.le_of_ble_eq_true rfl) (by first | exact rfl | (simp only [f0, f1, f2, f3, f4, f5, f6, f7]; done) | (simp only [onA, *]; done)) ?_)
    | ((with_reducible show opC (happend _ _ _ _ _) _); refine sl_append (by with_reducible first | exact H | exact H.p1 | exact H.p2 | exact H.p3 | exact H.p4 | exact H.p5 | exact H.p6 | exact H.p7) (by first | assumption | with_reducible first | exact f0.2.1 | exact f1.2.1 | exact f2.2.1 | exact f3.2.1 | exact f4.2.1 | exact f5.2.1 | exact f6.2.1 | exact f7.2.1 | exact va_takeS) (by first | exact roomFor_of (by omega) | exact roomFor_wide (by omega)) (by omega) ?_)
    | ((with_reducible show opC (happend _ _ _ _ _) _); refine sl_append0X H (by first | assumption | with_reducible first | exact f0.2.1 | exact f1.2.1 | exact f2.2.1 | exact f3.2.1 | exact f4.2.1 | exact f5.2.1 | exact f6.2.1 | exact f7.2.1 | exact va_takeS) (by first | exact roomFor_of (by omega) | exact roomFor_wide (by omega)) (by omega) ?_)
    | ((with_reducible show opC (happend _ _ _ _ _) _); refine sl_appendX (by with_reducible first | exact H | exact H.p1 | exact H.p2 | exact H.p3 | exact H.p4 | exact H.p5 | exact H.p6 | exact H.p7) (by first | assumption | with_reducible first | exact f0.2.1 | exact f1.2.1 | exact f2.2.1 | exact f3.2.1 | exact f4.2.1 | exact f5.2.1 | exact f6.2.1 | exact f7.2.1 | exact va_takeS) (by first | exact roomFor_of (by omega) | exact roomFor_wide (by omega)) (by omega) ?_)
    | ((with_reducible show opC (hbuildSlice _ _ _ _ _) _); refine sl_bslice1 H rfl (by first | exact rfl | (simp only [f0, f1, f2, f3, f4, f5, f6, f7]; done) | (simp only [onA, *]; done)) (by first | exact rfl | (simp only [f0, f1, f2, f3, f4, f5, f6, f7]; done) | (simp only [onA, *]; done)) ?_)
    | ((with_reducible show opC (hbox _ _) _); refine sl_box1 H (by first | exact rfl | (simp only [f0, f1, f2, f3, f4, f5, f6, f7]; done) | (simp only [onA, *]; done)) (by first | exact rfl | (simp only [f0, f1, f2, f3, f4, f5, f6, f7]; done) | (simp only [onA, *]; done)) ?_)
    | ((with_reducible show opC (hbox _ _) _); refine sl_boxA H (by first | exact rfl | (simp only [f0, f1, f2, f3, f4, f5, f6, f7]; done) | (simp only [onA, *]; done)) ?_)
    | refine hwp_draw mixed rfl ?_
    | with_reducible intro hy

  all_goals exact ⟨congrArg HV.bool (by simp [*]), H.t.t⟩
/-- what a part says. -/
structure PartV where
  text : List UInt8
  body : Bool
  broken : Bool
  v : HV
  data : List UInt8
def PartV.cells (a : PartV) : List HV := [.str a.text, .bool a.body, .bool a.broken, a.v]
def saidF (text : List UInt8) (body broken : Bool) (data : List UInt8) : List UInt8 :=
  cutF text ++ [13, 10] ++ (if body then data ++ (if broken then [10, 13] else [13, 10]) else [])

theorem bc2 (a b : UInt8) : bcells [a, b] = [.int .u8 a.toNat, .int .u8 b.toNat] := rfl
theorem said25 {hs : HS} {l : List SA} {p : PartV} (H : Sat hs l) (R : Rdl l p.v p.data.length (bcells p.data)) (hb : p.text.length + p.data.length < 4611686018427) :
    HC Try.prog 25 [.agg p.cells] hs fun v hs' => Sat hs' (Ex 1 v (saidF p.text p.body p.broken p.data).length (bcells (saidF p.text p.body p.broken p.data)) :: l) := by
  obtain ⟨text, body, broken, pv, data⟩ := p
  simp only [PartV.cells] at R hb ⊢
  have hmax : maxLen = 9223372036854775807 := rfl
  have p1 := (R _ H).one
  have hcl : (cutF text).length ≤ text.length := by
    unfold cutF
    split
    · simp; omega
    · exact Nat.le_refl _
  refine HC.wp mixed Try.func25 c25 ?_
  first | have f0 := Sat.pf (H) | have f0 := trivial
  first | have f1 := Sat.pf (H.t) | have f1 := trivial
  first | have f2 := Sat.pf (H.t.t) | have f2 := trivial
  first | have f3 := Sat.pf (H.t.t.t) | have f3 := trivial
  first | have f4 := Sat.pf (H.t.t.t.t) | have f4 := trivial
  first | have f5 := Sat.pf (H.t.t.t.t.t) | have f5 := trivial
  first | have f6 := Sat.pf (H.t.t.t.t.t.t) | have f6 := trivial
  first | have f7 := Sat.pf (H.t.t.t.t.t.t.t) | have f7 := trivial
  repeat' first
    | ((with_reducible show Need _); refine need_of ?_; (first | have f0 := Sat.pf (H) | have f0 := trivial); (first | have f1 := Sat.pf (H.t) | have f1 := trivial); (first | have f2 := Sat.pf (H.t.t) | have f2 := trivial); (first | have f3 := Sat.pf (H.t.t.t) | have f3 := trivial); (first | have f4 := Sat.pf (H.t.t.t.t) | have f4 := trivial); (first | have f5 := Sat.pf (H.t.t.t.t.t) | have f5 := trivial); (first | have f6 := Sat.pf (H.t.t.t.t.t.t) | have f6 := trivial); (first | have f7 := Sat.pf (H.t.t.t.t.t.t.t) | have f7 := trivial); (first | have T := (R _ H.t.t).take | skip))
    | simp -implicitDefEqProofs (disch := first | omega | decide | exact rfl | assumption | exact Nat.le_of_ble_eq_true rfl | exact One.c | exact One.o) only [vsA, vsB, eq_self, if_true, if_false, implies_true, false_implies, evp, HX.ev, Nat.reduceAdd, HOp.looks, Nat.reduceEqDiff, overw, Nat.reduceBEq, h25, p1, ub25, f0, f1, f2, f3, f4, f5, f6, f7, frame0, List.replicate, Nat.sub]
    | (refine condK_cases (fun h => ?_) (fun h => ?_) <;> (try simp only [h]) <;> (try simp only [athA, ne_eq] at h) <;> (try (exfalso; omega)))
    | (refine guardK_cases (fun h => ?_) (fun h => ?_) <;> (try simp only [h]) <;> (try simp only [athA, ne_eq] at h) <;> (try (exfalso; omega)))
    | (refine dgK_cases (fun h => ?_) (fun h => ?_) <;> (try simp only [h]) <;> (try simp only [athA, ne_eq] at h) <;> (try (exfalso; omega)))
    | (clear H f0 f1 f2 f3 f4 f5 f6 f7; (with_reducible intro v2 hs H); (try simp only [setA, overw, Nat.reduceAdd] at H); refine need ?_)
    | ((with_reducible show actK _ (HAct.call (HX.cst (HV.func (Fn.func 23) _ _)) _) _ _ _ _ _); refine vcall_of ok23 rfl (cut23 text (by omega)) ?_; rintro _ _ ⟨rfl, rfl⟩)
    | ((with_reducible show drK _ _ _ _ _ _ _ _ _ (some ⟨_, HAct.call (HX.cst (HV.func (Fn.func 23) _ _)) _, none⟩)); refine vdr_call ok23 rfl (cut23 text (by omega)) ?_; rintro _ _ ⟨rfl, rfl⟩)
    | refine opC_K ?_
    | refine opC_D ?_
    | ((with_reducible show opC (hs2b _ _) _); refine sl_s2bX H (by omega) ?_)
    | ((with_reducible show opC (hbuildSlice _ _ _ _ _) _); refine sl_bslice H rfl rfl (by omega) rfl rfl ?_; clear H f0 f1 f2 f3 f4 f5 f6 f7; intro y hs H hy; have hy := hy.take; refine need ?_)
    | ((with_reducible show opC (unit (hstore _ _ _ _)) _); refine sl_store1 (by with_reducible first | exact H | exact H.p1 | exact H.p2 | exact H.p3 | exact H.p4 | exact H.p5 | exact H.p6 | exact H.p7) (Nat.le_of_ble_eq_true rfl) (by first | exact rfl | (simp only [f0, f1, f2, f3, f4, f5, f6, f7]; done) | (simp only [onA, *]; done)) (by first | exact rfl | (simp only [f0, f1, f2, f3, f4, f5, f6, f7]; done) | (simp only [onA, *]; done)) ?_)
    | ((with_reducible show opC (unit (hstore _ _ _ _)) _); refine sl_storeN (by with_reducible first | exact H | exact H.p1 | exact H.p2 | exact H.p3 | exact H.p4 | exact H.p5 | exact H.p6 | exact H.p7) rfl (Nat.le_of_ble_eq_true rfl) (by first | exact rfl | (simp only [f0, f1, f2, f3, f4, f5, f6, f7]; done) | (simp only [onA, *]; done)) ?_)
    | ((with_reducible show opC (happend _ _ _ _ _) _); refine sl_append (by with_reducible first | exact H | exact H.p1 | exact H.p2 | exact H.p3 | exact H.p4 | exact H.p5 | exact H.p6 | exact H.p7) (by first | assumption | with_reducible first | exact f0.2.1 | exact f1.2.1 | exact f2.2.1 | exact f3.2.1 | exact f4.2.1 | exact f5.2.1 | exact f6.2.1 | exact f7.2.1 | exact va_takeS) (by first | exact roomFor_of (by omega) | exact roomFor_wide (by omega)) (by omega) ?_)
    | ((with_reducible show opC (happend _ _ _ _ _) _); refine sl_append0X H (by first | assumption | with_reducible first | exact f0.2.1 | exact f1.2.1 | exact f2.2.1 | exact f3.2.1 | exact f4.2.1 | exact f5.2.1 | exact f6.2.1 | exact f7.2.1 | exact va_takeS) (by first | exact roomFor_of (by omega) | exact roomFor_wide (by omega)) (by omega) ?_)
    | ((with_reducible show opC (happend _ _ _ _ _) _); refine sl_appendX (by with_reducible first | exact H | exact H.p1 | exact H.p2 | exact H.p3 | exact H.p4 | exact H.p5 | exact H.p6 | exact H.p7) (by first | assumption | with_reducible first | exact f0.2.1 | exact f1.2.1 | exact f2.2.1 | exact f3.2.1 | exact f4.2.1 | exact f5.2.1 | exact f6.2.1 | exact f7.2.1 | exact va_takeS) (by first | exact roomFor_of (by omega) | exact roomFor_wide (by omega)) (by omega) ?_)
    | ((with_reducible show opC (hbuildSlice _ _ _ _ _) _); refine sl_bslice1 H rfl (by first | exact rfl | (simp only [f0, f1, f2, f3, f4, f5, f6, f7]; done) | (simp only [onA, *]; done)) (by first | exact rfl | (simp only [f0, f1, f2, f3, f4, f5, f6, f7]; done) | (simp only [onA, *]; done)) ?_)
    | ((with_reducible show opC (hbox _ _) _); refine sl_box1 H (by first | exact rfl | (simp only [f0, f1, f2, f3, f4, f5, f6, f7]; done) | (simp only [onA, *]; done)) (by first | exact rfl | (simp only [f0, f1, f2, f3, f4, f5, f6, f7]; done) | (simp only [onA, *]; done)) ?_)
    | ((with_reducible show opC (hbox _ _) _); refine sl_boxA H (by first | exact rfl | (simp only [f0, f1, f2, f3, f4, f5, f6, f7]; done) | (simp only [onA, *]; done)) ?_)
    | refine hwp_draw mixed rfl ?_
    | with_reducible intro hy

  all_goals
    have H := H.d1
    simp only [saidF, *, if_true, Bool.false_eq_true, if_false, List.append_nil]
    simp only [bcells_app, bc2, List.length_append, List.length_cons, List.length_nil, Nat.zero_add, Nat.reduceAdd, ← Nat.add_assoc, ← List.append_assoc]
    first | exact H | (trace_state; sorry)

theorem rdl_cut {l : List SA} {hs0 : HS} {v : HV} {b : List UInt8} (R : Rdl l v b.length (bcells b)) (H0 : Sat hs0 l) {lo hi : Nat} {vlo vhi : Option HV} (a : Lo lo vlo) (c : Hi hi b.length vhi) (h1 : lo ≤ hi) (h2 : hi ≤ b.length) :
    ∃ v', hslice v vlo vhi none = some v' ∧ Rdl l v' ((b.drop lo).take (hi - lo)).length (bcells ((b.drop lo).take (hi - lo))) := by
  obtain ⟨v', e, _⟩ := rd_cut (R _ H0) rfl a c h1 h2
  refine ⟨v', e, fun hs H => ?_⟩
  obtain ⟨v2, e2, r2⟩ := rd_cut (R _ H) rfl a c h1 h2
  rw [e] at e2; cases e2
  rw [List.length_take, List.length_drop, Nat.min_eq_left (by omega)]
  exact r2
theorem fed24 {hs : HS} {l : List SA} {p : Nat} {s : St} {b : HV} {bs : List UInt8} (H : Sat hs (InP p s :: l)) (R : Rdl l b bs.length (bcells bs)) (at_ : Int) (hb : s.held.length + bs.length < 4611686018) (hl : s.left < 4611686018427387904) :
    HC Try.prog 24 [.ptr p 0, b, .int .i64 at_] hs fun _ hs' => Sat hs' (InP p (feedF s bs) :: l) := by
  have lb := fun hs h => (R hs h).len hs
  have lb := lb _ H.t
  have rb := (R _ H.t).sOk
  have hk := among_lt (i := at_) (m := bs.length + 1) (by omega)
  obtain ⟨k, hkd⟩ : ∃ k, k = amongF at_ (bs.length + 1) := ⟨_, rfl⟩
  rw [← hkd] at hk
  have q2 : hbin .quo none (.int .i64 (k : Nat)) (.int .i64 2) = some (.int .i64 ((k / 2 : Nat) : Int)) := by
    have : hbin .quo none (.int .i64 (k : Nat)) (.int .i64 2) = if IntKind.i64 = IntKind.i64 ∧ (2 : Int) ≠ 0 then some (.int .i64 (wr .i64 (((k : Nat) : Int).tdiv 2))) else none := rfl
    have ht : ((k : Nat) : Int).tdiv 2 = ((k / 2 : Nat) : Int) := (Int.ofNat_tdiv k 2).symm
    rw [this, if_pos ⟨rfl, by decide⟩, ht, vwr_i64 (by omega)]
  obtain ⟨v1, e1, R1⟩ := rdl_cut R H.t (lo := 0) (hi := k / 2) Lo.none (Hi.some (k := .i64)) (by omega) (by omega)
  obtain ⟨v2, e2, R2⟩ := rdl_cut R H.t (lo := k / 2) (hi := k) (Lo.some (k := .i64)) (Hi.some (k := .i64)) (by omega) (by omega)
  obtain ⟨v3, e3, R3⟩ := rdl_cut R H.t (lo := k) (hi := bs.length) (Lo.some (k := .i64)) Hi.none (by omega) (by omega)
  have f1 := feed_len s ((bs.drop 0).take (k / 2 - 0))
  have f2 := feed_len (feedF s ((bs.drop 0).take (k / 2 - 0))) ((bs.drop (k / 2)).take (k - k / 2))
  have ln1 : ((bs.drop 0).take (k / 2 - 0)).length ≤ bs.length := by simp; omega
  have ln2 : ((bs.drop (k / 2)).take (k - k / 2)).length ≤ bs.length := by simp; omega
  have ln3 : ((bs.drop k).take (bs.length - k)).length ≤ bs.length := by simp
  have hA : HC Try.prog 20 [.int .i64 at_, .int .i64 ((bs.length + 1 : Nat) : Int)] hs fun v hs' => v = .int .i64 (k : Nat) ∧ hs' = hs := by rw [hkd]; exact among20 at_ _ (by omega)
  have key : feedF (feedF (feedF s ((bs.drop 0).take (k / 2 - 0))) ((bs.drop (k / 2)).take (k - k / 2))) ((bs.drop k).take (bs.length - k)) = feedF s bs := by
    rw [feed_app, feed_app]
    congr 1
    have h3 : (bs.drop k).take (bs.length - k) = bs.drop k := List.take_of_length_le (by simp)
    rw [List.drop_zero, Nat.sub_zero, h3, ← List.append_assoc]
    have h1 : bs.take (k / 2) ++ (bs.drop (k / 2)).take (k - k / 2) = bs.take k := by
      rw [← List.drop_take]
      conv => lhs; arg 1; rw [show bs.take (k / 2) = (bs.take k).take (k / 2) by rw [List.take_take, Nat.min_eq_left (by omega)]]
      exact List.take_append_drop _ _
    rw [h1]; exact List.take_append_drop _ _
  clear f1
  have f1 := feed_len s ((bs.drop 0).take (k / 2 - 0))
  refine HC.wp mixed Try.func24 c24 ?_
  have g1 := f1
  have g2 := f2
  first | have f0 := Sat.pf (H) | have f0 := trivial
  first | have f1 := Sat.pf (H.t) | have f1 := trivial
  first | have f2 := Sat.pf (H.t.t) | have f2 := trivial
  first | have f3 := Sat.pf (H.t.t.t) | have f3 := trivial
  first | have f4 := Sat.pf (H.t.t.t.t) | have f4 := trivial
  first | have f5 := Sat.pf (H.t.t.t.t.t) | have f5 := trivial
  first | have f6 := Sat.pf (H.t.t.t.t.t.t) | have f6 := trivial
  first | have f7 := Sat.pf (H.t.t.t.t.t.t.t) | have f7 := trivial
  repeat' first
    | ((with_reducible show Need _); refine need_of ?_; (first | have f0 := Sat.pf (H) | have f0 := trivial); (first | have f1 := Sat.pf (H.t) | have f1 := trivial); (first | have f2 := Sat.pf (H.t.t) | have f2 := trivial); (first | have f3 := Sat.pf (H.t.t.t) | have f3 := trivial); (first | have f4 := Sat.pf (H.t.t.t.t) | have f4 := trivial); (first | have f5 := Sat.pf (H.t.t.t.t.t) | have f5 := trivial); (first | have f6 := Sat.pf (H.t.t.t.t.t.t) | have f6 := trivial); (first | have f7 := Sat.pf (H.t.t.t.t.t.t.t) | have f7 := trivial))
    | simp -implicitDefEqProofs (disch := first | omega | decide | exact rfl | assumption | exact Nat.le_of_ble_eq_true rfl | exact One.c | exact One.o) only [vsA, vsB, eq_self, if_true, if_false, implies_true, false_implies, evp, HX.ev, Nat.reduceAdd, HOp.looks, Nat.reduceEqDiff, overw, Nat.reduceBEq, h24, lb, rb, e1, e2, e3, q2, vadd1, ub24, f0, f1, f2, f3, f4, f5, f6, f7, frame0, List.replicate, Nat.sub]
    | (refine condK_cases (fun h => ?_) (fun h => ?_) <;> (try simp only [h]) <;> (try simp only [athA, ne_eq] at h) <;> (try (exfalso; omega)))
    | (refine guardK_cases (fun h => ?_) (fun h => ?_) <;> (try simp only [h]) <;> (try simp only [athA, ne_eq] at h) <;> (try (exfalso; omega)))
    | (refine dgK_cases (fun h => ?_) (fun h => ?_) <;> (try simp only [h]) <;> (try simp only [athA, ne_eq] at h) <;> (try (exfalso; omega)))
    | (clear H f0 f1 f2 f3 f4 f5 f6 f7; (with_reducible intro v2 hs H); (try simp only [setA, overw, Nat.reduceAdd] at H); refine need ?_)
    | ((with_reducible show actK _ (HAct.call (HX.cst (HV.func (Fn.func 20) _ _)) _) _ _ _ _ _); refine vcall_of ok20 rfl hA ?_; rintro _ _ ⟨rfl, rfl⟩)
    | ((with_reducible show drK _ _ _ _ _ _ _ _ _ (some ⟨_, HAct.call (HX.cst (HV.func (Fn.func 20) _ _)) _, none⟩)); refine vdr_call ok20 rfl hA ?_; rintro _ _ ⟨rfl, rfl⟩)
    | ((with_reducible show actK _ (HAct.call (HX.cst (HV.func (Fn.func 18) _ _)) _) _ _ _ _ _); refine vcall_of ok18 rfl (feedP H R1 (by omega) (by omega)) ?_;  clear H f0 f1 f2 f3 f4 f5 f6 f7; rintro _ hs H; have rb := (R _ H.t).sOk; refine need ?_)
    | ((with_reducible show drK _ _ _ _ _ _ _ _ _ (some ⟨_, HAct.call (HX.cst (HV.func (Fn.func 18) _ _)) _, none⟩)); refine vdr_call ok18 rfl (feedP H R1 (by omega) (by omega)) ?_;  clear H f0 f1 f2 f3 f4 f5 f6 f7; rintro _ hs H; have rb := (R _ H.t).sOk; refine need ?_)
    | ((with_reducible show actK _ (HAct.call (HX.cst (HV.func (Fn.func 18) _ _)) _) _ _ _ _ _); refine vcall_of ok18 rfl (feedP H R2 (by omega) (by omega)) ?_;  clear H f0 f1 f2 f3 f4 f5 f6 f7; rintro _ hs H; have rb := (R _ H.t).sOk; refine need ?_)
    | ((with_reducible show drK _ _ _ _ _ _ _ _ _ (some ⟨_, HAct.call (HX.cst (HV.func (Fn.func 18) _ _)) _, none⟩)); refine vdr_call ok18 rfl (feedP H R2 (by omega) (by omega)) ?_;  clear H f0 f1 f2 f3 f4 f5 f6 f7; rintro _ hs H; have rb := (R _ H.t).sOk; refine need ?_)
    | ((with_reducible show actK _ (HAct.call (HX.cst (HV.func (Fn.func 18) _ _)) _) _ _ _ _ _); refine vcall_of ok18 rfl (feedP H R3 (by omega) (by omega)) ?_;  clear H f0 f1 f2 f3 f4 f5 f6 f7; rintro _ hs H; have rb := (R _ H.t).sOk; refine need ?_)
    | ((with_reducible show drK _ _ _ _ _ _ _ _ _ (some ⟨_, HAct.call (HX.cst (HV.func (Fn.func 18) _ _)) _, none⟩)); refine vdr_call ok18 rfl (feedP H R3 (by omega) (by omega)) ?_;  clear H f0 f1 f2 f3 f4 f5 f6 f7; rintro _ hs H; have rb := (R _ H.t).sOk; refine need ?_)
    | refine opC_K ?_
    | refine opC_D ?_
    | ((with_reducible show opC (unit (hstore _ _ _ _)) _); refine sl_store1 (by with_reducible first | exact H | exact H.p1 | exact H.p2 | exact H.p3 | exact H.p4 | exact H.p5 | exact H.p6 | exact H.p7) (Nat.le_of_ble_eq_true rfl) (by first | exact rfl | (simp only [f0, f1, f2, f3, f4, f5, f6, f7]; done) | (simp only [onA, *]; done)) (by first | exact rfl | (simp only [f0, f1, f2, f3, f4, f5, f6, f7]; done) | (simp only [onA, *]; done)) ?_)
    | ((with_reducible show opC (unit (hstore _ _ _ _)) _); refine sl_storeN (by with_reducible first | exact H | exact H.p1 | exact H.p2 | exact H.p3 | exact H.p4 | exact H.p5 | exact H.p6 | exact H.p7) rfl (Nat.le_of_ble_eq_true rfl) (by first | exact rfl | (simp only [f0, f1, f2, f3, f4, f5, f6, f7]; done) | (simp only [onA, *]; done)) ?_)
    | ((with_reducible show opC (happend _ _ _ _ _) _); refine sl_append (by with_reducible first | exact H | exact H.p1 | exact H.p2 | exact H.p3 | exact H.p4 | exact H.p5 | exact H.p6 | exact H.p7) (by first | assumption | with_reducible first | exact f0.2.1 | exact f1.2.1 | exact f2.2.1 | exact f3.2.1 | exact f4.2.1 | exact f5.2.1 | exact f6.2.1 | exact f7.2.1 | exact va_takeS) (by first | exact roomFor_of (by omega) | exact roomFor_wide (by omega)) (by omega) ?_)
    | ((with_reducible show opC (happend _ _ _ _ _) _); refine sl_append0X H (by first | assumption | with_reducible first | exact f0.2.1 | exact f1.2.1 | exact f2.2.1 | exact f3.2.1 | exact f4.2.1 | exact f5.2.1 | exact f6.2.1 | exact f7.2.1 | exact va_takeS) (by first | exact roomFor_of (by omega) | exact roomFor_wide (by omega)) (by omega) ?_)
    | ((with_reducible show opC (happend _ _ _ _ _) _); refine sl_appendX (by with_reducible first | exact H | exact H.p1 | exact H.p2 | exact H.p3 | exact H.p4 | exact H.p5 | exact H.p6 | exact H.p7) (by first | assumption | with_reducible first | exact f0.2.1 | exact f1.2.1 | exact f2.2.1 | exact f3.2.1 | exact f4.2.1 | exact f5.2.1 | exact f6.2.1 | exact f7.2.1 | exact va_takeS) (by first | exact roomFor_of (by omega) | exact roomFor_wide (by omega)) (by omega) ?_)
    | ((with_reducible show opC (hbuildSlice _ _ _ _ _) _); refine sl_bslice1 H rfl (by first | exact rfl | (simp only [f0, f1, f2, f3, f4, f5, f6, f7]; done) | (simp only [onA, *]; done)) (by first | exact rfl | (simp only [f0, f1, f2, f3, f4, f5, f6, f7]; done) | (simp only [onA, *]; done)) ?_)
    | ((with_reducible show opC (hbox _ _) _); refine sl_box1 H (by first | exact rfl | (simp only [f0, f1, f2, f3, f4, f5, f6, f7]; done) | (simp only [onA, *]; done)) (by first | exact rfl | (simp only [f0, f1, f2, f3, f4, f5, f6, f7]; done) | (simp only [onA, *]; done)) ?_)
    | ((with_reducible show opC (hbox _ _) _); refine sl_boxA H (by first | exact rfl | (simp only [f0, f1, f2, f3, f4, f5, f6, f7]; done) | (simp only [onA, *]; done)) ?_)
    | refine hwp_draw mixed rfl ?_
    | with_reducible intro hy

  rw [key] at H
  exact H

structure PartsAt (hs : HS) (sv : HV) (A : List PartV) : Prop where
  row : Rd hs 4 sv A.length (A.flatMap PartV.cells)
  data : ∀ a ∈ A, Rd hs 1 a.v a.data.length (bcells a.data)
  few : A.length < 1152921504606846976
  small : ∀ a ∈ A, a.data.length < 1152921504606846976 ∧ a.text.length < 1152921504606846976
def psize (a : PartV) : Nat := a.text.length + a.data.length + 4
def ptotal (A : List PartV) : Nat := A.length + (A.map psize).sum
theorem psum_take {A : List PartV} {i : Nat} {a : PartV} (hi : A[i]? = some a) : ((A.take (i + 1)).map psize).sum = ((A.take i).map psize).sum + psize a := by
  rw [List.take_add_one, hi]; simp
theorem psum_le : ∀ (A : List PartV) (i : Nat), ((A.take i).map psize).sum ≤ (A.map psize).sum
  | [], i => by simp
  | a :: A, 0 => by simp
  | a :: A, i + 1 => by have := psum_le A i; simp only [List.take_succ_cons, List.map_cons, List.sum_cons]; omega
theorem PartsAt.idx {hs : HS} {sv : HV} {A : List PartV} (R : PartsAt hs sv A) {i : Nat} {a : PartV} (hi : A[i]? = some a) :
    ∃ h o, hindexAddr 4 sv (.int .i64 (i : Nat)) = some (.ptr h o) ∧ hload none hs (.ptr h o) = some (.str a.text) ∧ hload none hs (.ptr h (o + 3)) = some a.v ∧ hload (some 4) hs (.ptr h o) = some (.agg a.cells) := by
  obtain ⟨h, o, h1, h2, h3⟩ := R.row.idxF (s := 4) (fun _ => rfl) rfl hi .i64
  exact ⟨h, o, h1, h2 0 (by omega), h2 3 (by omega), h3⟩
theorem parts22 {hs : HS} {sv : HV} {A : List PartV} (R : PartsAt hs sv A) : HC Try.prog 22 [sv] hs fun v hs' => v = .bool (decide (2147483647 < ptotal A)) ∧ hs' = hs := by
  have ls := R.row.len hs
  have so := R.row.sOk
  have few := R.few
  refine HC.wp mixed Try.func22 c22 ?_
  repeat' first
    | simp -implicitDefEqProofs (disch := first | omega | decide | exact rfl | assumption | exact Nat.le_of_ble_eq_true rfl | exact One.c | exact One.o) only [vsA, vsB, eq_self, if_true, if_false, implies_true, false_implies, evp, HX.ev, Nat.reduceAdd, HOp.looks, Nat.reduceEqDiff, overw, Nat.reduceBEq, h22, ls, ub22, frame0, List.replicate, Nat.sub]
    | (refine condK_cases (fun h => ?_) (fun h => ?_) <;> (try simp only [h]) <;> (try simp only [athA, ne_eq] at h) <;> (try (exfalso; omega)))
    | (refine guardK_cases (fun h => ?_) (fun h => ?_) <;> (try simp only [h]) <;> (try simp only [athA, ne_eq] at h) <;> (try (exfalso; omega)))
    | (refine dgK_cases (fun h => ?_) (fun h => ?_) <;> (try simp only [h]) <;> (try simp only [athA, ne_eq] at h) <;> (try (exfalso; omega)))
    | refine hwp_draw mixed rfl ?_

  refine HW.loopR mixed (fun i : Nat => (sv :: .undef :: .undef :: .int .i64 ((A.length + ((A.take i).map psize).sum : Nat) : Int) :: .int .i64 (i : Nat) :: .undef :: .undef :: .undef :: .undef :: .undef :: .undef :: .undef :: .undef :: .undef :: .undef :: .undef :: .undef :: .undef :: .undef :: .undef :: .undef :: .undef :: .undef :: .undef :: .undef :: .undef :: .undef :: .undef :: .undef :: .undef :: .undef :: .undef :: .undef :: .undef :: .undef :: [])) (fun i => A.length - i) (fun i => i ≤ A.length ∧ (((A.take i).map psize).sum < 9223372036854775807 - A.length)) 0 ⟨by omega, by simp; omega⟩ (by (repeat first | exact Less.nil | refine Less.undef _ ?_ | refine Less.keep _ ?_)) ?_
  rintro i ⟨hi, hsum⟩
  by_cases h : i < A.length
  · obtain ⟨a, ha⟩ : ∃ a, A[i]? = some a := ⟨_, List.getElem?_eq_getElem h⟩
    obtain ⟨q, o, h1, h0, h2, _⟩ := R.idx ha
    have hd := (R.data a (List.mem_of_getElem? ha)).len hs
    have hs1 := psum_take ha
    have hsm := R.small a (List.mem_of_getElem? ha)
    have hps : psize a = a.text.length + a.data.length + 4 := rfl
    repeat' first
      | simp -implicitDefEqProofs (disch := first | omega | decide | exact rfl | assumption | exact Nat.le_of_ble_eq_true rfl | exact One.c | exact One.o) only [vsA, vsB, eq_self, if_true, if_false, implies_true, false_implies, evp, HX.ev, Nat.reduceAdd, HOp.looks, Nat.reduceEqDiff, overw, Nat.reduceBEq, ls, so, h1, h0, h2, hd, vadd1, vaddn, ub22]
      | (refine condK_cases (fun h => ?_) (fun h => ?_) <;> (try simp only [h]) <;> (try simp only [athA, ne_eq] at h) <;> (try (exfalso; omega)))
      | (refine guardK_cases (fun h => ?_) (fun h => ?_) <;> (try simp only [h]) <;> (try simp only [athA, ne_eq] at h) <;> (try (exfalso; omega)))
      | (refine dgK_cases (fun h => ?_) (fun h => ?_) <;> (try simp only [h]) <;> (try simp only [athA, ne_eq] at h) <;> (try (exfalso; omega)))
      | refine hwp_draw mixed rfl ?_

    · refine ⟨i + 1, by omega, ⟨by omega, by omega⟩, ?_⟩
      rw [hs1, ← Nat.add_assoc]
      (repeat first | exact Less.nil | refine Less.undef _ ?_ | refine Less.keep _ ?_)
    · have := psum_le A i
      refine congrArg HV.bool (decide_eq_decide.2 ?_)
      unfold ptotal
      omega
  · skip
    repeat' first
      | simp -implicitDefEqProofs (disch := first | omega | decide | exact rfl | assumption | exact Nat.le_of_ble_eq_true rfl | exact One.c | exact One.o) only [vsA, vsB, eq_self, if_true, if_false, implies_true, false_implies, evp, HX.ev, Nat.reduceAdd, HOp.looks, Nat.reduceEqDiff, overw, Nat.reduceBEq, ls, ub22]
      | (refine condK_cases (fun h => ?_) (fun h => ?_) <;> (try simp only [h]) <;> (try simp only [athA, ne_eq] at h) <;> (try (exfalso; omega)))
      | (refine guardK_cases (fun h => ?_) (fun h => ?_) <;> (try simp only [h]) <;> (try simp only [athA, ne_eq] at h) <;> (try (exfalso; omega)))
      | (refine dgK_cases (fun h => ?_) (fun h => ?_) <;> (try simp only [h]) <;> (try simp only [athA, ne_eq] at h) <;> (try (exfalso; omega)))
      | refine hwp_draw mixed rfl ?_

    obtain rfl : i = A.length := by omega
    rw [List.take_length]
    refine congrArg HV.bool (decide_eq_decide.2 ?_)
    unfold ptotal
    omega
end Go.Proofs.Ytccfcegmaejlnaa
namespace Go.Proofs.Ytccfcegmaejlnaa
open Go Go.HL
set_option maxRecDepth 100000
set_option linter.unusedSimpArgs false
theorem lineAt_cut (s : List UInt8) : lineAt (cutF s) = none := by
  unfold cutF
  cases h : lineAt s with
  | none => exact h
  | some k => exact lineAt_before h
theorem lineAt_of_take : ∀ {b : List UInt8} {k n : Nat}, lineAt (b.take n) = some k → lineAt b = some k
  | [], k, n, h => by simp [lineAt] at h
  | c :: r, k, 0, h => by simp [lineAt] at h
  | c :: r, k, n + 1, h => by
    rw [List.take_succ_cons] at h
    have hle := lineAt_le h
    unfold lineAt at h ⊢
    split at h
    · rename_i hc
      cases h
      rw [if_pos ⟨hc.1, by
        cases r with
        | nil => simp at hc
        | cons d r =>
          cases n with
          | zero => simp at hc
          | succ n => simpa using hc.2⟩]
    · rename_i hc
      cases hr : lineAt (r.take n) with
      | none => rw [hr] at h; simp at h
      | some j =>
        rw [hr] at h
        have hj := lineAt_le hr
        rw [if_neg (by
          rintro ⟨h1, h2⟩
          refine hc ⟨h1, ?_⟩
          cases r with
          | nil => simp at h2
          | cons d r =>
            cases n with
            | zero => simp at hj
            | succ n => simpa using h2), lineAt_of_take hr]
        exact h
/-- a line, its end behind it. -/
theorem lineAt_line : ∀ {s r : List UInt8}, lineAt s = none → lineAt (s ++ 13 :: 10 :: r) = some s.length
  | [], r, _ => by simp [lineAt]
  | c :: s, r, h => by
    unfold lineAt at h
    split at h
    · cases h
    · rename_i hc
      have hn : lineAt s = none := by
        cases hs : lineAt s with
        | none => rfl
        | some k => rw [hs] at h; cases h
      rw [List.cons_append]
      unfold lineAt
      rw [if_neg (by
        rintro ⟨h1, h2⟩
        refine hc ⟨h1, ?_⟩
        cases s with
        | nil => simp at h2
        | cons d s => simpa using h2), lineAt_line hn]
      rfl
theorem skipL_some : ∀ {b : List UInt8} {k : Nat} (h : Bool), lineAt b = some k → (skipL h b).2.1 = true
  | [], k, h, e => by simp [lineAt] at e
  | c :: r, k, h, e => by
    unfold skipL
    split
    · rfl
    · unfold lineAt at e
      split at e
      · rename_i hc
        cases r with
        | nil => simp at hc
        | cons d r =>
          obtain ⟨rfl, hd⟩ := hc
          simp only [List.head?_cons, Option.some.injEq] at hd
          subst hd
          rfl
      · cases hr : lineAt r with
        | none => rw [hr] at e; cases e
        | some j => exact skipL_some _ hr
/-- at rest: nothing is held, a line comes next. -/
def rest (mn : Nat) (s : St) : Prop := s.most = mn ∧ s.st = 0 ∧ s.held = [] ∧ s.size ≤ 4294967295 ∧ s.left ≤ 4294967297
variable {mn : Nat} {s : St}
theorem feed_rest (h : rest mn s) (b : List UInt8) : feedF s b = { s with held := b } := by
  obtain ⟨_, h2, h3, _⟩ := h
  rw [feedF3 (.inl (by omega)) (by omega), h3, List.nil_append]
/-- a short line. -/
theorem next_line (h : rest mn s) {line r : List UInt8} (hl : lineAt line = none) (hs : line.length ≤ 222) : nextS { s with held := line ++ 13 :: 10 :: r } = (some ⟨1, line, []⟩, { s with held := r }) := by
  obtain ⟨_, h2, _⟩ := h
  have e := lineAt_take (lineAt_line (r := r) hl) (n := min 224 (line ++ 13 :: 10 :: r).length) (by simp; omega)
  unfold nextS
  rw [if_pos h2]
  simp only [e]
  have e1 : (line ++ 13 :: 10 :: r).take line.length = line := by simp
  have e2 : (line ++ 13 :: 10 :: r).drop (line.length + 2) = r := by
    rw [List.drop_append, List.drop_eq_nil_of_le (by omega), List.nil_append, show line.length + 2 - line.length = 2 by omega]; rfl
  rw [e1, e2]
  simp only [Prod.mk.injEq, true_and]
  rw [← h2]
/-- a long one. -/
theorem next_long (h : rest mn s) {line : List UInt8} (hl : lineAt line = none) (hs : 222 < line.length) : ∃ s', nextS { s with held := line ++ [13, 10] } = (some ⟨2, [], []⟩, s') ∧ rest mn s' := by
  obtain ⟨h1, h2, h3, h4, h5⟩ := h
  have e := lineAt_line (r := []) hl
  have hn : lineAt ((line ++ [13, 10]).take (min 224 (line ++ [13, 10]).length)) = none := by
    cases hh : lineAt ((line ++ [13, 10]).take (min 224 (line ++ [13, 10]).length)) with
    | none => rfl
    | some k =>
      have q := lineAt_of_take hh
      have q2 := lineAt_le hh
      rw [e] at q; cases q
      rw [List.length_take] at q2; omega
  have hend : (skipL false (line ++ [13, 10])).2.1 = true ∧ (skipL false (line ++ [13, 10])).2.2 = [] := by
    cases he : (skipL false (line ++ [13, 10])).2.1 with
    | true =>
      refine ⟨rfl, ?_⟩
      rcases skipL_line _ _ he with ⟨hf, _⟩ | ⟨_, k, q1, q2⟩
      · cases hf
      · rw [e] at q1; cases q1
        rw [q2]
        exact List.drop_eq_nil_of_le (by simp)
    | false =>
      exfalso
      have := skipL_some (b := line ++ [13, 10]) (k := line.length) false e
      rw [he] at this; cases this
  refine ⟨{ s with st := 0, half := (skipL false (line ++ [13, 10])).1, ended := true, held := (skipL false (line ++ [13, 10])).2.2 }, ?_, h1, rfl, hend.2, h4, h5⟩
  unfold nextS
  rw [if_pos h2]
  simp only [hn]
  rw [if_neg (by simp; omega), if_pos hend.1]

/-- a body, and two bytes behind it. -/
theorem next_body (h : rest mn s) (data : List UInt8) (e0 e1 : UInt8) (hd : data.length ≤ 4294967295) : ∃ s1 s', bodyS { s with held := data ++ [e0, e1] } (data.length : Nat) = (s1, 0) ∧ rest mn s' ∧ s1.held.length ≤ data.length + 2 ∧ s1.st ≤ 3 ∧ s1.size ≤ 4294967295 ∧ s1.left ≤ 4294967297 ∧
    nextS s1 = (some (if mn < data.length then ⟨4, [], []⟩ else if e0 = 13 ∧ e1 = 10 then ⟨3, [], data⟩ else ⟨5, [], []⟩), s') := by
  obtain ⟨h1, h2, h3, h4, h5⟩ := h
  by_cases hm : mn < data.length
  · refine ⟨{ s with st := 3, left := 0, held := [] }, { s with st := 0, left := 0, held := [] }, ?_, ⟨h1, rfl, rfl, h4, by simp⟩, by simp, by simp, h4, by simp, ?_⟩
    · unfold bodyS
      rw [if_neg (by simp only; omega), if_neg (by simp only; omega)]
      simp
    · rw [if_pos hm]
      unfold nextS
      rw [if_neg (by simp), if_neg (by simp), if_neg (by simp), if_neg (by simp)]
  · refine ⟨{ s with st := 2, size := data.length, held := data ++ [e0, e1] }, { s with st := 0, size := data.length, held := [] }, ?_, ⟨h1, rfl, rfl, hd, h5⟩, by simp, by simp, hd, h5, ?_⟩
    · unfold bodyS
      rw [if_neg (by simp only; omega), if_pos (by simp only; omega)]
      simp
    · rw [if_neg hm]
      unfold nextS
      rw [if_neg (by simp), if_neg (by simp), if_pos rfl]
      simp only
      rw [if_neg (by simp)]
      have t : (data ++ [e0, e1]).take (data.length + 2) = data ++ [e0, e1] := List.take_of_length_le (by simp)
      have d : (data ++ [e0, e1]).drop (data.length + 2) = [] := List.drop_eq_nil_of_le (by simp)
      have b : bodyF (data ++ [e0, e1]) data.length = if e0 = 13 ∧ e1 = 10 then (3, data) else (5, []) := by
        unfold bodyF
        have g0 : (data ++ [e0, e1])[data.length]? = some e0 := by simp
        have g1 : (data ++ [e0, e1])[data.length + 1]? = some e1 := by rw [List.getElem?_append_right (by omega)]; simp
        rw [g0, g1]
        simp
      rw [t, d, b]
      by_cases hc : e0 = 13 ∧ e1 = 10
      · rw [if_pos hc, if_pos hc]
      · rw [if_neg hc, if_neg hc]
/-- nothing more. -/
theorem next_rest (h : rest mn s) : nextS s = (none, s) := by
  obtain ⟨h1, h2, h3, _⟩ := h
  unfold nextS
  rw [if_pos h2, h3]
  simp [lineAt]
end Go.Proofs.Ytccfcegmaejlnaa
