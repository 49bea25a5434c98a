/-
  Proved: the law IntakeParts (stintlaw06) returns true at every number, every parts, every cuts. No condition.
  stintlaw06: what the statements about parts and cuts share.
  intake, plainly: what is said part by part is told part by part.
  IntakeParts: what the law comes to.
-/
import Derived.Test.YtccfcegmaejlnaaKP1
import Derived.Test.YtccfcegmaejlnaaRows
import Derived.Test.YtccfcegmaejlnaaHLHand
import Derived.Test.YtccfcegmaejlnaaHLRow
import Derived.HandedShaped
import Derived.SizedLaws
import Derived.Deep.Slices
namespace Go.Proofs.Ytccfcegmaejlnaa
open Go Go.HL
set_option maxRecDepth 100000
set_option maxHeartbeats 40000000
set_option linter.unusedSimpArgs false
attribute [local irreducible] pt My Ex Vw Gr GrK each grp exs Sat takeCells happend hbuildSlice hstore hbox hslice hmakeSlice hs2b hcopy HL.unit opC
/-- what a part says. -/
structure PartV where
  text : List UInt8
  body : Bool
  broken : Bool
  v : HV
  data : List UInt8
def PartV.cells (a : PartV) : List HV := [.str a.text, .bool a.body, .bool a.broken, a.v]
def saidF (text : List UInt8) (body broken : Bool) (data : List UInt8) : List UInt8 :=
  cutF text ++ [13, 10] ++ (if body then data ++ (if broken then [10, 13] else [13, 10]) else [])

theorem bc2 (a b : UInt8) : bcells [a, b] = [.int .u8 a.toNat, .int .u8 b.toNat] := rfl
theorem said25 {hs : HS} {l : List SA} {p : PartV} (H : Sat hs l) (R : Rdl l p.v p.data.length (bcells p.data)) (hb : p.text.length + p.data.length < 4611686018427) :
    HC Try.prog 25 [.agg p.cells] hs fun v hs' => Sat hs' (Ex 1 v (saidF p.text p.body p.broken p.data).length (bcells (saidF p.text p.body p.broken p.data)) :: l) := by
  obtain ⟨text, body, broken, pv, data⟩ := p
  simp only [PartV.cells] at R hb ⊢
  have hmax : maxLen = 9223372036854775807 := rfl
  have p1 := (R _ H).one
  have hcl : (cutF text).length ≤ text.length := by
    unfold cutF
    split
    · simp; omega
    · exact Nat.le_refl _
  refine HC.wp mixed Try.func25 c25 ?_
  first | have f0 := Sat.pf (H) | have f0 := trivial
  first | have f1 := Sat.pf (H.t) | have f1 := trivial
  first | have f2 := Sat.pf (H.t.t) | have f2 := trivial
  first | have f3 := Sat.pf (H.t.t.t) | have f3 := trivial
  first | have f4 := Sat.pf (H.t.t.t.t) | have f4 := trivial
  first | have f5 := Sat.pf (H.t.t.t.t.t) | have f5 := trivial
  first | have f6 := Sat.pf (H.t.t.t.t.t.t) | have f6 := trivial
  first | have f7 := Sat.pf (H.t.t.t.t.t.t.t) | have f7 := trivial
  repeat' first
    | ((with_reducible show Need _); refine need_of ?_; (first | have f0 := Sat.pf (H) | have f0 := trivial); (first | have f1 := Sat.pf (H.t) | have f1 := trivial); (first | have f2 := Sat.pf (H.t.t) | have f2 := trivial); (first | have f3 := Sat.pf (H.t.t.t) | have f3 := trivial); (first | have f4 := Sat.pf (H.t.t.t.t) | have f4 := trivial); (first | have f5 := Sat.pf (H.t.t.t.t.t) | have f5 := trivial); (first | have f6 := Sat.pf (H.t.t.t.t.t.t) | have f6 := trivial); (first | have f7 := Sat.pf (H.t.t.t.t.t.t.t) | have f7 := trivial); (first | have T := (R _ H.t.t).take | skip))
    | simp -implicitDefEqProofs (disch := first | omega | decide | exact rfl | assumption | exact Nat.le_of_ble_eq_true rfl | exact One.c | exact One.o) only [vsA, vsB, eq_self, if_true, if_false, implies_true, false_implies, evp, HX.ev, Nat.reduceAdd, HOp.looks, Nat.reduceEqDiff, overw, Nat.reduceBEq, h25, p1, ub25, f0, f1, f2, f3, f4, f5, f6, f7, frame0, List.replicate, Nat.sub]
    | (refine condK_cases (fun h => ?_) (fun h => ?_) <;> (try simp only [h]) <;> (try simp only [athA, ne_eq] at h) <;> (try (exfalso; omega)))
    | (refine guardK_cases (fun h => ?_) (fun h => ?_) <;> (try simp only [h]) <;> (try simp only [athA, ne_eq] at h) <;> (try (exfalso; omega)))
    | (clear H f0 f1 f2 f3 f4 f5 f6 f7; (with_reducible intro v2 hs H); (try simp only [setA, overw, Nat.reduceAdd] at H); refine need ?_)
    | ((with_reducible show actK _ (HAct.call (HX.cst (HV.func (Fn.func 23) _ _)) _) _ _ _ _ _); refine vcall_of ok23 rfl (cut23 text (by omega)) ?_; rintro _ _ ⟨rfl, rfl⟩)
    | refine opC_K ?_
    | ((with_reducible show opC (hs2b _ _) _); refine sl_s2bX H (by omega) ?_)
    | ((with_reducible show opC (hbuildSlice _ _ _ _ _) _); refine sl_bslice H rfl rfl (by omega) rfl rfl ?_; clear H f0 f1 f2 f3 f4 f5 f6 f7; intro y hs H hy; have hy := hy.take; refine need ?_)
    | ((with_reducible show opC (happend _ _ _ _ _) _); refine sl_append (by with_reducible first | exact H | exact H.p1 | exact H.p2 | exact H.p3 | exact H.p4 | exact H.p5 | exact H.p6 | exact H.p7) (by first | assumption | with_reducible first | exact f0.2.1 | exact f1.2.1 | exact f2.2.1 | exact f3.2.1 | exact f4.2.1 | exact f5.2.1 | exact f6.2.1 | exact f7.2.1 | exact va_takeS) (by first | exact roomFor_of (by omega) | exact roomFor_wide (by omega)) (by omega) ?_)
    | ((with_reducible show opC (happend _ _ _ _ _) _); refine sl_append0X H (by first | assumption | with_reducible first | exact f0.2.1 | exact f1.2.1 | exact f2.2.1 | exact f3.2.1 | exact f4.2.1 | exact f5.2.1 | exact f6.2.1 | exact f7.2.1 | exact va_takeS) (by first | exact roomFor_of (by omega) | exact roomFor_wide (by omega)) (by omega) ?_)
    | ((with_reducible show opC (happend _ _ _ _ _) _); refine sl_appendX (by with_reducible first | exact H | exact H.p1 | exact H.p2 | exact H.p3 | exact H.p4 | exact H.p5 | exact H.p6 | exact H.p7) (by first | assumption | with_reducible first | exact f0.2.1 | exact f1.2.1 | exact f2.2.1 | exact f3.2.1 | exact f4.2.1 | exact f5.2.1 | exact f6.2.1 | exact f7.2.1 | exact va_takeS) (by first | exact roomFor_of (by omega) | exact roomFor_wide (by omega)) (by omega) ?_)
    | ((with_reducible show opC (hbuildSlice _ _ _ _ _) _); refine sl_bslice1 H rfl (by first | exact rfl | (simp only [f0, f1, f2, f3, f4, f5, f6, f7]; done) | (simp only [onA, *]; done)) (by first | exact rfl | (simp only [f0, f1, f2, f3, f4, f5, f6, f7]; done) | (simp only [onA, *]; done)) ?_)
    | ((with_reducible show opC (hbox _ _) _); refine sl_box1 H (by first | exact rfl | (simp only [f0, f1, f2, f3, f4, f5, f6, f7]; done) | (simp only [onA, *]; done)) (by first | exact rfl | (simp only [f0, f1, f2, f3, f4, f5, f6, f7]; done) | (simp only [onA, *]; done)) ?_)
    | ((with_reducible show opC (hbox _ _) _); refine sl_boxA H (by first | exact rfl | (simp only [f0, f1, f2, f3, f4, f5, f6, f7]; done) | (simp only [onA, *]; done)) ?_)
    | with_reducible intro hy

  all_goals
    have H := H.d1
    simp only [saidF, *, if_true, Bool.false_eq_true, if_false, List.append_nil]
    simp only [bcells_app, bc2, List.length_append, List.length_cons, List.length_nil, Nat.zero_add, Nat.reduceAdd, ← Nat.add_assoc, ← List.append_assoc]
    exact H

theorem rdl_cut {l : List SA} {hs0 : HS} {v : HV} {b : List UInt8} (R : Rdl l v b.length (bcells b)) (H0 : Sat hs0 l) {lo hi : Nat} {vlo vhi : Option HV} (a : Lo lo vlo) (c : Hi hi b.length vhi) (h1 : lo ≤ hi) (h2 : hi ≤ b.length) :
    ∃ v', hslice v vlo vhi none = some v' ∧ Rdl l v' ((b.drop lo).take (hi - lo)).length (bcells ((b.drop lo).take (hi - lo))) := by
  obtain ⟨v', e, _⟩ := rd_cut (R _ H0) rfl a c h1 h2
  refine ⟨v', e, fun hs H => ?_⟩
  obtain ⟨v2, e2, r2⟩ := rd_cut (R _ H) rfl a c h1 h2
  rw [e] at e2; cases e2
  rw [List.length_take, List.length_drop, Nat.min_eq_left (by omega)]
  exact r2
theorem fed24 {hs : HS} {l : List SA} {p : Nat} {s : St} {b : HV} {bs : List UInt8} (H : Sat hs (InP p s :: l)) (R : Rdl l b bs.length (bcells bs)) (at_ : Int) (hb : s.held.length + bs.length < 4611686018) (hl : s.left < 4611686018427387904) :
    HC Try.prog 24 [.ptr p 0, b, .int .i64 at_] hs fun _ hs' => Sat hs' (InP p (feedF s bs) :: l) := by
  have lb := fun hs h => (R hs h).len hs
  have lb := lb _ H.t
  have rb := (R _ H.t).sOk
  have hk := among_lt (i := at_) (m := bs.length + 1) (by omega)
  obtain ⟨k, hkd⟩ : ∃ k, k = amongF at_ (bs.length + 1) := ⟨_, rfl⟩
  rw [← hkd] at hk
  have q2 : hbin .quo none (.int .i64 (k : Nat)) (.int .i64 2) = some (.int .i64 ((k / 2 : Nat) : Int)) := by
    have : hbin .quo none (.int .i64 (k : Nat)) (.int .i64 2) = if IntKind.i64 = IntKind.i64 ∧ (2 : Int) ≠ 0 then some (.int .i64 (wr .i64 (((k : Nat) : Int).tdiv 2))) else none := rfl
    have ht : ((k : Nat) : Int).tdiv 2 = ((k / 2 : Nat) : Int) := (Int.ofNat_tdiv k 2).symm
    rw [this, if_pos ⟨rfl, by decide⟩, ht, vwr_i64 (by omega)]
  obtain ⟨v1, e1, R1⟩ := rdl_cut R H.t (lo := 0) (hi := k / 2) Lo.none (Hi.some (k := .i64)) (by omega) (by omega)
  obtain ⟨v2, e2, R2⟩ := rdl_cut R H.t (lo := k / 2) (hi := k) (Lo.some (k := .i64)) (Hi.some (k := .i64)) (by omega) (by omega)
  obtain ⟨v3, e3, R3⟩ := rdl_cut R H.t (lo := k) (hi := bs.length) (Lo.some (k := .i64)) Hi.none (by omega) (by omega)
  have f1 := feed_len s ((bs.drop 0).take (k / 2 - 0))
  have f2 := feed_len (feedF s ((bs.drop 0).take (k / 2 - 0))) ((bs.drop (k / 2)).take (k - k / 2))
  have ln1 : ((bs.drop 0).take (k / 2 - 0)).length ≤ bs.length := by simp; omega
  have ln2 : ((bs.drop (k / 2)).take (k - k / 2)).length ≤ bs.length := by simp; omega
  have ln3 : ((bs.drop k).take (bs.length - k)).length ≤ bs.length := by simp
  have hA : HC Try.prog 20 [.int .i64 at_, .int .i64 ((bs.length + 1 : Nat) : Int)] hs fun v hs' => v = .int .i64 (k : Nat) ∧ hs' = hs := by rw [hkd]; exact among20 at_ _ (by omega)
  have key : feedF (feedF (feedF s ((bs.drop 0).take (k / 2 - 0))) ((bs.drop (k / 2)).take (k - k / 2))) ((bs.drop k).take (bs.length - k)) = feedF s bs := by
    rw [feed_app, feed_app]
    congr 1
    have h3 : (bs.drop k).take (bs.length - k) = bs.drop k := List.take_of_length_le (by simp)
    rw [List.drop_zero, Nat.sub_zero, h3, ← List.append_assoc]
    have h1 : bs.take (k / 2) ++ (bs.drop (k / 2)).take (k - k / 2) = bs.take k := by
      rw [← List.drop_take]
      conv => lhs; arg 1; rw [show bs.take (k / 2) = (bs.take k).take (k / 2) by rw [List.take_take, Nat.min_eq_left (by omega)]]
      exact List.take_append_drop _ _
    rw [h1]; exact List.take_append_drop _ _
  clear f1
  have f1 := feed_len s ((bs.drop 0).take (k / 2 - 0))
  refine HC.wp mixed Try.func24 c24 ?_
  have g1 := f1
  have g2 := f2
  first | have f0 := Sat.pf (H) | have f0 := trivial
  first | have f1 := Sat.pf (H.t) | have f1 := trivial
  first | have f2 := Sat.pf (H.t.t) | have f2 := trivial
  first | have f3 := Sat.pf (H.t.t.t) | have f3 := trivial
  first | have f4 := Sat.pf (H.t.t.t.t) | have f4 := trivial
  first | have f5 := Sat.pf (H.t.t.t.t.t) | have f5 := trivial
  first | have f6 := Sat.pf (H.t.t.t.t.t.t) | have f6 := trivial
  first | have f7 := Sat.pf (H.t.t.t.t.t.t.t) | have f7 := trivial
  repeat' first
    | ((with_reducible show Need _); refine need_of ?_; (first | have f0 := Sat.pf (H) | have f0 := trivial); (first | have f1 := Sat.pf (H.t) | have f1 := trivial); (first | have f2 := Sat.pf (H.t.t) | have f2 := trivial); (first | have f3 := Sat.pf (H.t.t.t) | have f3 := trivial); (first | have f4 := Sat.pf (H.t.t.t.t) | have f4 := trivial); (first | have f5 := Sat.pf (H.t.t.t.t.t) | have f5 := trivial); (first | have f6 := Sat.pf (H.t.t.t.t.t.t) | have f6 := trivial); (first | have f7 := Sat.pf (H.t.t.t.t.t.t.t) | have f7 := trivial))
    | simp -implicitDefEqProofs (disch := first | omega | decide | exact rfl | assumption | exact Nat.le_of_ble_eq_true rfl | exact One.c | exact One.o) only [vsA, vsB, eq_self, if_true, if_false, implies_true, false_implies, evp, HX.ev, Nat.reduceAdd, HOp.looks, Nat.reduceEqDiff, overw, Nat.reduceBEq, h24, lb, rb, e1, e2, e3, q2, vadd1, ub24, f0, f1, f2, f3, f4, f5, f6, f7, frame0, List.replicate, Nat.sub]
    | (refine condK_cases (fun h => ?_) (fun h => ?_) <;> (try simp only [h]) <;> (try simp only [athA, ne_eq] at h) <;> (try (exfalso; omega)))
    | (refine guardK_cases (fun h => ?_) (fun h => ?_) <;> (try simp only [h]) <;> (try simp only [athA, ne_eq] at h) <;> (try (exfalso; omega)))
    | (clear H f0 f1 f2 f3 f4 f5 f6 f7; (with_reducible intro v2 hs H); (try simp only [setA, overw, Nat.reduceAdd] at H); refine need ?_)
    | ((with_reducible show actK _ (HAct.call (HX.cst (HV.func (Fn.func 20) _ _)) _) _ _ _ _ _); refine vcall_of ok20 rfl hA ?_; rintro _ _ ⟨rfl, rfl⟩)
    | ((with_reducible show actK _ (HAct.call (HX.cst (HV.func (Fn.func 18) _ _)) _) _ _ _ _ _); refine vcall_of ok18 rfl (feedP H R1 (by omega) (by omega)) ?_;  clear H f0 f1 f2 f3 f4 f5 f6 f7; rintro _ hs H; have rb := (R _ H.t).sOk; refine need ?_)
    | ((with_reducible show actK _ (HAct.call (HX.cst (HV.func (Fn.func 18) _ _)) _) _ _ _ _ _); refine vcall_of ok18 rfl (feedP H R2 (by omega) (by omega)) ?_;  clear H f0 f1 f2 f3 f4 f5 f6 f7; rintro _ hs H; have rb := (R _ H.t).sOk; refine need ?_)
    | ((with_reducible show actK _ (HAct.call (HX.cst (HV.func (Fn.func 18) _ _)) _) _ _ _ _ _); refine vcall_of ok18 rfl (feedP H R3 (by omega) (by omega)) ?_;  clear H f0 f1 f2 f3 f4 f5 f6 f7; rintro _ hs H; have rb := (R _ H.t).sOk; refine need ?_)
    | refine opC_K ?_
    | with_reducible intro hy

  rw [key] at H
  exact H

structure PartsAt (hs : HS) (sv : HV) (A : List PartV) : Prop where
  row : Rd hs 4 sv A.length (A.flatMap PartV.cells)
  data : ∀ a ∈ A, Rd hs 1 a.v a.data.length (bcells a.data)
  few : A.length < 1152921504606846976
  small : ∀ a ∈ A, a.data.length < 1152921504606846976 ∧ a.text.length < 1152921504606846976
def psize (a : PartV) : Nat := a.text.length + a.data.length + 4
def ptotal (A : List PartV) : Nat := A.length + (A.map psize).sum
theorem psum_take {A : List PartV} {i : Nat} {a : PartV} (hi : A[i]? = some a) : ((A.take (i + 1)).map psize).sum = ((A.take i).map psize).sum + psize a := by
  rw [List.take_add_one, hi]; simp
theorem psum_le : ∀ (A : List PartV) (i : Nat), ((A.take i).map psize).sum ≤ (A.map psize).sum
  | [], i => by simp
  | a :: A, 0 => by simp
  | a :: A, i + 1 => by have := psum_le A i; simp only [List.take_succ_cons, List.map_cons, List.sum_cons]; omega
theorem PartsAt.idx {hs : HS} {sv : HV} {A : List PartV} (R : PartsAt hs sv A) {i : Nat} {a : PartV} (hi : A[i]? = some a) :
    ∃ h o, hindexAddr 4 sv (.int .i64 (i : Nat)) = some (.ptr h o) ∧ hload none hs (.ptr h o) = some (.str a.text) ∧ hload none hs (.ptr h (o + 3)) = some a.v ∧ hload (some 4) hs (.ptr h o) = some (.agg a.cells) := by
  obtain ⟨h, o, h1, h2, h3⟩ := R.row.idxF (s := 4) (fun _ => rfl) rfl hi .i64
  exact ⟨h, o, h1, h2 0 (by omega), h2 3 (by omega), h3⟩
theorem parts22 {hs : HS} {sv : HV} {A : List PartV} (R : PartsAt hs sv A) : HC Try.prog 22 [sv] hs fun v hs' => v = .bool (decide (2147483647 < ptotal A)) ∧ hs' = hs := by
  have ls := R.row.len hs
  have so := R.row.sOk
  have few := R.few
  refine HC.wp mixed Try.func22 c22 ?_
  repeat' first
    | simp -implicitDefEqProofs (disch := first | omega | decide | exact rfl | assumption | exact Nat.le_of_ble_eq_true rfl | exact One.c | exact One.o) only [vsA, vsB, eq_self, if_true, if_false, implies_true, false_implies, evp, HX.ev, Nat.reduceAdd, HOp.looks, Nat.reduceEqDiff, overw, Nat.reduceBEq, h22, ls, ub22, frame0, List.replicate, Nat.sub]
    | (refine condK_cases (fun h => ?_) (fun h => ?_) <;> (try simp only [h]) <;> (try simp only [athA, ne_eq] at h) <;> (try (exfalso; omega)))
    | (refine guardK_cases (fun h => ?_) (fun h => ?_) <;> (try simp only [h]) <;> (try simp only [athA, ne_eq] at h) <;> (try (exfalso; omega)))
    | (refine dgK_cases (fun h => ?_) (fun h => ?_) <;> (try simp only [h]) <;> (try simp only [athA, ne_eq] at h) <;> (try (exfalso; omega)))
    | refine hwp_draw mixed rfl ?_

  refine HW.loopR mixed (fun i : Nat => (sv :: .undef :: .undef :: .int .i64 ((A.length + ((A.take i).map psize).sum : Nat) : Int) :: .int .i64 (i : Nat) :: .undef :: .undef :: .undef :: .undef :: .undef :: .undef :: .undef :: .undef :: .undef :: .undef :: .undef :: .undef :: .undef :: .undef :: .undef :: .undef :: .undef :: .undef :: .undef :: .undef :: .undef :: .undef :: .undef :: .undef :: .undef :: .undef :: .undef :: .undef :: .undef :: .undef :: [])) (fun i => A.length - i) (fun i => i ≤ A.length ∧ (((A.take i).map psize).sum < 9223372036854775807 - A.length)) 0 ⟨by omega, by simp; omega⟩ (by (repeat first | exact Less.nil | refine Less.undef _ ?_ | refine Less.keep _ ?_)) ?_
  rintro i ⟨hi, hsum⟩
  by_cases h : i < A.length
  · obtain ⟨a, ha⟩ : ∃ a, A[i]? = some a := ⟨_, List.getElem?_eq_getElem h⟩
    obtain ⟨q, o, h1, h0, h2, _⟩ := R.idx ha
    have hd := (R.data a (List.mem_of_getElem? ha)).len hs
    have hs1 := psum_take ha
    have hsm := R.small a (List.mem_of_getElem? ha)
    have hps : psize a = a.text.length + a.data.length + 4 := rfl
    repeat' first
      | simp -implicitDefEqProofs (disch := first | omega | decide | exact rfl | assumption | exact Nat.le_of_ble_eq_true rfl | exact One.c | exact One.o) only [vsA, vsB, eq_self, if_true, if_false, implies_true, false_implies, evp, HX.ev, Nat.reduceAdd, HOp.looks, Nat.reduceEqDiff, overw, Nat.reduceBEq, ls, so, h1, h0, h2, hd, vadd1, vaddn, ub22]
      | (refine condK_cases (fun h => ?_) (fun h => ?_) <;> (try simp only [h]) <;> (try simp only [athA, ne_eq] at h) <;> (try (exfalso; omega)))
      | (refine guardK_cases (fun h => ?_) (fun h => ?_) <;> (try simp only [h]) <;> (try simp only [athA, ne_eq] at h) <;> (try (exfalso; omega)))
      | (refine dgK_cases (fun h => ?_) (fun h => ?_) <;> (try simp only [h]) <;> (try simp only [athA, ne_eq] at h) <;> (try (exfalso; omega)))
      | refine hwp_draw mixed rfl ?_

    · refine ⟨i + 1, by omega, ⟨by omega, by omega⟩, ?_⟩
      rw [hs1, ← Nat.add_assoc]
      (repeat first | exact Less.nil | refine Less.undef _ ?_ | refine Less.keep _ ?_)
    · have := psum_le A i
      refine congrArg HV.bool (decide_eq_decide.2 ?_)
      unfold ptotal
      omega
  · skip
    repeat' first
      | simp -implicitDefEqProofs (disch := first | omega | decide | exact rfl | assumption | exact Nat.le_of_ble_eq_true rfl | exact One.c | exact One.o) only [vsA, vsB, eq_self, if_true, if_false, implies_true, false_implies, evp, HX.ev, Nat.reduceAdd, HOp.looks, Nat.reduceEqDiff, overw, Nat.reduceBEq, ls, ub22]
      | (refine condK_cases (fun h => ?_) (fun h => ?_) <;> (try simp only [h]) <;> (try simp only [athA, ne_eq] at h) <;> (try (exfalso; omega)))
      | (refine guardK_cases (fun h => ?_) (fun h => ?_) <;> (try simp only [h]) <;> (try simp only [athA, ne_eq] at h) <;> (try (exfalso; omega)))
      | (refine dgK_cases (fun h => ?_) (fun h => ?_) <;> (try simp only [h]) <;> (try simp only [athA, ne_eq] at h) <;> (try (exfalso; omega)))
      | refine hwp_draw mixed rfl ?_

    obtain rfl : i = A.length := by omega
    rw [List.take_length]
    refine congrArg HV.bool (decide_eq_decide.2 ?_)
    unfold ptotal
    omega
end Go.Proofs.Ytccfcegmaejlnaa
namespace Go.Proofs.Ytccfcegmaejlnaa
open Go Go.HL
set_option maxRecDepth 100000
set_option linter.unusedSimpArgs false
theorem lineAt_cut (s : List UInt8) : lineAt (cutF s) = none := by
  unfold cutF
  cases h : lineAt s with
  | none => exact h
  | some k => exact lineAt_before h
theorem lineAt_of_take : ∀ {b : List UInt8} {k n : Nat}, lineAt (b.take n) = some k → lineAt b = some k
  | [], k, n, h => by simp [lineAt] at h
  | c :: r, k, 0, h => by simp [lineAt] at h
  | c :: r, k, n + 1, h => by
    rw [List.take_succ_cons] at h
    have hle := lineAt_le h
    unfold lineAt at h ⊢
    split at h
    · rename_i hc
      cases h
      rw [if_pos ⟨hc.1, by
        cases r with
        | nil => simp at hc
        | cons d r =>
          cases n with
          | zero => simp at hc
          | succ n => simpa using hc.2⟩]
    · rename_i hc
      cases hr : lineAt (r.take n) with
      | none => rw [hr] at h; simp at h
      | some j =>
        rw [hr] at h
        have hj := lineAt_le hr
        rw [if_neg (by
          rintro ⟨h1, h2⟩
          refine hc ⟨h1, ?_⟩
          cases r with
          | nil => simp at h2
          | cons d r =>
            cases n with
            | zero => simp at hj
            | succ n => simpa using h2), lineAt_of_take hr]
        exact h
/-- a line, its end behind it. -/
theorem lineAt_line : ∀ {s r : List UInt8}, lineAt s = none → lineAt (s ++ 13 :: 10 :: r) = some s.length
  | [], r, _ => by simp [lineAt]
  | c :: s, r, h => by
    unfold lineAt at h
    split at h
    · cases h
    · rename_i hc
      have hn : lineAt s = none := by
        cases hs : lineAt s with
        | none => rfl
        | some k => rw [hs] at h; cases h
      rw [List.cons_append]
      unfold lineAt
      rw [if_neg (by
        rintro ⟨h1, h2⟩
        refine hc ⟨h1, ?_⟩
        cases s with
        | nil => simp at h2
        | cons d s => simpa using h2), lineAt_line hn]
      rfl
theorem skipL_some : ∀ {b : List UInt8} {k : Nat} (h : Bool), lineAt b = some k → (skipL h b).2.1 = true
  | [], k, h, e => by simp [lineAt] at e
  | c :: r, k, h, e => by
    unfold skipL
    split
    · rfl
    · unfold lineAt at e
      split at e
      · rename_i hc
        cases r with
        | nil => simp at hc
        | cons d r =>
          obtain ⟨rfl, hd⟩ := hc
          simp only [List.head?_cons, Option.some.injEq] at hd
          subst hd
          rfl
      · cases hr : lineAt r with
        | none => rw [hr] at e; cases e
        | some j => exact skipL_some _ hr
/-- at rest: nothing is held, a line comes next. -/
def rest (mn : Nat) (s : St) : Prop := s.most = mn ∧ s.st = 0 ∧ s.held = [] ∧ s.size ≤ 4294967295 ∧ s.left ≤ 4294967297
variable {mn : Nat} {s : St}
theorem feed_rest (h : rest mn s) (b : List UInt8) : feedF s b = { s with held := b } := by
  obtain ⟨_, h2, h3, _⟩ := h
  rw [feedF3 (.inl (by omega)) (by omega), h3, List.nil_append]
/-- a short line. -/
theorem next_line (h : rest mn s) {line r : List UInt8} (hl : lineAt line = none) (hs : line.length ≤ 222) : nextS { s with held := line ++ 13 :: 10 :: r } = (some ⟨1, line, []⟩, { s with held := r }) := by
  obtain ⟨_, h2, _⟩ := h
  have e := lineAt_take (lineAt_line (r := r) hl) (n := min 224 (line ++ 13 :: 10 :: r).length) (by simp; omega)
  unfold nextS
  rw [if_pos h2]
  simp only [e]
  have e1 : (line ++ 13 :: 10 :: r).take line.length = line := by simp
  have e2 : (line ++ 13 :: 10 :: r).drop (line.length + 2) = r := by
    rw [List.drop_append, List.drop_eq_nil_of_le (by omega), List.nil_append, show line.length + 2 - line.length = 2 by omega]; rfl
  rw [e1, e2]
  simp only [Prod.mk.injEq, true_and]
  rw [← h2]
/-- a long one. -/
theorem next_long (h : rest mn s) {line : List UInt8} (hl : lineAt line = none) (hs : 222 < line.length) : ∃ s', nextS { s with held := line ++ [13, 10] } = (some ⟨2, [], []⟩, s') ∧ rest mn s' := by
  obtain ⟨h1, h2, h3, h4, h5⟩ := h
  have e := lineAt_line (r := []) hl
  have hn : lineAt ((line ++ [13, 10]).take (min 224 (line ++ [13, 10]).length)) = none := by
    cases hh : lineAt ((line ++ [13, 10]).take (min 224 (line ++ [13, 10]).length)) with
    | none => rfl
    | some k =>
      have q := lineAt_of_take hh
      have q2 := lineAt_le hh
      rw [e] at q; cases q
      rw [List.length_take] at q2; omega
  have hend : (skipL false (line ++ [13, 10])).2.1 = true ∧ (skipL false (line ++ [13, 10])).2.2 = [] := by
    cases he : (skipL false (line ++ [13, 10])).2.1 with
    | true =>
      refine ⟨rfl, ?_⟩
      rcases skipL_line _ _ he with ⟨hf, _⟩ | ⟨_, k, q1, q2⟩
      · cases hf
      · rw [e] at q1; cases q1
        rw [q2]
        exact List.drop_eq_nil_of_le (by simp)
    | false =>
      exfalso
      have := skipL_some (b := line ++ [13, 10]) (k := line.length) false e
      rw [he] at this; cases this
  refine ⟨{ s with st := 0, half := (skipL false (line ++ [13, 10])).1, ended := true, held := (skipL false (line ++ [13, 10])).2.2 }, ?_, h1, rfl, hend.2, h4, h5⟩
  unfold nextS
  rw [if_pos h2]
  simp only [hn]
  rw [if_neg (by simp; omega), if_pos hend.1]

/-- a body, and two bytes behind it. -/
theorem next_body (h : rest mn s) (data : List UInt8) (e0 e1 : UInt8) (hd : data.length ≤ 4294967295) : ∃ s1 s', bodyS { s with held := data ++ [e0, e1] } (data.length : Nat) = (s1, 0) ∧ rest mn s' ∧ s1.held.length ≤ data.length + 2 ∧ s1.st ≤ 3 ∧ s1.size ≤ 4294967295 ∧ s1.left ≤ 4294967297 ∧
    nextS s1 = (some (if mn < data.length then ⟨4, [], []⟩ else if e0 = 13 ∧ e1 = 10 then ⟨3, [], data⟩ else ⟨5, [], []⟩), s') := by
  obtain ⟨h1, h2, h3, h4, h5⟩ := h
  by_cases hm : mn < data.length
  · refine ⟨{ s with st := 3, left := 0, held := [] }, { s with st := 0, left := 0, held := [] }, ?_, ⟨h1, rfl, rfl, h4, by simp⟩, by simp, by simp, h4, by simp, ?_⟩
    · unfold bodyS
      rw [if_neg (by simp only; omega), if_neg (by simp only; omega)]
      simp
    · rw [if_pos hm]
      unfold nextS
      rw [if_neg (by simp), if_neg (by simp), if_neg (by simp), if_neg (by simp)]
  · refine ⟨{ s with st := 2, size := data.length, held := data ++ [e0, e1] }, { s with st := 0, size := data.length, held := [] }, ?_, ⟨h1, rfl, rfl, hd, h5⟩, by simp, by simp, hd, h5, ?_⟩
    · unfold bodyS
      rw [if_neg (by simp only; omega), if_pos (by simp only; omega)]
      simp
    · rw [if_neg hm]
      unfold nextS
      rw [if_neg (by simp), if_neg (by simp), if_pos rfl]
      simp only
      rw [if_neg (by simp)]
      have t : (data ++ [e0, e1]).take (data.length + 2) = data ++ [e0, e1] := List.take_of_length_le (by simp)
      have d : (data ++ [e0, e1]).drop (data.length + 2) = [] := List.drop_eq_nil_of_le (by simp)
      have b : bodyF (data ++ [e0, e1]) data.length = if e0 = 13 ∧ e1 = 10 then (3, data) else (5, []) := by
        unfold bodyF
        have g0 : (data ++ [e0, e1])[data.length]? = some e0 := by simp
        have g1 : (data ++ [e0, e1])[data.length + 1]? = some e1 := by rw [List.getElem?_append_right (by omega)]; simp
        rw [g0, g1]
        simp
      rw [t, d, b]
      by_cases hc : e0 = 13 ∧ e1 = 10
      · rw [if_pos hc, if_pos hc]
      · rw [if_neg hc, if_neg hc]
/-- nothing more. -/
theorem next_rest (h : rest mn s) : nextS s = (none, s) := by
  obtain ⟨h1, h2, h3, _⟩ := h
  unfold nextS
  rw [if_pos h2, h3]
  simp [lineAt]
end Go.Proofs.Ytccfcegmaejlnaa
namespace Go.Proofs.Ytccfcegmaejlnaa
open Go Go.HL
set_option maxRecDepth 100000
set_option maxHeartbeats 40000000
set_option linter.unusedSimpArgs false
attribute [local irreducible] pt My Ex Vw Gr GrK each grp exs Sat takeCells happend hbuildSlice hstore hbox hslice hmakeSlice hs2b hcopy HL.unit opC
theorem keepIn {hs : HS} {l : List SA} {p : Nat} {s : St} (H : Sat hs (InP p s :: l)) : Sat hs (InP p s :: l) := H
theorem law5 {hs : HS} {l : List SA} {sv cv : HV} {A : List PartV} {C : List Int} (H : Sat hs l) (G : ∀ hs, Sat hs l → hs[0]? = some (some (HB.gint 0))) (R : ∀ hs, Sat hs l → PartsAt hs sv A) (RC : Rdl l cv C.length (C.map (HV.int .i64))) (mx : Int) :
    HC Try.prog 5 [.int .i64 mx, sv, cv] hs fun v _ => v = .bool true := by
  have R0 := R _ H
  have few := R0.few
  refine HC.wp mixed Try.func5 c5 ?_
  by_cases hb : 2147483647 < ptotal A
  · have hd : decide (2147483647 < ptotal A) = true := by simpa using hb
    repeat' first
      | simp -implicitDefEqProofs (disch := first | omega | decide | exact rfl | assumption | exact Nat.le_of_ble_eq_true rfl | exact One.c | exact One.o) only [vsA, vsB, eq_self, if_true, if_false, implies_true, false_implies, evp, HX.ev, Nat.reduceAdd, HOp.looks, Nat.reduceEqDiff, overw, Nat.reduceBEq, h5, hd, ub5, frame0, List.replicate, Nat.sub]
      | (refine condK_cases (fun h => ?_) (fun h => ?_) <;> (try simp only [h]) <;> (try simp only [athA, ne_eq] at h) <;> (try (exfalso; omega)))
      | (refine guardK_cases (fun h => ?_) (fun h => ?_) <;> (try simp only [h]) <;> (try simp only [athA, ne_eq] at h) <;> (try (exfalso; omega)))
      | ((with_reducible show actK _ (HAct.call (HX.cst (HV.func (Fn.func 22) _ _)) _) _ _ _ _ _); refine vcall_of ok22 rfl (parts22 R0) ?_; rintro _ _ ⟨rfl, rfl⟩)

  have hd : decide (2147483647 < ptotal A) = false := by simpa using hb
  by_cases hm : mx < 1 ∨ 65535 < mx
  · skip
    first | have f0 := Sat.pf (H) | have f0 := trivial
    first | have f1 := Sat.pf (H.t) | have f1 := trivial
    first | have f2 := Sat.pf (H.t.t) | have f2 := trivial
    first | have f3 := Sat.pf (H.t.t.t) | have f3 := trivial
    first | have f4 := Sat.pf (H.t.t.t.t) | have f4 := trivial
    first | have f5 := Sat.pf (H.t.t.t.t.t) | have f5 := trivial
    first | have f6 := Sat.pf (H.t.t.t.t.t.t) | have f6 := trivial
    first | have f7 := Sat.pf (H.t.t.t.t.t.t.t) | have f7 := trivial
    first | have f8 := Sat.pf (H.t.t.t.t.t.t.t.t) | have f8 := trivial
    first | have f9 := Sat.pf (H.t.t.t.t.t.t.t.t.t) | have f9 := trivial
    first | have f10 := Sat.pf (H.t.t.t.t.t.t.t.t.t.t) | have f10 := trivial
    first | have f11 := Sat.pf (H.t.t.t.t.t.t.t.t.t.t.t) | have f11 := trivial
    repeat' first
      | ((with_reducible show Need _); refine need_of ?_; (first | have f0 := Sat.pf (H) | have f0 := trivial); (first | have f1 := Sat.pf (H.t) | have f1 := trivial); (first | have f2 := Sat.pf (H.t.t) | have f2 := trivial); (first | have f3 := Sat.pf (H.t.t.t) | have f3 := trivial); (first | have f4 := Sat.pf (H.t.t.t.t) | have f4 := trivial); (first | have f5 := Sat.pf (H.t.t.t.t.t) | have f5 := trivial); (first | have f6 := Sat.pf (H.t.t.t.t.t.t) | have f6 := trivial); (first | have f7 := Sat.pf (H.t.t.t.t.t.t.t) | have f7 := trivial); (first | have f8 := Sat.pf (H.t.t.t.t.t.t.t.t) | have f8 := trivial); (first | have f9 := Sat.pf (H.t.t.t.t.t.t.t.t.t) | have f9 := trivial); (first | have f10 := Sat.pf (H.t.t.t.t.t.t.t.t.t.t) | have f10 := trivial); (first | have f11 := Sat.pf (H.t.t.t.t.t.t.t.t.t.t.t) | have f11 := trivial))
      | simp -implicitDefEqProofs (disch := first | omega | decide | exact rfl | assumption | exact Nat.le_of_ble_eq_true rfl | exact One.c | exact One.o) only [vsA, vsB, eq_self, if_true, if_false, implies_true, false_implies, evp, HX.ev, Nat.reduceAdd, HOp.looks, Nat.reduceEqDiff, overw, Nat.reduceBEq, h5, hd, ub5, f0, f1, f2, f3, f4, f5, f6, f7, f8, f9, f10, f11, frame0, List.replicate, Nat.sub]
      | (refine condK_cases (fun h => ?_) (fun h => ?_) <;> (try simp only [h]) <;> (try simp only [athA, ne_eq] at h) <;> (try (exfalso; omega)))
      | (refine guardK_cases (fun h => ?_) (fun h => ?_) <;> (try simp only [h]) <;> (try simp only [athA, ne_eq] at h) <;> (try (exfalso; omega)))
      | (clear H f0 f1 f2 f3 f4 f5 f6 f7 f8 f9 f10 f11; (with_reducible intro v2 hs H); (try simp only [setA, overw, Nat.reduceAdd] at H); refine need ?_)
      | ((with_reducible show actK _ (HAct.call (HX.cst (HV.func (Fn.func 22) _ _)) _) _ _ _ _ _); refine vcall_of ok22 rfl (parts22 R0) ?_; rintro _ _ ⟨rfl, rfl⟩)
      | ((with_reducible show actK _ (HAct.call (HX.cst (HV.func (Fn.func 9) _ _)) _) _ _ _ _ _); refine vcall_of ok9 rfl (shown9 H G) ?_;  clear H f0 f1 f2 f3 f4 f5 f6 f7 f8 f9 f10 f11; rintro v hs ⟨rfl, H⟩; refine need ?_)
      | ((with_reducible show actK _ (HAct.call (HX.cst (HV.func (Fn.func 17) _ _)) _) _ _ _ _ _); refine vcall_of ok17 rfl (new17 H mx) ?_;  intro v hs h; rw [if_pos hm] at h; obtain ⟨rfl, h⟩ := h)
      | refine opC_K ?_
      | ((with_reducible show opC (unit (hstore _ _ _ _)) _); refine sl_store1 (by with_reducible first | exact H | exact H.p1 | exact H.p2 | exact H.p3 | exact H.p4 | exact H.p5 | exact H.p6 | exact H.p7 | exact H.p8 | exact H.p9 | exact H.p10 | exact H.p11) (Nat.le_of_ble_eq_true rfl) (by first | exact rfl | (simp only [f0, f1, f2, f3, f4, f5, f6, f7, f8, f9, f10, f11]; done) | (simp only [onA, *]; done)) (by first | exact rfl | (simp only [f0, f1, f2, f3, f4, f5, f6, f7, f8, f9, f10, f11]; done) | (simp only [onA, *]; done)) ?_)
      | ((with_reducible show opC (unit (hstore _ _ _ _)) _); refine sl_storeN (by with_reducible first | exact H | exact H.p1 | exact H.p2 | exact H.p3 | exact H.p4 | exact H.p5 | exact H.p6 | exact H.p7 | exact H.p8 | exact H.p9 | exact H.p10 | exact H.p11) rfl (Nat.le_of_ble_eq_true rfl) (by first | exact rfl | (simp only [f0, f1, f2, f3, f4, f5, f6, f7, f8, f9, f10, f11]; done) | (simp only [onA, *]; done)) ?_)
      | ((with_reducible show opC (hbox _ _) _); refine sl_box1 H (by first | exact rfl | (simp only [f0, f1, f2, f3, f4, f5, f6, f7, f8, f9, f10, f11]; done) | (simp only [onA, *]; done)) (by first | exact rfl | (simp only [f0, f1, f2, f3, f4, f5, f6, f7, f8, f9, f10, f11]; done) | (simp only [onA, *]; done)) ?_)
      | ((with_reducible show opC (hbox _ _) _); refine sl_boxA H (by first | exact rfl | (simp only [f0, f1, f2, f3, f4, f5, f6, f7, f8, f9, f10, f11]; done) | (simp only [onA, *]; done)) ?_)
      | with_reducible intro hy

  obtain ⟨mn, rfl⟩ := Int.eq_ofNat_of_zero_le (show 0 ≤ mx by omega)
  have ls := fun hs h => (R hs h).row.len hs
  first | have f0 := Sat.pf (H) | have f0 := trivial
  first | have f1 := Sat.pf (H.t) | have f1 := trivial
  first | have f2 := Sat.pf (H.t.t) | have f2 := trivial
  first | have f3 := Sat.pf (H.t.t.t) | have f3 := trivial
  first | have f4 := Sat.pf (H.t.t.t.t) | have f4 := trivial
  first | have f5 := Sat.pf (H.t.t.t.t.t) | have f5 := trivial
  first | have f6 := Sat.pf (H.t.t.t.t.t.t) | have f6 := trivial
  first | have f7 := Sat.pf (H.t.t.t.t.t.t.t) | have f7 := trivial
  first | have f8 := Sat.pf (H.t.t.t.t.t.t.t.t) | have f8 := trivial
  first | have f9 := Sat.pf (H.t.t.t.t.t.t.t.t.t) | have f9 := trivial
  first | have f10 := Sat.pf (H.t.t.t.t.t.t.t.t.t.t) | have f10 := trivial
  first | have f11 := Sat.pf (H.t.t.t.t.t.t.t.t.t.t.t) | have f11 := trivial
  repeat' first
    | ((with_reducible show Need _); refine need_of ?_; (first | have f0 := Sat.pf (H) | have f0 := trivial); (first | have f1 := Sat.pf (H.t) | have f1 := trivial); (first | have f2 := Sat.pf (H.t.t) | have f2 := trivial); (first | have f3 := Sat.pf (H.t.t.t) | have f3 := trivial); (first | have f4 := Sat.pf (H.t.t.t.t) | have f4 := trivial); (first | have f5 := Sat.pf (H.t.t.t.t.t) | have f5 := trivial); (first | have f6 := Sat.pf (H.t.t.t.t.t.t) | have f6 := trivial); (first | have f7 := Sat.pf (H.t.t.t.t.t.t.t) | have f7 := trivial); (first | have f8 := Sat.pf (H.t.t.t.t.t.t.t.t) | have f8 := trivial); (first | have f9 := Sat.pf (H.t.t.t.t.t.t.t.t.t) | have f9 := trivial); (first | have f10 := Sat.pf (H.t.t.t.t.t.t.t.t.t.t) | have f10 := trivial); (first | have f11 := Sat.pf (H.t.t.t.t.t.t.t.t.t.t.t) | have f11 := trivial))
    | simp -implicitDefEqProofs (disch := first | omega | decide | exact rfl | assumption | exact Nat.le_of_ble_eq_true rfl | exact One.c | exact One.o) only [vsA, vsB, eq_self, if_true, if_false, implies_true, false_implies, evp, HX.ev, Nat.reduceAdd, HOp.looks, Nat.reduceEqDiff, overw, Nat.reduceBEq, h5, hd, ls, ub5, f0, f1, f2, f3, f4, f5, f6, f7, f8, f9, f10, f11, frame0, List.replicate, Nat.sub]
    | (refine condK_cases (fun h => ?_) (fun h => ?_) <;> (try simp only [h]) <;> (try simp only [athA, ne_eq] at h) <;> (try (exfalso; omega)))
    | (refine guardK_cases (fun h => ?_) (fun h => ?_) <;> (try simp only [h]) <;> (try simp only [athA, ne_eq] at h) <;> (try (exfalso; omega)))
    | (clear H f0 f1 f2 f3 f4 f5 f6 f7 f8 f9 f10 f11; (with_reducible intro v2 hs H); (try simp only [setA, overw, Nat.reduceAdd] at H); refine need ?_)
    | ((with_reducible show actK _ (HAct.call (HX.cst (HV.func (Fn.func 22) _ _)) _) _ _ _ _ _); refine vcall_of ok22 rfl (parts22 R0) ?_; rintro _ _ ⟨rfl, rfl⟩)
    | ((with_reducible show actK _ (HAct.call (HX.cst (HV.func (Fn.func 9) _ _)) _) _ _ _ _ _); refine vcall_of ok9 rfl (shown9 H G) ?_;  clear H f0 f1 f2 f3 f4 f5 f6 f7 f8 f9 f10 f11; rintro v hs ⟨rfl, H⟩; refine need ?_)
    | ((with_reducible show actK _ (HAct.call (HX.cst (HV.func (Fn.func 17) _ _)) _) _ _ _ _ _); refine vcall_of ok17 rfl (new17 H _) ?_;  intro v hs h; rw [if_neg hm] at h; obtain ⟨p, rfl, H⟩ := h; have ls := ls _ H.t; refine need ?_)
    | refine opC_K ?_
    | ((with_reducible show opC (unit (hstore _ _ _ _)) _); refine sl_store1 (by with_reducible first | exact H | exact H.p1 | exact H.p2 | exact H.p3 | exact H.p4 | exact H.p5 | exact H.p6 | exact H.p7 | exact H.p8 | exact H.p9 | exact H.p10 | exact H.p11) (Nat.le_of_ble_eq_true rfl) (by first | exact rfl | (simp only [f0, f1, f2, f3, f4, f5, f6, f7, f8, f9, f10, f11]; done) | (simp only [onA, *]; done)) (by first | exact rfl | (simp only [f0, f1, f2, f3, f4, f5, f6, f7, f8, f9, f10, f11]; done) | (simp only [onA, *]; done)) ?_)
    | ((with_reducible show opC (unit (hstore _ _ _ _)) _); refine sl_storeN (by with_reducible first | exact H | exact H.p1 | exact H.p2 | exact H.p3 | exact H.p4 | exact H.p5 | exact H.p6 | exact H.p7 | exact H.p8 | exact H.p9 | exact H.p10 | exact H.p11) rfl (Nat.le_of_ble_eq_true rfl) (by first | exact rfl | (simp only [f0, f1, f2, f3, f4, f5, f6, f7, f8, f9, f10, f11]; done) | (simp only [onA, *]; done)) ?_)
    | ((with_reducible show opC (hbox _ _) _); refine sl_box1 H (by first | exact rfl | (simp only [f0, f1, f2, f3, f4, f5, f6, f7, f8, f9, f10, f11]; done) | (simp only [onA, *]; done)) (by first | exact rfl | (simp only [f0, f1, f2, f3, f4, f5, f6, f7, f8, f9, f10, f11]; done) | (simp only [onA, *]; done)) ?_)
    | ((with_reducible show opC (hbox _ _) _); refine sl_boxA H (by first | exact rfl | (simp only [f0, f1, f2, f3, f4, f5, f6, f7, f8, f9, f10, f11]; done) | (simp only [onA, *]; done)) ?_)
    | with_reducible intro hy

  have ht : ptotal A ≤ 2147483647 := by omega
  rw [show (mn : Int).toNat = mn from Int.toNat_natCast mn] at H
  refine HW.loopA mixed (fun s : Nat × St => (.int .i64 (mn : Nat) :: .undef :: cv :: .undef :: .undef :: .undef :: .undef :: .ptr p 0 :: .undef :: .undef :: .undef :: .undef :: .undef :: .undef :: .undef :: .undef :: .undef :: .undef :: .undef :: .undef :: .undef :: .undef :: .undef :: .undef :: .undef :: .undef :: .undef :: .undef :: .undef :: .undef :: .undef :: .undef :: .undef :: .undef :: .undef :: .undef :: .undef :: .undef :: .undef :: .undef :: .undef :: .undef :: .undef :: .undef :: .undef :: .undef :: .undef :: .undef :: .undef :: .undef :: sv :: .int .i64 (A.length : Nat) :: .int .i64 (s.1 : Nat) :: .undef :: .undef :: .undef :: .undef :: .undef :: .undef :: .undef :: .undef :: .undef :: .undef :: .undef :: .undef :: .undef :: .undef :: .undef :: .undef :: .undef :: .undef :: .undef :: .undef :: .undef :: .undef :: .undef :: .undef :: .undef :: .undef :: .undef :: .undef :: .undef :: .undef :: .undef :: .undef :: .undef :: .undef :: .undef :: .undef :: .undef :: .undef :: .undef :: .undef :: .undef :: .undef :: .undef :: .undef :: .undef :: .undef :: .undef :: .undef :: .undef :: .undef :: .undef :: .undef :: .undef :: .undef :: .undef :: .undef :: .undef :: .undef :: .undef :: .undef :: .undef :: .undef :: .undef :: .undef :: .undef :: .undef :: .undef :: .undef :: .undef :: .undef :: .undef :: .undef :: .undef :: .undef :: .undef :: .undef :: .undef :: .undef :: .undef :: .undef :: .undef :: .undef :: .undef :: .undef :: .undef :: .undef :: .undef :: .undef :: .undef :: .undef :: .undef :: .undef :: .undef :: .undef :: .undef :: .undef :: []))
    (fun s => InP p s.2 :: l) (fun s => A.length - s.1) (fun s => s.1 ≤ A.length ∧ rest mn s.2) (0, newS mn) ⟨by omega, by simp [rest, newS]⟩ (by (repeat first | exact Less.nil | refine Less.undef _ ?_ | refine Less.keep _ ?_)) H ?_
  rintro ⟨i, s⟩ hs ⟨hi, hr⟩ H
  simp only at hi hr H
  by_cases hlt : i < A.length
  · obtain ⟨a, ha⟩ : ∃ a, A[i]? = some a := ⟨_, List.getElem?_eq_getElem hlt⟩
    have R1 := R _ H.t
    have so := R1.row.sOk
    obtain ⟨h, o, e1, e2, e3, e4⟩ := R1.idx ha
    have hmem := List.mem_of_getElem? ha
    have hda := R1.data a hmem
    have av := hda.one
    have avc := hda.cells
    have hdat : Rdl l a.v a.data.length (bcells a.data) := fun hs h => (R hs h).data a hmem
    have hps := psum_take ha
    have hpl := psum_le A (i + 1)
    have hpz : psize a = a.text.length + a.data.length + 4 := rfl
    have hpt : (A.map psize).sum ≤ 2147483647 := by unfold ptotal at ht; omega
    have lc := (RC _ H.t).len
    have cso := (RC _ H.t).sOk
    have lcd := hda.len
    clear e2 e3 hda hmem
    obtain ⟨text, body, broken, pv, data⟩ := a
    simp only [PartV.cells] at e4 lcd hps hpz av avc hdat
    have hcl : (cutF text).length ≤ text.length := by
      unfold cutF
      split
      · simp; omega
      · exact Nat.le_refl _
    have hln := lineAt_cut text
    obtain ⟨q1, q2, q3, q4, q5⟩ := id hr
    obtain ⟨c, q, hq1, hcu⟩ : ∃ c q, (i < C.length → hindexAddr 1 cv (.int .i64 (i : Nat)) = some q) ∧ (i < C.length → ∀ hs, Sat hs l → hload none hs q = some (.int .i64 c)) := by
      by_cases hc : i < C.length
      · have hx : (C.map (HV.int .i64))[i]? = some (.int .i64 C[i]) := by simp [hc]
        obtain ⟨q, h1, _⟩ := (RC _ H.t).idx1 hx .i64
        exact ⟨C[i], q, fun _ => h1, fun _ hs h => (RC _ h).ld1 h1 hx⟩
      · exact ⟨0, .undef, fun h => absurd h hc, fun h => absurd h hc⟩
    have hq2 := fun hlt => hcu hlt _ H.t
    have eqb : (cutF text == cutF text) = true := by simp
    have eqd : (data == data) = true := by simp
    by_cases hl : 222 < (cutF text).length
    · have es : saidF text false broken data = cutF text ++ [13, 10] := by simp [saidF]
      have fr := feed_rest hr (cutF text ++ [13, 10])
      obtain ⟨s', hn, hr'⟩ := next_long hr hln hl
      cases body with
      | false =>
          have hlong : decide ((222 : Int) < ((cutF text).length : Nat)) = true := by simp; omega
          have o1 := True.intro
          have o2 := True.intro
          have hkk := True.intro
          first | have f0 := Sat.pf (H) | have f0 := trivial
          first | have f1 := Sat.pf (H.t) | have f1 := trivial
          first | have f2 := Sat.pf (H.t.t) | have f2 := trivial
          first | have f3 := Sat.pf (H.t.t.t) | have f3 := trivial
          first | have f4 := Sat.pf (H.t.t.t.t) | have f4 := trivial
          first | have f5 := Sat.pf (H.t.t.t.t.t) | have f5 := trivial
          first | have f6 := Sat.pf (H.t.t.t.t.t.t) | have f6 := trivial
          first | have f7 := Sat.pf (H.t.t.t.t.t.t.t) | have f7 := trivial
          first | have f8 := Sat.pf (H.t.t.t.t.t.t.t.t) | have f8 := trivial
          first | have f9 := Sat.pf (H.t.t.t.t.t.t.t.t.t) | have f9 := trivial
          first | have f10 := Sat.pf (H.t.t.t.t.t.t.t.t.t.t) | have f10 := trivial
          first | have f11 := Sat.pf (H.t.t.t.t.t.t.t.t.t.t.t) | have f11 := trivial
          repeat' first
            | ((with_reducible show Need _); refine need_of ?_; (first | have f0 := Sat.pf (H) | have f0 := trivial); (first | have f1 := Sat.pf (H.t) | have f1 := trivial); (first | have f2 := Sat.pf (H.t.t) | have f2 := trivial); (first | have f3 := Sat.pf (H.t.t.t) | have f3 := trivial); (first | have f4 := Sat.pf (H.t.t.t.t) | have f4 := trivial); (first | have f5 := Sat.pf (H.t.t.t.t.t) | have f5 := trivial); (first | have f6 := Sat.pf (H.t.t.t.t.t.t) | have f6 := trivial); (first | have f7 := Sat.pf (H.t.t.t.t.t.t.t) | have f7 := trivial); (first | have f8 := Sat.pf (H.t.t.t.t.t.t.t.t) | have f8 := trivial); (first | have f9 := Sat.pf (H.t.t.t.t.t.t.t.t.t) | have f9 := trivial); (first | have f10 := Sat.pf (H.t.t.t.t.t.t.t.t.t.t) | have f10 := trivial); (first | have f11 := Sat.pf (H.t.t.t.t.t.t.t.t.t.t.t) | have f11 := trivial); (first | have cso := (RC _ (by first | with_reducible exact H.t | with_reducible exact H.t.t | with_reducible exact H.t.t.t | with_reducible exact H.t.t.t.t | with_reducible exact H.t.t.t.t.t | with_reducible exact H.t.t.t.t.t.t | with_reducible exact H.t.t.t.t.t.t.t | with_reducible exact H.t.t.t.t.t.t.t.t | with_reducible exact H.t.t.t.t.t.t.t.t.t)).sOk | skip); (first | have hq2 := fun hlt => hcu hlt _ (by first | with_reducible exact H.t | with_reducible exact H.t.t | with_reducible exact H.t.t.t | with_reducible exact H.t.t.t.t | with_reducible exact H.t.t.t.t.t | with_reducible exact H.t.t.t.t.t.t | with_reducible exact H.t.t.t.t.t.t.t | with_reducible exact H.t.t.t.t.t.t.t.t | with_reducible exact H.t.t.t.t.t.t.t.t.t) | skip))
            | simp -implicitDefEqProofs (disch := first | omega | decide | exact rfl | assumption | exact Nat.le_of_ble_eq_true rfl | exact One.c | exact One.o) only [vsA, vsB, eq_self, if_true, if_false, implies_true, false_implies, evp, HX.ev, Nat.reduceAdd, HOp.looks, Nat.reduceEqDiff, overw, Nat.reduceBEq, so, e1, e4, lcd, lc, cso, vadd1, va_loadA, va_ldA, hq1, hq2, eqb, hlong, hkk, Bool.and_self, Bool.true_and, Bool.and_true, ub5, f0, f1, f2, f3, f4, f5, f6, f7, f8, f9, f10, f11]
            | (refine condK_cases (fun h => ?_) (fun h => ?_) <;> (try simp only [h]) <;> (try simp only [athA, ne_eq] at h) <;> (try (exfalso; omega)))
            | (refine guardK_cases (fun h => ?_) (fun h => ?_) <;> (try simp only [h]) <;> (try simp only [athA, ne_eq] at h) <;> (try (exfalso; omega)))
            | (clear H f0 f1 f2 f3 f4 f5 f6 f7 f8 f9 f10 f11; (with_reducible intro v2 hs H); (try simp only [setA, overw, Nat.reduceAdd] at H); refine need ?_)
            | ((with_reducible show actK _ (HAct.call (HX.cst (HV.func (Fn.func 23) _ _)) _) _ _ _ _ _); refine vcall_of ok23 rfl (cut23 text (by omega)) ?_; rintro _ _ ⟨rfl, rfl⟩)
            | ((with_reducible show actK _ (HAct.call (HX.cst (HV.func (Fn.func 25) _ _)) _) _ _ _ _ _); refine vcall_of ok25 rfl (said25 (p := ⟨text, false, broken, pv, data⟩) H (fun _ h => hdat _ h.t.t) (by simp only; omega)) ?_;  clear H f0 f1 f2 f3 f4 f5 f6 f7 f8 f9 f10 f11; rintro w hs H; refine need ?_)
            | ((with_reducible show actK _ (HAct.call (HX.cst (HV.func (Fn.func 24) _ _)) _) _ _ _ _ _); refine vcall_of ok24 rfl (fed24 H.p2 (fun _ h => h.rdX) _ (by rw [q3]; simp only [List.length_nil]; rw [es]; simp; omega) (by omega)) ?_;  clear H f0 f1 f2 f3 f4 f5 f6 f7 f8 f9 f10 f11; rintro _ hs H; rw [es, fr] at H; refine need ?_)
            | ((with_reducible show actK _ (HAct.call (HX.cst (HV.func (Fn.func 26) _ _)) _) _ _ _ _ _); refine vcall_of ok26 rfl (next26 H (fun _ h => G _ h.t.t) (by simp; omega) (by simp only; omega) (by simp only; omega) (by simp only; omega)) ?_;  clear H f0 f1 f2 f3 f4 f5 f6 f7 f8 f9 f10 f11; rintro v hs ⟨w2, rfl, H⟩; rw [hn] at H; simp only [hn, itV, itB] at H ⊢; have o1 := H.t.rdX.one; have o2 := H.t.rdX.cells; refine need ?_)
            | ((with_reducible show actK _ (HAct.call (HX.cst (HV.func (Fn.func 21) _ _)) _) _ _ _ _ _); refine vcall_of ok21 rfl (alike21 (x := []) (y := []) H (fun _ h => h.t.t.t.rdX) (fun _ _ => Rd.nil) (by decide)) ?_;  clear H f0 f1 f2 f3 f4 f5 f6 f7 f8 f9 f10 f11; rintro v hs ⟨rfl, H⟩; refine need ?_)
            | refine opC_K ?_
            | ((with_reducible show opC (unit (hstore _ _ _ _)) _); refine sl_store1 (by with_reducible first | exact H | exact H.p1 | exact H.p2 | exact H.p3 | exact H.p4 | exact H.p5 | exact H.p6 | exact H.p7 | exact H.p8 | exact H.p9 | exact H.p10 | exact H.p11) (Nat.le_of_ble_eq_true rfl) (by first | exact rfl | (simp only [f0, f1, f2, f3, f4, f5, f6, f7, f8, f9, f10, f11]; done) | (simp only [onA, *]; done)) (by first | exact rfl | (simp only [f0, f1, f2, f3, f4, f5, f6, f7, f8, f9, f10, f11]; done) | (simp only [onA, *]; done)) ?_)
            | ((with_reducible show opC (unit (hstore _ _ _ _)) _); refine sl_storeN (by with_reducible first | exact H | exact H.p1 | exact H.p2 | exact H.p3 | exact H.p4 | exact H.p5 | exact H.p6 | exact H.p7 | exact H.p8 | exact H.p9 | exact H.p10 | exact H.p11) rfl (Nat.le_of_ble_eq_true rfl) (by first | exact rfl | (simp only [f0, f1, f2, f3, f4, f5, f6, f7, f8, f9, f10, f11]; done) | (simp only [onA, *]; done)) ?_)
            | ((with_reducible show opC (hbox _ _) _); refine sl_box1 H (by first | exact rfl | (simp only [f0, f1, f2, f3, f4, f5, f6, f7, f8, f9, f10, f11]; done) | (simp only [onA, *]; done)) (by first | exact rfl | (simp only [f0, f1, f2, f3, f4, f5, f6, f7, f8, f9, f10, f11]; done) | (simp only [onA, *]; done)) ?_)
            | ((with_reducible show opC (hbox _ _) _); refine sl_boxA H (by first | exact rfl | (simp only [f0, f1, f2, f3, f4, f5, f6, f7, f8, f9, f10, f11]; done) | (simp only [onA, *]; done)) ?_)
            | with_reducible intro hy

          all_goals
            exact ⟨(i + 1, s'), _, by simp only; omega, ⟨by simp only; omega, hr'⟩, (by (repeat first | exact Less.nil | refine Less.undef _ ?_ | refine Less.keep _ ?_)), Weak.refl _, H.t.t.p1.t.p1.t.p1.t⟩
      | true =>
          have hlong : decide ((222 : Int) < ((cutF text).length : Nat)) = true := by simp; omega
          have o1 := True.intro
          have o2 := True.intro
          have hkk := True.intro
          first | have f0 := Sat.pf (H) | have f0 := trivial
          first | have f1 := Sat.pf (H.t) | have f1 := trivial
          first | have f2 := Sat.pf (H.t.t) | have f2 := trivial
          first | have f3 := Sat.pf (H.t.t.t) | have f3 := trivial
          first | have f4 := Sat.pf (H.t.t.t.t) | have f4 := trivial
          first | have f5 := Sat.pf (H.t.t.t.t.t) | have f5 := trivial
          first | have f6 := Sat.pf (H.t.t.t.t.t.t) | have f6 := trivial
          first | have f7 := Sat.pf (H.t.t.t.t.t.t.t) | have f7 := trivial
          first | have f8 := Sat.pf (H.t.t.t.t.t.t.t.t) | have f8 := trivial
          first | have f9 := Sat.pf (H.t.t.t.t.t.t.t.t.t) | have f9 := trivial
          first | have f10 := Sat.pf (H.t.t.t.t.t.t.t.t.t.t) | have f10 := trivial
          first | have f11 := Sat.pf (H.t.t.t.t.t.t.t.t.t.t.t) | have f11 := trivial
          repeat' first
            | ((with_reducible show Need _); refine need_of ?_; (first | have f0 := Sat.pf (H) | have f0 := trivial); (first | have f1 := Sat.pf (H.t) | have f1 := trivial); (first | have f2 := Sat.pf (H.t.t) | have f2 := trivial); (first | have f3 := Sat.pf (H.t.t.t) | have f3 := trivial); (first | have f4 := Sat.pf (H.t.t.t.t) | have f4 := trivial); (first | have f5 := Sat.pf (H.t.t.t.t.t) | have f5 := trivial); (first | have f6 := Sat.pf (H.t.t.t.t.t.t) | have f6 := trivial); (first | have f7 := Sat.pf (H.t.t.t.t.t.t.t) | have f7 := trivial); (first | have f8 := Sat.pf (H.t.t.t.t.t.t.t.t) | have f8 := trivial); (first | have f9 := Sat.pf (H.t.t.t.t.t.t.t.t.t) | have f9 := trivial); (first | have f10 := Sat.pf (H.t.t.t.t.t.t.t.t.t.t) | have f10 := trivial); (first | have f11 := Sat.pf (H.t.t.t.t.t.t.t.t.t.t.t) | have f11 := trivial); (first | have cso := (RC _ (by first | with_reducible exact H.t | with_reducible exact H.t.t | with_reducible exact H.t.t.t | with_reducible exact H.t.t.t.t | with_reducible exact H.t.t.t.t.t | with_reducible exact H.t.t.t.t.t.t | with_reducible exact H.t.t.t.t.t.t.t | with_reducible exact H.t.t.t.t.t.t.t.t | with_reducible exact H.t.t.t.t.t.t.t.t.t)).sOk | skip); (first | have hq2 := fun hlt => hcu hlt _ (by first | with_reducible exact H.t | with_reducible exact H.t.t | with_reducible exact H.t.t.t | with_reducible exact H.t.t.t.t | with_reducible exact H.t.t.t.t.t | with_reducible exact H.t.t.t.t.t.t | with_reducible exact H.t.t.t.t.t.t.t | with_reducible exact H.t.t.t.t.t.t.t.t | with_reducible exact H.t.t.t.t.t.t.t.t.t) | skip))
            | simp -implicitDefEqProofs (disch := first | omega | decide | exact rfl | assumption | exact Nat.le_of_ble_eq_true rfl | exact One.c | exact One.o) only [vsA, vsB, eq_self, if_true, if_false, implies_true, false_implies, evp, HX.ev, Nat.reduceAdd, HOp.looks, Nat.reduceEqDiff, overw, Nat.reduceBEq, so, e1, e4, lcd, lc, cso, vadd1, va_loadA, va_ldA, hq1, hq2, eqb, hlong, hkk, Bool.and_self, Bool.true_and, Bool.and_true, ub5, f0, f1, f2, f3, f4, f5, f6, f7, f8, f9, f10, f11]
            | (refine condK_cases (fun h => ?_) (fun h => ?_) <;> (try simp only [h]) <;> (try simp only [athA, ne_eq] at h) <;> (try (exfalso; omega)))
            | (refine guardK_cases (fun h => ?_) (fun h => ?_) <;> (try simp only [h]) <;> (try simp only [athA, ne_eq] at h) <;> (try (exfalso; omega)))
            | (clear H f0 f1 f2 f3 f4 f5 f6 f7 f8 f9 f10 f11; (with_reducible intro v2 hs H); (try simp only [setA, overw, Nat.reduceAdd] at H); refine need ?_)
            | ((with_reducible show actK _ (HAct.call (HX.cst (HV.func (Fn.func 23) _ _)) _) _ _ _ _ _); refine vcall_of ok23 rfl (cut23 text (by omega)) ?_; rintro _ _ ⟨rfl, rfl⟩)
            | ((with_reducible show actK _ (HAct.call (HX.cst (HV.func (Fn.func 25) _ _)) _) _ _ _ _ _); refine vcall_of ok25 rfl (said25 (p := ⟨text, false, broken, pv, data⟩) H (fun _ h => hdat _ h.t.t) (by simp only; omega)) ?_;  clear H f0 f1 f2 f3 f4 f5 f6 f7 f8 f9 f10 f11; rintro w hs H; refine need ?_)
            | ((with_reducible show actK _ (HAct.call (HX.cst (HV.func (Fn.func 24) _ _)) _) _ _ _ _ _); refine vcall_of ok24 rfl (fed24 H.p2 (fun _ h => h.rdX) _ (by rw [q3]; simp only [List.length_nil]; rw [es]; simp; omega) (by omega)) ?_;  clear H f0 f1 f2 f3 f4 f5 f6 f7 f8 f9 f10 f11; rintro _ hs H; rw [es, fr] at H; refine need ?_)
            | ((with_reducible show actK _ (HAct.call (HX.cst (HV.func (Fn.func 26) _ _)) _) _ _ _ _ _); refine vcall_of ok26 rfl (next26 H (fun _ h => G _ h.t.t) (by simp; omega) (by simp only; omega) (by simp only; omega) (by simp only; omega)) ?_;  clear H f0 f1 f2 f3 f4 f5 f6 f7 f8 f9 f10 f11; rintro v hs ⟨w2, rfl, H⟩; rw [hn] at H; simp only [hn, itV, itB] at H ⊢; have o1 := H.t.rdX.one; have o2 := H.t.rdX.cells; refine need ?_)
            | ((with_reducible show actK _ (HAct.call (HX.cst (HV.func (Fn.func 21) _ _)) _) _ _ _ _ _); refine vcall_of ok21 rfl (alike21 (x := []) (y := []) H (fun _ h => h.t.t.t.rdX) (fun _ _ => Rd.nil) (by decide)) ?_;  clear H f0 f1 f2 f3 f4 f5 f6 f7 f8 f9 f10 f11; rintro v hs ⟨rfl, H⟩; refine need ?_)
            | refine opC_K ?_
            | ((with_reducible show opC (unit (hstore _ _ _ _)) _); refine sl_store1 (by with_reducible first | exact H | exact H.p1 | exact H.p2 | exact H.p3 | exact H.p4 | exact H.p5 | exact H.p6 | exact H.p7 | exact H.p8 | exact H.p9 | exact H.p10 | exact H.p11) (Nat.le_of_ble_eq_true rfl) (by first | exact rfl | (simp only [f0, f1, f2, f3, f4, f5, f6, f7, f8, f9, f10, f11]; done) | (simp only [onA, *]; done)) (by first | exact rfl | (simp only [f0, f1, f2, f3, f4, f5, f6, f7, f8, f9, f10, f11]; done) | (simp only [onA, *]; done)) ?_)
            | ((with_reducible show opC (unit (hstore _ _ _ _)) _); refine sl_storeN (by with_reducible first | exact H | exact H.p1 | exact H.p2 | exact H.p3 | exact H.p4 | exact H.p5 | exact H.p6 | exact H.p7 | exact H.p8 | exact H.p9 | exact H.p10 | exact H.p11) rfl (Nat.le_of_ble_eq_true rfl) (by first | exact rfl | (simp only [f0, f1, f2, f3, f4, f5, f6, f7, f8, f9, f10, f11]; done) | (simp only [onA, *]; done)) ?_)
            | ((with_reducible show opC (hbox _ _) _); refine sl_box1 H (by first | exact rfl | (simp only [f0, f1, f2, f3, f4, f5, f6, f7, f8, f9, f10, f11]; done) | (simp only [onA, *]; done)) (by first | exact rfl | (simp only [f0, f1, f2, f3, f4, f5, f6, f7, f8, f9, f10, f11]; done) | (simp only [onA, *]; done)) ?_)
            | ((with_reducible show opC (hbox _ _) _); refine sl_boxA H (by first | exact rfl | (simp only [f0, f1, f2, f3, f4, f5, f6, f7, f8, f9, f10, f11]; done) | (simp only [onA, *]; done)) ?_)
            | with_reducible intro hy

          all_goals
            exact ⟨(i + 1, s'), _, by simp only; omega, ⟨by simp only; omega, hr'⟩, (by (repeat first | exact Less.nil | refine Less.undef _ ?_ | refine Less.keep _ ?_)), Weak.refl _, H.t.t.p1.t.p1.t.p1.t⟩
    · cases body with
      | false =>
          have es : saidF text false broken data = cutF text ++ [13, 10] := by simp [saidF]
          have fr := feed_rest hr (cutF text ++ [13, 10])
          have hn := next_line hr (r := []) hln (by omega)
          have hlong : decide ((222 : Int) < ((cutF text).length : Nat)) = false := by simp; omega
          have o1 := True.intro
          have o2 := True.intro
          have hkk := True.intro
          first | have f0 := Sat.pf (H) | have f0 := trivial
          first | have f1 := Sat.pf (H.t) | have f1 := trivial
          first | have f2 := Sat.pf (H.t.t) | have f2 := trivial
          first | have f3 := Sat.pf (H.t.t.t) | have f3 := trivial
          first | have f4 := Sat.pf (H.t.t.t.t) | have f4 := trivial
          first | have f5 := Sat.pf (H.t.t.t.t.t) | have f5 := trivial
          first | have f6 := Sat.pf (H.t.t.t.t.t.t) | have f6 := trivial
          first | have f7 := Sat.pf (H.t.t.t.t.t.t.t) | have f7 := trivial
          first | have f8 := Sat.pf (H.t.t.t.t.t.t.t.t) | have f8 := trivial
          first | have f9 := Sat.pf (H.t.t.t.t.t.t.t.t.t) | have f9 := trivial
          first | have f10 := Sat.pf (H.t.t.t.t.t.t.t.t.t.t) | have f10 := trivial
          first | have f11 := Sat.pf (H.t.t.t.t.t.t.t.t.t.t.t) | have f11 := trivial
          repeat' first
            | ((with_reducible show Need _); refine need_of ?_; (first | have f0 := Sat.pf (H) | have f0 := trivial); (first | have f1 := Sat.pf (H.t) | have f1 := trivial); (first | have f2 := Sat.pf (H.t.t) | have f2 := trivial); (first | have f3 := Sat.pf (H.t.t.t) | have f3 := trivial); (first | have f4 := Sat.pf (H.t.t.t.t) | have f4 := trivial); (first | have f5 := Sat.pf (H.t.t.t.t.t) | have f5 := trivial); (first | have f6 := Sat.pf (H.t.t.t.t.t.t) | have f6 := trivial); (first | have f7 := Sat.pf (H.t.t.t.t.t.t.t) | have f7 := trivial); (first | have f8 := Sat.pf (H.t.t.t.t.t.t.t.t) | have f8 := trivial); (first | have f9 := Sat.pf (H.t.t.t.t.t.t.t.t.t) | have f9 := trivial); (first | have f10 := Sat.pf (H.t.t.t.t.t.t.t.t.t.t) | have f10 := trivial); (first | have f11 := Sat.pf (H.t.t.t.t.t.t.t.t.t.t.t) | have f11 := trivial); (first | have cso := (RC _ (by first | with_reducible exact H.t | with_reducible exact H.t.t | with_reducible exact H.t.t.t | with_reducible exact H.t.t.t.t | with_reducible exact H.t.t.t.t.t | with_reducible exact H.t.t.t.t.t.t | with_reducible exact H.t.t.t.t.t.t.t | with_reducible exact H.t.t.t.t.t.t.t.t | with_reducible exact H.t.t.t.t.t.t.t.t.t)).sOk | skip); (first | have hq2 := fun hlt => hcu hlt _ (by first | with_reducible exact H.t | with_reducible exact H.t.t | with_reducible exact H.t.t.t | with_reducible exact H.t.t.t.t | with_reducible exact H.t.t.t.t.t | with_reducible exact H.t.t.t.t.t.t | with_reducible exact H.t.t.t.t.t.t.t | with_reducible exact H.t.t.t.t.t.t.t.t | with_reducible exact H.t.t.t.t.t.t.t.t.t) | skip))
            | simp -implicitDefEqProofs (disch := first | omega | decide | exact rfl | assumption | exact Nat.le_of_ble_eq_true rfl | exact One.c | exact One.o) only [vsA, vsB, eq_self, if_true, if_false, implies_true, false_implies, evp, HX.ev, Nat.reduceAdd, HOp.looks, Nat.reduceEqDiff, overw, Nat.reduceBEq, so, e1, e4, lcd, lc, cso, vadd1, va_loadA, va_ldA, hq1, hq2, eqb, hlong, hkk, Bool.and_self, Bool.true_and, Bool.and_true, ub5, f0, f1, f2, f3, f4, f5, f6, f7, f8, f9, f10, f11]
            | (refine condK_cases (fun h => ?_) (fun h => ?_) <;> (try simp only [h]) <;> (try simp only [athA, ne_eq] at h) <;> (try (exfalso; omega)))
            | (refine guardK_cases (fun h => ?_) (fun h => ?_) <;> (try simp only [h]) <;> (try simp only [athA, ne_eq] at h) <;> (try (exfalso; omega)))
            | (clear H f0 f1 f2 f3 f4 f5 f6 f7 f8 f9 f10 f11; (with_reducible intro v2 hs H); (try simp only [setA, overw, Nat.reduceAdd] at H); refine need ?_)
            | ((with_reducible show actK _ (HAct.call (HX.cst (HV.func (Fn.func 23) _ _)) _) _ _ _ _ _); refine vcall_of ok23 rfl (cut23 text (by omega)) ?_; rintro _ _ ⟨rfl, rfl⟩)
            | ((with_reducible show actK _ (HAct.call (HX.cst (HV.func (Fn.func 25) _ _)) _) _ _ _ _ _); refine vcall_of ok25 rfl (said25 (p := ⟨text, false, broken, pv, data⟩) H (fun _ h => hdat _ h.t.t) (by simp only; omega)) ?_;  clear H f0 f1 f2 f3 f4 f5 f6 f7 f8 f9 f10 f11; rintro w hs H; refine need ?_)
            | ((with_reducible show actK _ (HAct.call (HX.cst (HV.func (Fn.func 24) _ _)) _) _ _ _ _ _); refine vcall_of ok24 rfl (fed24 H.p2 (fun _ h => h.rdX) _ (by rw [q3]; simp only [List.length_nil]; rw [es]; simp; omega) (by omega)) ?_;  clear H f0 f1 f2 f3 f4 f5 f6 f7 f8 f9 f10 f11; rintro _ hs H; rw [es, fr] at H; refine need ?_)
            | ((with_reducible show actK _ (HAct.call (HX.cst (HV.func (Fn.func 26) _ _)) _) _ _ _ _ _); refine vcall_of ok26 rfl (next26 H (fun _ h => G _ h.t.t) (by simp; omega) (by simp only; omega) (by simp only; omega) (by simp only; omega)) ?_;  clear H f0 f1 f2 f3 f4 f5 f6 f7 f8 f9 f10 f11; rintro v hs ⟨w2, rfl, H⟩; rw [hn] at H; simp only [hn, itV, itB] at H ⊢; have o1 := H.t.rdX.one; have o2 := H.t.rdX.cells; refine need ?_)
            | ((with_reducible show actK _ (HAct.call (HX.cst (HV.func (Fn.func 21) _ _)) _) _ _ _ _ _); refine vcall_of ok21 rfl (alike21 (x := []) (y := []) H (fun _ h => h.t.t.t.rdX) (fun _ _ => Rd.nil) (by decide)) ?_;  clear H f0 f1 f2 f3 f4 f5 f6 f7 f8 f9 f10 f11; rintro v hs ⟨rfl, H⟩; refine need ?_)
            | refine opC_K ?_
            | ((with_reducible show opC (unit (hstore _ _ _ _)) _); refine sl_store1 (by with_reducible first | exact H | exact H.p1 | exact H.p2 | exact H.p3 | exact H.p4 | exact H.p5 | exact H.p6 | exact H.p7 | exact H.p8 | exact H.p9 | exact H.p10 | exact H.p11) (Nat.le_of_ble_eq_true rfl) (by first | exact rfl | (simp only [f0, f1, f2, f3, f4, f5, f6, f7, f8, f9, f10, f11]; done) | (simp only [onA, *]; done)) (by first | exact rfl | (simp only [f0, f1, f2, f3, f4, f5, f6, f7, f8, f9, f10, f11]; done) | (simp only [onA, *]; done)) ?_)
            | ((with_reducible show opC (unit (hstore _ _ _ _)) _); refine sl_storeN (by with_reducible first | exact H | exact H.p1 | exact H.p2 | exact H.p3 | exact H.p4 | exact H.p5 | exact H.p6 | exact H.p7 | exact H.p8 | exact H.p9 | exact H.p10 | exact H.p11) rfl (Nat.le_of_ble_eq_true rfl) (by first | exact rfl | (simp only [f0, f1, f2, f3, f4, f5, f6, f7, f8, f9, f10, f11]; done) | (simp only [onA, *]; done)) ?_)
            | ((with_reducible show opC (hbox _ _) _); refine sl_box1 H (by first | exact rfl | (simp only [f0, f1, f2, f3, f4, f5, f6, f7, f8, f9, f10, f11]; done) | (simp only [onA, *]; done)) (by first | exact rfl | (simp only [f0, f1, f2, f3, f4, f5, f6, f7, f8, f9, f10, f11]; done) | (simp only [onA, *]; done)) ?_)
            | ((with_reducible show opC (hbox _ _) _); refine sl_boxA H (by first | exact rfl | (simp only [f0, f1, f2, f3, f4, f5, f6, f7, f8, f9, f10, f11]; done) | (simp only [onA, *]; done)) ?_)
            | with_reducible intro hy

          all_goals
            exact ⟨(i + 1, { s with held := [] }), _, by simp only; omega, ⟨by simp only; omega, q1, q2, rfl, q4, q5⟩, (by (repeat first | exact Less.nil | refine Less.undef _ ?_ | refine Less.keep _ ?_)), Weak.refl _, H.t.t.p1.t.p1.t.p1.t⟩
      | true =>
        cases broken with
        | true =>
          have es : saidF text true true data = cutF text ++ 13 :: 10 :: (data ++ [10, 13]) := by simp [saidF]
          have fr := feed_rest hr (cutF text ++ 13 :: 10 :: (data ++ [10, 13]))
          have hn := next_line hr (r := data ++ [10, 13]) hln (by omega)
          obtain ⟨s1, s2, hb1, hb2, hb3, hb4, hb5, hb6, hb7⟩ := next_body hr data 10 13 (by omega)
          by_cases hbb : mn < data.length
          · rw [if_pos hbb] at hb7
            have hlong : decide ((222 : Int) < ((cutF text).length : Nat)) = false := by simp; omega
            have hbig : decide (((mn : Nat) : Int) < (data.length : Nat)) = true := by simp; omega
            have o1 := True.intro
            have o2 := True.intro
            have o3 := True.intro
            have o4 := True.intro
            have hkk := True.intro
            first | have f0 := Sat.pf (H) | have f0 := trivial
            first | have f1 := Sat.pf (H.t) | have f1 := trivial
            first | have f2 := Sat.pf (H.t.t) | have f2 := trivial
            first | have f3 := Sat.pf (H.t.t.t) | have f3 := trivial
            first | have f4 := Sat.pf (H.t.t.t.t) | have f4 := trivial
            first | have f5 := Sat.pf (H.t.t.t.t.t) | have f5 := trivial
            first | have f6 := Sat.pf (H.t.t.t.t.t.t) | have f6 := trivial
            first | have f7 := Sat.pf (H.t.t.t.t.t.t.t) | have f7 := trivial
            first | have f8 := Sat.pf (H.t.t.t.t.t.t.t.t) | have f8 := trivial
            first | have f9 := Sat.pf (H.t.t.t.t.t.t.t.t.t) | have f9 := trivial
            first | have f10 := Sat.pf (H.t.t.t.t.t.t.t.t.t.t) | have f10 := trivial
            first | have f11 := Sat.pf (H.t.t.t.t.t.t.t.t.t.t.t) | have f11 := trivial
            repeat' first
              | ((with_reducible show Need _); refine need_of ?_; (first | have f0 := Sat.pf (H) | have f0 := trivial); (first | have f1 := Sat.pf (H.t) | have f1 := trivial); (first | have f2 := Sat.pf (H.t.t) | have f2 := trivial); (first | have f3 := Sat.pf (H.t.t.t) | have f3 := trivial); (first | have f4 := Sat.pf (H.t.t.t.t) | have f4 := trivial); (first | have f5 := Sat.pf (H.t.t.t.t.t) | have f5 := trivial); (first | have f6 := Sat.pf (H.t.t.t.t.t.t) | have f6 := trivial); (first | have f7 := Sat.pf (H.t.t.t.t.t.t.t) | have f7 := trivial); (first | have f8 := Sat.pf (H.t.t.t.t.t.t.t.t) | have f8 := trivial); (first | have f9 := Sat.pf (H.t.t.t.t.t.t.t.t.t) | have f9 := trivial); (first | have f10 := Sat.pf (H.t.t.t.t.t.t.t.t.t.t) | have f10 := trivial); (first | have f11 := Sat.pf (H.t.t.t.t.t.t.t.t.t.t.t) | have f11 := trivial); (first | have cso := (RC _ (by first | with_reducible exact H.t | with_reducible exact H.t.t | with_reducible exact H.t.t.t | with_reducible exact H.t.t.t.t | with_reducible exact H.t.t.t.t.t | with_reducible exact H.t.t.t.t.t.t | with_reducible exact H.t.t.t.t.t.t.t | with_reducible exact H.t.t.t.t.t.t.t.t | with_reducible exact H.t.t.t.t.t.t.t.t.t)).sOk | skip); (first | have hq2 := fun hlt => hcu hlt _ (by first | with_reducible exact H.t | with_reducible exact H.t.t | with_reducible exact H.t.t.t | with_reducible exact H.t.t.t.t | with_reducible exact H.t.t.t.t.t | with_reducible exact H.t.t.t.t.t.t | with_reducible exact H.t.t.t.t.t.t.t | with_reducible exact H.t.t.t.t.t.t.t.t | with_reducible exact H.t.t.t.t.t.t.t.t.t) | skip))
              | simp -implicitDefEqProofs (disch := first | omega | decide | exact rfl | assumption | exact Nat.le_of_ble_eq_true rfl | exact One.c | exact One.o) only [vsA, vsB, eq_self, if_true, if_false, implies_true, false_implies, evp, HX.ev, Nat.reduceAdd, HOp.looks, Nat.reduceEqDiff, overw, Nat.reduceBEq, so, e1, e4, lcd, lc, cso, vadd1, va_loadA, va_ldA, hq1, hq2, eqb, hlong, hkk, Bool.and_self, Bool.true_and, Bool.and_true, o1, o2, o3, o4, hbig, eqd, av, avc, ub5, f0, f1, f2, f3, f4, f5, f6, f7, f8, f9, f10, f11]
              | (refine condK_cases (fun h => ?_) (fun h => ?_) <;> (try simp only [h]) <;> (try simp only [athA, ne_eq] at h) <;> (try (exfalso; omega)))
              | (refine guardK_cases (fun h => ?_) (fun h => ?_) <;> (try simp only [h]) <;> (try simp only [athA, ne_eq] at h) <;> (try (exfalso; omega)))
              | (clear H f0 f1 f2 f3 f4 f5 f6 f7 f8 f9 f10 f11; (with_reducible intro v2 hs H); (try simp only [setA, overw, Nat.reduceAdd] at H); refine need ?_)
              | ((with_reducible show actK _ (HAct.call (HX.cst (HV.func (Fn.func 23) _ _)) _) _ _ _ _ _); refine vcall_of ok23 rfl (cut23 text (by omega)) ?_; rintro _ _ ⟨rfl, rfl⟩)
              | ((with_reducible show actK _ (HAct.call (HX.cst (HV.func (Fn.func 25) _ _)) _) _ _ _ _ _); refine vcall_of ok25 rfl (said25 (p := ⟨text, true, true, pv, data⟩) H (fun _ h => hdat _ h.t.t) (by simp only; omega)) ?_;  clear H f0 f1 f2 f3 f4 f5 f6 f7 f8 f9 f10 f11; rintro w hs H; refine need ?_)
              | ((with_reducible show actK _ (HAct.call (HX.cst (HV.func (Fn.func 24) _ _)) _) _ _ _ _ _); refine vcall_of ok24 rfl (fed24 H.p2 (fun _ h => h.rdX) _ (by rw [q3]; simp only [List.length_nil]; rw [es]; simp; omega) (by omega)) ?_;  clear H f0 f1 f2 f3 f4 f5 f6 f7 f8 f9 f10 f11; rintro _ hs H; rw [es, fr] at H; refine need ?_)
              | ((with_reducible show actK _ (HAct.call (HX.cst (HV.func (Fn.func 26) _ _)) _) _ _ _ _ _); refine vcall_of ok26 rfl (next26 H (fun _ h => G _ h.t.t) (by simp; omega) (by simp only; omega) (by simp only; omega) (by simp only; omega)) ?_;  clear H f0 f1 f2 f3 f4 f5 f6 f7 f8 f9 f10 f11; rintro v hs ⟨w2, rfl, H⟩; rw [hn] at H; simp only [hn, itV, itB] at H ⊢; have o1 := H.t.rdX.one; have o2 := H.t.rdX.cells; refine need ?_)
              | ((with_reducible show actK _ (HAct.call (HX.cst (HV.func (Fn.func 21) _ _)) _) _ _ _ _ _); refine vcall_of ok21 rfl (alike21 (x := []) (y := []) H (fun _ h => h.t.t.t.rdX) (fun _ _ => Rd.nil) (by decide)) ?_;  clear H f0 f1 f2 f3 f4 f5 f6 f7 f8 f9 f10 f11; rintro v hs ⟨rfl, H⟩; refine need ?_)
              | ((with_reducible show actK _ (HAct.call (HX.cst (HV.func (Fn.func 27) _ _)) _) _ _ _ _ _); refine vcall_of ok27 rfl (body27 H.p2 (data.length : Nat) (by simp; omega)) ?_;  clear H f0 f1 f2 f3 f4 f5 f6 f7 f8 f9 f10 f11; rintro v hs ⟨rfl, H⟩; rw [hb1] at H; simp only [hb1] at H ⊢; refine need ?_)
              | ((with_reducible show actK _ (HAct.call (HX.cst (HV.func (Fn.func 26) _ _)) _) _ _ _ _ _); refine vcall_of ok26 rfl (next26 H (fun _ h => G _ (by first | exact h.t.t | exact h.t.t.t | exact h.t.t.t.t | exact h.t.t.t.t.t)) (by omega) (by omega) (by omega) (by omega)) ?_;  clear H f0 f1 f2 f3 f4 f5 f6 f7 f8 f9 f10 f11; rintro v hs ⟨w3, rfl, H⟩; rw [hb7] at H; simp only [hb7, itV, itB] at H ⊢; have o3 := H.t.rdX.one; have o4 := H.t.rdX.cells; refine need ?_)
              | ((with_reducible show actK _ (HAct.call (HX.cst (HV.func (Fn.func 21) _ _)) _) _ _ _ _ _); refine vcall_of ok21 rfl (alike21 (x := []) (y := []) H (fun _ h => h.t.t.t.rdX) (fun _ h => Rd.nil) (by decide)) ?_;  clear H f0 f1 f2 f3 f4 f5 f6 f7 f8 f9 f10 f11; rintro v hs ⟨rfl, H⟩; refine need ?_)
              | refine opC_K ?_
              | ((with_reducible show opC (unit (hstore _ _ _ _)) _); refine sl_store1 (by with_reducible first | exact H | exact H.p1 | exact H.p2 | exact H.p3 | exact H.p4 | exact H.p5 | exact H.p6 | exact H.p7 | exact H.p8 | exact H.p9 | exact H.p10 | exact H.p11) (Nat.le_of_ble_eq_true rfl) (by first | exact rfl | (simp only [f0, f1, f2, f3, f4, f5, f6, f7, f8, f9, f10, f11]; done) | (simp only [onA, *]; done)) (by first | exact rfl | (simp only [f0, f1, f2, f3, f4, f5, f6, f7, f8, f9, f10, f11]; done) | (simp only [onA, *]; done)) ?_)
              | ((with_reducible show opC (unit (hstore _ _ _ _)) _); refine sl_storeN (by with_reducible first | exact H | exact H.p1 | exact H.p2 | exact H.p3 | exact H.p4 | exact H.p5 | exact H.p6 | exact H.p7 | exact H.p8 | exact H.p9 | exact H.p10 | exact H.p11) rfl (Nat.le_of_ble_eq_true rfl) (by first | exact rfl | (simp only [f0, f1, f2, f3, f4, f5, f6, f7, f8, f9, f10, f11]; done) | (simp only [onA, *]; done)) ?_)
              | ((with_reducible show opC (hbox _ _) _); refine sl_box1 H (by first | exact rfl | (simp only [f0, f1, f2, f3, f4, f5, f6, f7, f8, f9, f10, f11]; done) | (simp only [onA, *]; done)) (by first | exact rfl | (simp only [f0, f1, f2, f3, f4, f5, f6, f7, f8, f9, f10, f11]; done) | (simp only [onA, *]; done)) ?_)
              | ((with_reducible show opC (hbox _ _) _); refine sl_boxA H (by first | exact rfl | (simp only [f0, f1, f2, f3, f4, f5, f6, f7, f8, f9, f10, f11]; done) | (simp only [onA, *]; done)) ?_)
              | with_reducible intro hy

            all_goals
              exact ⟨(i + 1, s2), _, by simp only; omega, ⟨by simp only; omega, hb2⟩, (by (repeat first | exact Less.nil | refine Less.undef _ ?_ | refine Less.keep _ ?_)), Weak.refl _, by have H2 := keepIn (p := p) (s := s2) (by with_reducible first | exact H | exact H.p1 | exact H.p2 | exact H.p3 | exact H.p4 | exact H.p5 | exact H.p6 | exact H.p7 | exact H.p8 | exact H.p9 | exact H.p10 | exact H.p11); repeat (first | with_reducible exact H2 | replace H2 := H2.d1)⟩
          · rw [if_neg hbb, if_neg (by decide)] at hb7
            have hlong : decide ((222 : Int) < ((cutF text).length : Nat)) = false := by simp; omega
            have hbig : decide (((mn : Nat) : Int) < (data.length : Nat)) = false := by simp; omega
            have o1 := True.intro
            have o2 := True.intro
            have o3 := True.intro
            have o4 := True.intro
            have hkk := True.intro
            first | have f0 := Sat.pf (H) | have f0 := trivial
            first | have f1 := Sat.pf (H.t) | have f1 := trivial
            first | have f2 := Sat.pf (H.t.t) | have f2 := trivial
            first | have f3 := Sat.pf (H.t.t.t) | have f3 := trivial
            first | have f4 := Sat.pf (H.t.t.t.t) | have f4 := trivial
            first | have f5 := Sat.pf (H.t.t.t.t.t) | have f5 := trivial
            first | have f6 := Sat.pf (H.t.t.t.t.t.t) | have f6 := trivial
            first | have f7 := Sat.pf (H.t.t.t.t.t.t.t) | have f7 := trivial
            first | have f8 := Sat.pf (H.t.t.t.t.t.t.t.t) | have f8 := trivial
            first | have f9 := Sat.pf (H.t.t.t.t.t.t.t.t.t) | have f9 := trivial
            first | have f10 := Sat.pf (H.t.t.t.t.t.t.t.t.t.t) | have f10 := trivial
            first | have f11 := Sat.pf (H.t.t.t.t.t.t.t.t.t.t.t) | have f11 := trivial
            repeat' first
              | ((with_reducible show Need _); refine need_of ?_; (first | have f0 := Sat.pf (H) | have f0 := trivial); (first | have f1 := Sat.pf (H.t) | have f1 := trivial); (first | have f2 := Sat.pf (H.t.t) | have f2 := trivial); (first | have f3 := Sat.pf (H.t.t.t) | have f3 := trivial); (first | have f4 := Sat.pf (H.t.t.t.t) | have f4 := trivial); (first | have f5 := Sat.pf (H.t.t.t.t.t) | have f5 := trivial); (first | have f6 := Sat.pf (H.t.t.t.t.t.t) | have f6 := trivial); (first | have f7 := Sat.pf (H.t.t.t.t.t.t.t) | have f7 := trivial); (first | have f8 := Sat.pf (H.t.t.t.t.t.t.t.t) | have f8 := trivial); (first | have f9 := Sat.pf (H.t.t.t.t.t.t.t.t.t) | have f9 := trivial); (first | have f10 := Sat.pf (H.t.t.t.t.t.t.t.t.t.t) | have f10 := trivial); (first | have f11 := Sat.pf (H.t.t.t.t.t.t.t.t.t.t.t) | have f11 := trivial); (first | have cso := (RC _ (by first | with_reducible exact H.t | with_reducible exact H.t.t | with_reducible exact H.t.t.t | with_reducible exact H.t.t.t.t | with_reducible exact H.t.t.t.t.t | with_reducible exact H.t.t.t.t.t.t | with_reducible exact H.t.t.t.t.t.t.t | with_reducible exact H.t.t.t.t.t.t.t.t | with_reducible exact H.t.t.t.t.t.t.t.t.t)).sOk | skip); (first | have hq2 := fun hlt => hcu hlt _ (by first | with_reducible exact H.t | with_reducible exact H.t.t | with_reducible exact H.t.t.t | with_reducible exact H.t.t.t.t | with_reducible exact H.t.t.t.t.t | with_reducible exact H.t.t.t.t.t.t | with_reducible exact H.t.t.t.t.t.t.t | with_reducible exact H.t.t.t.t.t.t.t.t | with_reducible exact H.t.t.t.t.t.t.t.t.t) | skip))
              | simp -implicitDefEqProofs (disch := first | omega | decide | exact rfl | assumption | exact Nat.le_of_ble_eq_true rfl | exact One.c | exact One.o) only [vsA, vsB, eq_self, if_true, if_false, implies_true, false_implies, evp, HX.ev, Nat.reduceAdd, HOp.looks, Nat.reduceEqDiff, overw, Nat.reduceBEq, so, e1, e4, lcd, lc, cso, vadd1, va_loadA, va_ldA, hq1, hq2, eqb, hlong, hkk, Bool.and_self, Bool.true_and, Bool.and_true, o1, o2, o3, o4, hbig, eqd, av, avc, ub5, f0, f1, f2, f3, f4, f5, f6, f7, f8, f9, f10, f11]
              | (refine condK_cases (fun h => ?_) (fun h => ?_) <;> (try simp only [h]) <;> (try simp only [athA, ne_eq] at h) <;> (try (exfalso; omega)))
              | (refine guardK_cases (fun h => ?_) (fun h => ?_) <;> (try simp only [h]) <;> (try simp only [athA, ne_eq] at h) <;> (try (exfalso; omega)))
              | (clear H f0 f1 f2 f3 f4 f5 f6 f7 f8 f9 f10 f11; (with_reducible intro v2 hs H); (try simp only [setA, overw, Nat.reduceAdd] at H); refine need ?_)
              | ((with_reducible show actK _ (HAct.call (HX.cst (HV.func (Fn.func 23) _ _)) _) _ _ _ _ _); refine vcall_of ok23 rfl (cut23 text (by omega)) ?_; rintro _ _ ⟨rfl, rfl⟩)
              | ((with_reducible show actK _ (HAct.call (HX.cst (HV.func (Fn.func 25) _ _)) _) _ _ _ _ _); refine vcall_of ok25 rfl (said25 (p := ⟨text, true, true, pv, data⟩) H (fun _ h => hdat _ h.t.t) (by simp only; omega)) ?_;  clear H f0 f1 f2 f3 f4 f5 f6 f7 f8 f9 f10 f11; rintro w hs H; refine need ?_)
              | ((with_reducible show actK _ (HAct.call (HX.cst (HV.func (Fn.func 24) _ _)) _) _ _ _ _ _); refine vcall_of ok24 rfl (fed24 H.p2 (fun _ h => h.rdX) _ (by rw [q3]; simp only [List.length_nil]; rw [es]; simp; omega) (by omega)) ?_;  clear H f0 f1 f2 f3 f4 f5 f6 f7 f8 f9 f10 f11; rintro _ hs H; rw [es, fr] at H; refine need ?_)
              | ((with_reducible show actK _ (HAct.call (HX.cst (HV.func (Fn.func 26) _ _)) _) _ _ _ _ _); refine vcall_of ok26 rfl (next26 H (fun _ h => G _ h.t.t) (by simp; omega) (by simp only; omega) (by simp only; omega) (by simp only; omega)) ?_;  clear H f0 f1 f2 f3 f4 f5 f6 f7 f8 f9 f10 f11; rintro v hs ⟨w2, rfl, H⟩; rw [hn] at H; simp only [hn, itV, itB] at H ⊢; have o1 := H.t.rdX.one; have o2 := H.t.rdX.cells; refine need ?_)
              | ((with_reducible show actK _ (HAct.call (HX.cst (HV.func (Fn.func 21) _ _)) _) _ _ _ _ _); refine vcall_of ok21 rfl (alike21 (x := []) (y := []) H (fun _ h => h.t.t.t.rdX) (fun _ _ => Rd.nil) (by decide)) ?_;  clear H f0 f1 f2 f3 f4 f5 f6 f7 f8 f9 f10 f11; rintro v hs ⟨rfl, H⟩; refine need ?_)
              | ((with_reducible show actK _ (HAct.call (HX.cst (HV.func (Fn.func 27) _ _)) _) _ _ _ _ _); refine vcall_of ok27 rfl (body27 H.p2 (data.length : Nat) (by simp; omega)) ?_;  clear H f0 f1 f2 f3 f4 f5 f6 f7 f8 f9 f10 f11; rintro v hs ⟨rfl, H⟩; rw [hb1] at H; simp only [hb1] at H ⊢; refine need ?_)
              | ((with_reducible show actK _ (HAct.call (HX.cst (HV.func (Fn.func 26) _ _)) _) _ _ _ _ _); refine vcall_of ok26 rfl (next26 H (fun _ h => G _ (by first | exact h.t.t | exact h.t.t.t | exact h.t.t.t.t | exact h.t.t.t.t.t)) (by omega) (by omega) (by omega) (by omega)) ?_;  clear H f0 f1 f2 f3 f4 f5 f6 f7 f8 f9 f10 f11; rintro v hs ⟨w3, rfl, H⟩; rw [hb7] at H; simp only [hb7, itV, itB] at H ⊢; have o3 := H.t.rdX.one; have o4 := H.t.rdX.cells; refine need ?_)
              | ((with_reducible show actK _ (HAct.call (HX.cst (HV.func (Fn.func 21) _ _)) _) _ _ _ _ _); refine vcall_of ok21 rfl (alike21 (x := []) (y := []) H (fun _ h => h.t.t.t.rdX) (fun _ h => Rd.nil) (by decide)) ?_;  clear H f0 f1 f2 f3 f4 f5 f6 f7 f8 f9 f10 f11; rintro v hs ⟨rfl, H⟩; refine need ?_)
              | refine opC_K ?_
              | ((with_reducible show opC (unit (hstore _ _ _ _)) _); refine sl_store1 (by with_reducible first | exact H | exact H.p1 | exact H.p2 | exact H.p3 | exact H.p4 | exact H.p5 | exact H.p6 | exact H.p7 | exact H.p8 | exact H.p9 | exact H.p10 | exact H.p11) (Nat.le_of_ble_eq_true rfl) (by first | exact rfl | (simp only [f0, f1, f2, f3, f4, f5, f6, f7, f8, f9, f10, f11]; done) | (simp only [onA, *]; done)) (by first | exact rfl | (simp only [f0, f1, f2, f3, f4, f5, f6, f7, f8, f9, f10, f11]; done) | (simp only [onA, *]; done)) ?_)
              | ((with_reducible show opC (unit (hstore _ _ _ _)) _); refine sl_storeN (by with_reducible first | exact H | exact H.p1 | exact H.p2 | exact H.p3 | exact H.p4 | exact H.p5 | exact H.p6 | exact H.p7 | exact H.p8 | exact H.p9 | exact H.p10 | exact H.p11) rfl (Nat.le_of_ble_eq_true rfl) (by first | exact rfl | (simp only [f0, f1, f2, f3, f4, f5, f6, f7, f8, f9, f10, f11]; done) | (simp only [onA, *]; done)) ?_)
              | ((with_reducible show opC (hbox _ _) _); refine sl_box1 H (by first | exact rfl | (simp only [f0, f1, f2, f3, f4, f5, f6, f7, f8, f9, f10, f11]; done) | (simp only [onA, *]; done)) (by first | exact rfl | (simp only [f0, f1, f2, f3, f4, f5, f6, f7, f8, f9, f10, f11]; done) | (simp only [onA, *]; done)) ?_)
              | ((with_reducible show opC (hbox _ _) _); refine sl_boxA H (by first | exact rfl | (simp only [f0, f1, f2, f3, f4, f5, f6, f7, f8, f9, f10, f11]; done) | (simp only [onA, *]; done)) ?_)
              | with_reducible intro hy

            all_goals
              exact ⟨(i + 1, s2), _, by simp only; omega, ⟨by simp only; omega, hb2⟩, (by (repeat first | exact Less.nil | refine Less.undef _ ?_ | refine Less.keep _ ?_)), Weak.refl _, by have H2 := keepIn (p := p) (s := s2) (by with_reducible first | exact H | exact H.p1 | exact H.p2 | exact H.p3 | exact H.p4 | exact H.p5 | exact H.p6 | exact H.p7 | exact H.p8 | exact H.p9 | exact H.p10 | exact H.p11); repeat (first | with_reducible exact H2 | replace H2 := H2.d1)⟩
        | false =>
          have es : saidF text true false data = cutF text ++ 13 :: 10 :: (data ++ [13, 10]) := by simp [saidF]
          have fr := feed_rest hr (cutF text ++ 13 :: 10 :: (data ++ [13, 10]))
          have hn := next_line hr (r := data ++ [13, 10]) hln (by omega)
          obtain ⟨s1, s2, hb1, hb2, hb3, hb4, hb5, hb6, hb7⟩ := next_body hr data 13 10 (by omega)
          by_cases hbb : mn < data.length
          · rw [if_pos hbb] at hb7
            have hlong : decide ((222 : Int) < ((cutF text).length : Nat)) = false := by simp; omega
            have hbig : decide (((mn : Nat) : Int) < (data.length : Nat)) = true := by simp; omega
            have o1 := True.intro
            have o2 := True.intro
            have o3 := True.intro
            have o4 := True.intro
            have hkk := True.intro
            first | have f0 := Sat.pf (H) | have f0 := trivial
            first | have f1 := Sat.pf (H.t) | have f1 := trivial
            first | have f2 := Sat.pf (H.t.t) | have f2 := trivial
            first | have f3 := Sat.pf (H.t.t.t) | have f3 := trivial
            first | have f4 := Sat.pf (H.t.t.t.t) | have f4 := trivial
            first | have f5 := Sat.pf (H.t.t.t.t.t) | have f5 := trivial
            first | have f6 := Sat.pf (H.t.t.t.t.t.t) | have f6 := trivial
            first | have f7 := Sat.pf (H.t.t.t.t.t.t.t) | have f7 := trivial
            first | have f8 := Sat.pf (H.t.t.t.t.t.t.t.t) | have f8 := trivial
            first | have f9 := Sat.pf (H.t.t.t.t.t.t.t.t.t) | have f9 := trivial
            first | have f10 := Sat.pf (H.t.t.t.t.t.t.t.t.t.t) | have f10 := trivial
            first | have f11 := Sat.pf (H.t.t.t.t.t.t.t.t.t.t.t) | have f11 := trivial
            repeat' first
              | ((with_reducible show Need _); refine need_of ?_; (first | have f0 := Sat.pf (H) | have f0 := trivial); (first | have f1 := Sat.pf (H.t) | have f1 := trivial); (first | have f2 := Sat.pf (H.t.t) | have f2 := trivial); (first | have f3 := Sat.pf (H.t.t.t) | have f3 := trivial); (first | have f4 := Sat.pf (H.t.t.t.t) | have f4 := trivial); (first | have f5 := Sat.pf (H.t.t.t.t.t) | have f5 := trivial); (first | have f6 := Sat.pf (H.t.t.t.t.t.t) | have f6 := trivial); (first | have f7 := Sat.pf (H.t.t.t.t.t.t.t) | have f7 := trivial); (first | have f8 := Sat.pf (H.t.t.t.t.t.t.t.t) | have f8 := trivial); (first | have f9 := Sat.pf (H.t.t.t.t.t.t.t.t.t) | have f9 := trivial); (first | have f10 := Sat.pf (H.t.t.t.t.t.t.t.t.t.t) | have f10 := trivial); (first | have f11 := Sat.pf (H.t.t.t.t.t.t.t.t.t.t.t) | have f11 := trivial); (first | have cso := (RC _ (by first | with_reducible exact H.t | with_reducible exact H.t.t | with_reducible exact H.t.t.t | with_reducible exact H.t.t.t.t | with_reducible exact H.t.t.t.t.t | with_reducible exact H.t.t.t.t.t.t | with_reducible exact H.t.t.t.t.t.t.t | with_reducible exact H.t.t.t.t.t.t.t.t | with_reducible exact H.t.t.t.t.t.t.t.t.t)).sOk | skip); (first | have hq2 := fun hlt => hcu hlt _ (by first | with_reducible exact H.t | with_reducible exact H.t.t | with_reducible exact H.t.t.t | with_reducible exact H.t.t.t.t | with_reducible exact H.t.t.t.t.t | with_reducible exact H.t.t.t.t.t.t | with_reducible exact H.t.t.t.t.t.t.t | with_reducible exact H.t.t.t.t.t.t.t.t | with_reducible exact H.t.t.t.t.t.t.t.t.t) | skip))
              | simp -implicitDefEqProofs (disch := first | omega | decide | exact rfl | assumption | exact Nat.le_of_ble_eq_true rfl | exact One.c | exact One.o) only [vsA, vsB, eq_self, if_true, if_false, implies_true, false_implies, evp, HX.ev, Nat.reduceAdd, HOp.looks, Nat.reduceEqDiff, overw, Nat.reduceBEq, so, e1, e4, lcd, lc, cso, vadd1, va_loadA, va_ldA, hq1, hq2, eqb, hlong, hkk, Bool.and_self, Bool.true_and, Bool.and_true, o1, o2, o3, o4, hbig, eqd, av, avc, ub5, f0, f1, f2, f3, f4, f5, f6, f7, f8, f9, f10, f11]
              | (refine condK_cases (fun h => ?_) (fun h => ?_) <;> (try simp only [h]) <;> (try simp only [athA, ne_eq] at h) <;> (try (exfalso; omega)))
              | (refine guardK_cases (fun h => ?_) (fun h => ?_) <;> (try simp only [h]) <;> (try simp only [athA, ne_eq] at h) <;> (try (exfalso; omega)))
              | (clear H f0 f1 f2 f3 f4 f5 f6 f7 f8 f9 f10 f11; (with_reducible intro v2 hs H); (try simp only [setA, overw, Nat.reduceAdd] at H); refine need ?_)
              | ((with_reducible show actK _ (HAct.call (HX.cst (HV.func (Fn.func 23) _ _)) _) _ _ _ _ _); refine vcall_of ok23 rfl (cut23 text (by omega)) ?_; rintro _ _ ⟨rfl, rfl⟩)
              | ((with_reducible show actK _ (HAct.call (HX.cst (HV.func (Fn.func 25) _ _)) _) _ _ _ _ _); refine vcall_of ok25 rfl (said25 (p := ⟨text, true, false, pv, data⟩) H (fun _ h => hdat _ h.t.t) (by simp only; omega)) ?_;  clear H f0 f1 f2 f3 f4 f5 f6 f7 f8 f9 f10 f11; rintro w hs H; refine need ?_)
              | ((with_reducible show actK _ (HAct.call (HX.cst (HV.func (Fn.func 24) _ _)) _) _ _ _ _ _); refine vcall_of ok24 rfl (fed24 H.p2 (fun _ h => h.rdX) _ (by rw [q3]; simp only [List.length_nil]; rw [es]; simp; omega) (by omega)) ?_;  clear H f0 f1 f2 f3 f4 f5 f6 f7 f8 f9 f10 f11; rintro _ hs H; rw [es, fr] at H; refine need ?_)
              | ((with_reducible show actK _ (HAct.call (HX.cst (HV.func (Fn.func 26) _ _)) _) _ _ _ _ _); refine vcall_of ok26 rfl (next26 H (fun _ h => G _ h.t.t) (by simp; omega) (by simp only; omega) (by simp only; omega) (by simp only; omega)) ?_;  clear H f0 f1 f2 f3 f4 f5 f6 f7 f8 f9 f10 f11; rintro v hs ⟨w2, rfl, H⟩; rw [hn] at H; simp only [hn, itV, itB] at H ⊢; have o1 := H.t.rdX.one; have o2 := H.t.rdX.cells; refine need ?_)
              | ((with_reducible show actK _ (HAct.call (HX.cst (HV.func (Fn.func 21) _ _)) _) _ _ _ _ _); refine vcall_of ok21 rfl (alike21 (x := []) (y := []) H (fun _ h => h.t.t.t.rdX) (fun _ _ => Rd.nil) (by decide)) ?_;  clear H f0 f1 f2 f3 f4 f5 f6 f7 f8 f9 f10 f11; rintro v hs ⟨rfl, H⟩; refine need ?_)
              | ((with_reducible show actK _ (HAct.call (HX.cst (HV.func (Fn.func 27) _ _)) _) _ _ _ _ _); refine vcall_of ok27 rfl (body27 H.p2 (data.length : Nat) (by simp; omega)) ?_;  clear H f0 f1 f2 f3 f4 f5 f6 f7 f8 f9 f10 f11; rintro v hs ⟨rfl, H⟩; rw [hb1] at H; simp only [hb1] at H ⊢; refine need ?_)
              | ((with_reducible show actK _ (HAct.call (HX.cst (HV.func (Fn.func 26) _ _)) _) _ _ _ _ _); refine vcall_of ok26 rfl (next26 H (fun _ h => G _ (by first | exact h.t.t | exact h.t.t.t | exact h.t.t.t.t | exact h.t.t.t.t.t)) (by omega) (by omega) (by omega) (by omega)) ?_;  clear H f0 f1 f2 f3 f4 f5 f6 f7 f8 f9 f10 f11; rintro v hs ⟨w3, rfl, H⟩; rw [hb7] at H; simp only [hb7, itV, itB] at H ⊢; have o3 := H.t.rdX.one; have o4 := H.t.rdX.cells; refine need ?_)
              | ((with_reducible show actK _ (HAct.call (HX.cst (HV.func (Fn.func 21) _ _)) _) _ _ _ _ _); refine vcall_of ok21 rfl (alike21 (x := []) (y := []) H (fun _ h => h.t.t.t.rdX) (fun _ h => Rd.nil) (by decide)) ?_;  clear H f0 f1 f2 f3 f4 f5 f6 f7 f8 f9 f10 f11; rintro v hs ⟨rfl, H⟩; refine need ?_)
              | refine opC_K ?_
              | ((with_reducible show opC (unit (hstore _ _ _ _)) _); refine sl_store1 (by with_reducible first | exact H | exact H.p1 | exact H.p2 | exact H.p3 | exact H.p4 | exact H.p5 | exact H.p6 | exact H.p7 | exact H.p8 | exact H.p9 | exact H.p10 | exact H.p11) (Nat.le_of_ble_eq_true rfl) (by first | exact rfl | (simp only [f0, f1, f2, f3, f4, f5, f6, f7, f8, f9, f10, f11]; done) | (simp only [onA, *]; done)) (by first | exact rfl | (simp only [f0, f1, f2, f3, f4, f5, f6, f7, f8, f9, f10, f11]; done) | (simp only [onA, *]; done)) ?_)
              | ((with_reducible show opC (unit (hstore _ _ _ _)) _); refine sl_storeN (by with_reducible first | exact H | exact H.p1 | exact H.p2 | exact H.p3 | exact H.p4 | exact H.p5 | exact H.p6 | exact H.p7 | exact H.p8 | exact H.p9 | exact H.p10 | exact H.p11) rfl (Nat.le_of_ble_eq_true rfl) (by first | exact rfl | (simp only [f0, f1, f2, f3, f4, f5, f6, f7, f8, f9, f10, f11]; done) | (simp only [onA, *]; done)) ?_)
              | ((with_reducible show opC (hbox _ _) _); refine sl_box1 H (by first | exact rfl | (simp only [f0, f1, f2, f3, f4, f5, f6, f7, f8, f9, f10, f11]; done) | (simp only [onA, *]; done)) (by first | exact rfl | (simp only [f0, f1, f2, f3, f4, f5, f6, f7, f8, f9, f10, f11]; done) | (simp only [onA, *]; done)) ?_)
              | ((with_reducible show opC (hbox _ _) _); refine sl_boxA H (by first | exact rfl | (simp only [f0, f1, f2, f3, f4, f5, f6, f7, f8, f9, f10, f11]; done) | (simp only [onA, *]; done)) ?_)
              | with_reducible intro hy

            all_goals
              exact ⟨(i + 1, s2), _, by simp only; omega, ⟨by simp only; omega, hb2⟩, (by (repeat first | exact Less.nil | refine Less.undef _ ?_ | refine Less.keep _ ?_)), Weak.refl _, by have H2 := keepIn (p := p) (s := s2) (by with_reducible first | exact H | exact H.p1 | exact H.p2 | exact H.p3 | exact H.p4 | exact H.p5 | exact H.p6 | exact H.p7 | exact H.p8 | exact H.p9 | exact H.p10 | exact H.p11); repeat (first | with_reducible exact H2 | replace H2 := H2.d1)⟩
          · rw [if_neg hbb, if_pos (by decide)] at hb7
            have hlong : decide ((222 : Int) < ((cutF text).length : Nat)) = false := by simp; omega
            have hbig : decide (((mn : Nat) : Int) < (data.length : Nat)) = false := by simp; omega
            have o1 := True.intro
            have o2 := True.intro
            have o3 := True.intro
            have o4 := True.intro
            have hkk := True.intro
            first | have f0 := Sat.pf (H) | have f0 := trivial
            first | have f1 := Sat.pf (H.t) | have f1 := trivial
            first | have f2 := Sat.pf (H.t.t) | have f2 := trivial
            first | have f3 := Sat.pf (H.t.t.t) | have f3 := trivial
            first | have f4 := Sat.pf (H.t.t.t.t) | have f4 := trivial
            first | have f5 := Sat.pf (H.t.t.t.t.t) | have f5 := trivial
            first | have f6 := Sat.pf (H.t.t.t.t.t.t) | have f6 := trivial
            first | have f7 := Sat.pf (H.t.t.t.t.t.t.t) | have f7 := trivial
            first | have f8 := Sat.pf (H.t.t.t.t.t.t.t.t) | have f8 := trivial
            first | have f9 := Sat.pf (H.t.t.t.t.t.t.t.t.t) | have f9 := trivial
            first | have f10 := Sat.pf (H.t.t.t.t.t.t.t.t.t.t) | have f10 := trivial
            first | have f11 := Sat.pf (H.t.t.t.t.t.t.t.t.t.t.t) | have f11 := trivial
            repeat' first
              | ((with_reducible show Need _); refine need_of ?_; (first | have f0 := Sat.pf (H) | have f0 := trivial); (first | have f1 := Sat.pf (H.t) | have f1 := trivial); (first | have f2 := Sat.pf (H.t.t) | have f2 := trivial); (first | have f3 := Sat.pf (H.t.t.t) | have f3 := trivial); (first | have f4 := Sat.pf (H.t.t.t.t) | have f4 := trivial); (first | have f5 := Sat.pf (H.t.t.t.t.t) | have f5 := trivial); (first | have f6 := Sat.pf (H.t.t.t.t.t.t) | have f6 := trivial); (first | have f7 := Sat.pf (H.t.t.t.t.t.t.t) | have f7 := trivial); (first | have f8 := Sat.pf (H.t.t.t.t.t.t.t.t) | have f8 := trivial); (first | have f9 := Sat.pf (H.t.t.t.t.t.t.t.t.t) | have f9 := trivial); (first | have f10 := Sat.pf (H.t.t.t.t.t.t.t.t.t.t) | have f10 := trivial); (first | have f11 := Sat.pf (H.t.t.t.t.t.t.t.t.t.t.t) | have f11 := trivial); (first | have cso := (RC _ (by first | with_reducible exact H.t | with_reducible exact H.t.t | with_reducible exact H.t.t.t | with_reducible exact H.t.t.t.t | with_reducible exact H.t.t.t.t.t | with_reducible exact H.t.t.t.t.t.t | with_reducible exact H.t.t.t.t.t.t.t | with_reducible exact H.t.t.t.t.t.t.t.t | with_reducible exact H.t.t.t.t.t.t.t.t.t)).sOk | skip); (first | have hq2 := fun hlt => hcu hlt _ (by first | with_reducible exact H.t | with_reducible exact H.t.t | with_reducible exact H.t.t.t | with_reducible exact H.t.t.t.t | with_reducible exact H.t.t.t.t.t | with_reducible exact H.t.t.t.t.t.t | with_reducible exact H.t.t.t.t.t.t.t | with_reducible exact H.t.t.t.t.t.t.t.t | with_reducible exact H.t.t.t.t.t.t.t.t.t) | skip))
              | simp -implicitDefEqProofs (disch := first | omega | decide | exact rfl | assumption | exact Nat.le_of_ble_eq_true rfl | exact One.c | exact One.o) only [vsA, vsB, eq_self, if_true, if_false, implies_true, false_implies, evp, HX.ev, Nat.reduceAdd, HOp.looks, Nat.reduceEqDiff, overw, Nat.reduceBEq, so, e1, e4, lcd, lc, cso, vadd1, va_loadA, va_ldA, hq1, hq2, eqb, hlong, hkk, Bool.and_self, Bool.true_and, Bool.and_true, o1, o2, o3, o4, hbig, eqd, av, avc, ub5, f0, f1, f2, f3, f4, f5, f6, f7, f8, f9, f10, f11]
              | (refine condK_cases (fun h => ?_) (fun h => ?_) <;> (try simp only [h]) <;> (try simp only [athA, ne_eq] at h) <;> (try (exfalso; omega)))
              | (refine guardK_cases (fun h => ?_) (fun h => ?_) <;> (try simp only [h]) <;> (try simp only [athA, ne_eq] at h) <;> (try (exfalso; omega)))
              | (clear H f0 f1 f2 f3 f4 f5 f6 f7 f8 f9 f10 f11; (with_reducible intro v2 hs H); (try simp only [setA, overw, Nat.reduceAdd] at H); refine need ?_)
              | ((with_reducible show actK _ (HAct.call (HX.cst (HV.func (Fn.func 23) _ _)) _) _ _ _ _ _); refine vcall_of ok23 rfl (cut23 text (by omega)) ?_; rintro _ _ ⟨rfl, rfl⟩)
              | ((with_reducible show actK _ (HAct.call (HX.cst (HV.func (Fn.func 25) _ _)) _) _ _ _ _ _); refine vcall_of ok25 rfl (said25 (p := ⟨text, true, false, pv, data⟩) H (fun _ h => hdat _ h.t.t) (by simp only; omega)) ?_;  clear H f0 f1 f2 f3 f4 f5 f6 f7 f8 f9 f10 f11; rintro w hs H; refine need ?_)
              | ((with_reducible show actK _ (HAct.call (HX.cst (HV.func (Fn.func 24) _ _)) _) _ _ _ _ _); refine vcall_of ok24 rfl (fed24 H.p2 (fun _ h => h.rdX) _ (by rw [q3]; simp only [List.length_nil]; rw [es]; simp; omega) (by omega)) ?_;  clear H f0 f1 f2 f3 f4 f5 f6 f7 f8 f9 f10 f11; rintro _ hs H; rw [es, fr] at H; refine need ?_)
              | ((with_reducible show actK _ (HAct.call (HX.cst (HV.func (Fn.func 26) _ _)) _) _ _ _ _ _); refine vcall_of ok26 rfl (next26 H (fun _ h => G _ h.t.t) (by simp; omega) (by simp only; omega) (by simp only; omega) (by simp only; omega)) ?_;  clear H f0 f1 f2 f3 f4 f5 f6 f7 f8 f9 f10 f11; rintro v hs ⟨w2, rfl, H⟩; rw [hn] at H; simp only [hn, itV, itB] at H ⊢; have o1 := H.t.rdX.one; have o2 := H.t.rdX.cells; refine need ?_)
              | ((with_reducible show actK _ (HAct.call (HX.cst (HV.func (Fn.func 21) _ _)) _) _ _ _ _ _); refine vcall_of ok21 rfl (alike21 (x := []) (y := []) H (fun _ h => h.t.t.t.rdX) (fun _ _ => Rd.nil) (by decide)) ?_;  clear H f0 f1 f2 f3 f4 f5 f6 f7 f8 f9 f10 f11; rintro v hs ⟨rfl, H⟩; refine need ?_)
              | ((with_reducible show actK _ (HAct.call (HX.cst (HV.func (Fn.func 27) _ _)) _) _ _ _ _ _); refine vcall_of ok27 rfl (body27 H.p2 (data.length : Nat) (by simp; omega)) ?_;  clear H f0 f1 f2 f3 f4 f5 f6 f7 f8 f9 f10 f11; rintro v hs ⟨rfl, H⟩; rw [hb1] at H; simp only [hb1] at H ⊢; refine need ?_)
              | ((with_reducible show actK _ (HAct.call (HX.cst (HV.func (Fn.func 26) _ _)) _) _ _ _ _ _); refine vcall_of ok26 rfl (next26 H (fun _ h => G _ (by first | exact h.t.t | exact h.t.t.t | exact h.t.t.t.t | exact h.t.t.t.t.t)) (by omega) (by omega) (by omega) (by omega)) ?_;  clear H f0 f1 f2 f3 f4 f5 f6 f7 f8 f9 f10 f11; rintro v hs ⟨w3, rfl, H⟩; rw [hb7] at H; simp only [hb7, itV, itB] at H ⊢; have o3 := H.t.rdX.one; have o4 := H.t.rdX.cells; refine need ?_)
              | ((with_reducible show actK _ (HAct.call (HX.cst (HV.func (Fn.func 21) _ _)) _) _ _ _ _ _); refine vcall_of ok21 rfl (alike21 (x := data) (y := data) H (fun _ h => h.t.t.t.rdX) (fun _ h => hdat _ (by first | with_reducible exact h.t.t.t.t | with_reducible exact h.t.t.t.t.t | with_reducible exact h.t.t.t.t.t.t | with_reducible exact h.t.t.t.t.t.t.t | with_reducible exact h.t.t.t.t.t.t.t.t | with_reducible exact h.t.t.t.t.t.t.t.t.t | with_reducible exact h.t.t.t.t.t.t.t.t.t.t | with_reducible exact h.t.t.t.t.t.t.t.t.t.t.t | with_reducible exact h.t.t.t.t.t.t.t.t.t.t.t.t | with_reducible exact h.t.t.t.t.t.t.t.t.t.t.t.t.t | with_reducible exact h.t.t.t.t.t.t.t.t.t.t.t.t.t.t)) (by omega)) ?_;  clear H f0 f1 f2 f3 f4 f5 f6 f7 f8 f9 f10 f11; rintro v hs ⟨rfl, H⟩; refine need ?_)
              | refine opC_K ?_
              | ((with_reducible show opC (unit (hstore _ _ _ _)) _); refine sl_store1 (by with_reducible first | exact H | exact H.p1 | exact H.p2 | exact H.p3 | exact H.p4 | exact H.p5 | exact H.p6 | exact H.p7 | exact H.p8 | exact H.p9 | exact H.p10 | exact H.p11) (Nat.le_of_ble_eq_true rfl) (by first | exact rfl | (simp only [f0, f1, f2, f3, f4, f5, f6, f7, f8, f9, f10, f11]; done) | (simp only [onA, *]; done)) (by first | exact rfl | (simp only [f0, f1, f2, f3, f4, f5, f6, f7, f8, f9, f10, f11]; done) | (simp only [onA, *]; done)) ?_)
              | ((with_reducible show opC (unit (hstore _ _ _ _)) _); refine sl_storeN (by with_reducible first | exact H | exact H.p1 | exact H.p2 | exact H.p3 | exact H.p4 | exact H.p5 | exact H.p6 | exact H.p7 | exact H.p8 | exact H.p9 | exact H.p10 | exact H.p11) rfl (Nat.le_of_ble_eq_true rfl) (by first | exact rfl | (simp only [f0, f1, f2, f3, f4, f5, f6, f7, f8, f9, f10, f11]; done) | (simp only [onA, *]; done)) ?_)
              | ((with_reducible show opC (hbox _ _) _); refine sl_box1 H (by first | exact rfl | (simp only [f0, f1, f2, f3, f4, f5, f6, f7, f8, f9, f10, f11]; done) | (simp only [onA, *]; done)) (by first | exact rfl | (simp only [f0, f1, f2, f3, f4, f5, f6, f7, f8, f9, f10, f11]; done) | (simp only [onA, *]; done)) ?_)
              | ((with_reducible show opC (hbox _ _) _); refine sl_boxA H (by first | exact rfl | (simp only [f0, f1, f2, f3, f4, f5, f6, f7, f8, f9, f10, f11]; done) | (simp only [onA, *]; done)) ?_)
              | with_reducible intro hy

            all_goals
              exact ⟨(i + 1, s2), _, by simp only; omega, ⟨by simp only; omega, hb2⟩, (by (repeat first | exact Less.nil | refine Less.undef _ ?_ | refine Less.keep _ ?_)), Weak.refl _, by have H2 := keepIn (p := p) (s := s2) (by with_reducible first | exact H | exact H.p1 | exact H.p2 | exact H.p3 | exact H.p4 | exact H.p5 | exact H.p6 | exact H.p7 | exact H.p8 | exact H.p9 | exact H.p10 | exact H.p11); repeat (first | with_reducible exact H2 | replace H2 := H2.d1)⟩
  · have hn := next_rest hr
    have hr' := hr
    obtain ⟨q1, q2, q3, q4, q5⟩ := hr'
    have h0 : s.held.length = 0 := by rw [q3]; rfl
    first | have f0 := Sat.pf (H) | have f0 := trivial
    first | have f1 := Sat.pf (H.t) | have f1 := trivial
    first | have f2 := Sat.pf (H.t.t) | have f2 := trivial
    first | have f3 := Sat.pf (H.t.t.t) | have f3 := trivial
    first | have f4 := Sat.pf (H.t.t.t.t) | have f4 := trivial
    first | have f5 := Sat.pf (H.t.t.t.t.t) | have f5 := trivial
    first | have f6 := Sat.pf (H.t.t.t.t.t.t) | have f6 := trivial
    first | have f7 := Sat.pf (H.t.t.t.t.t.t.t) | have f7 := trivial
    first | have f8 := Sat.pf (H.t.t.t.t.t.t.t.t) | have f8 := trivial
    first | have f9 := Sat.pf (H.t.t.t.t.t.t.t.t.t) | have f9 := trivial
    first | have f10 := Sat.pf (H.t.t.t.t.t.t.t.t.t.t) | have f10 := trivial
    first | have f11 := Sat.pf (H.t.t.t.t.t.t.t.t.t.t.t) | have f11 := trivial
    repeat' first
      | ((with_reducible show Need _); refine need_of ?_; (first | have f0 := Sat.pf (H) | have f0 := trivial); (first | have f1 := Sat.pf (H.t) | have f1 := trivial); (first | have f2 := Sat.pf (H.t.t) | have f2 := trivial); (first | have f3 := Sat.pf (H.t.t.t) | have f3 := trivial); (first | have f4 := Sat.pf (H.t.t.t.t) | have f4 := trivial); (first | have f5 := Sat.pf (H.t.t.t.t.t) | have f5 := trivial); (first | have f6 := Sat.pf (H.t.t.t.t.t.t) | have f6 := trivial); (first | have f7 := Sat.pf (H.t.t.t.t.t.t.t) | have f7 := trivial); (first | have f8 := Sat.pf (H.t.t.t.t.t.t.t.t) | have f8 := trivial); (first | have f9 := Sat.pf (H.t.t.t.t.t.t.t.t.t) | have f9 := trivial); (first | have f10 := Sat.pf (H.t.t.t.t.t.t.t.t.t.t) | have f10 := trivial); (first | have f11 := Sat.pf (H.t.t.t.t.t.t.t.t.t.t.t) | have f11 := trivial))
      | simp -implicitDefEqProofs (disch := first | omega | decide | exact rfl | assumption | exact Nat.le_of_ble_eq_true rfl | exact One.c | exact One.o) only [vsA, vsB, eq_self, if_true, if_false, implies_true, false_implies, evp, HX.ev, Nat.reduceAdd, HOp.looks, Nat.reduceEqDiff, overw, Nat.reduceBEq, va_loadA, va_ldA, ub5, f0, f1, f2, f3, f4, f5, f6, f7, f8, f9, f10, f11]
      | (refine condK_cases (fun h => ?_) (fun h => ?_) <;> (try simp only [h]) <;> (try simp only [athA, ne_eq] at h) <;> (try (exfalso; omega)))
      | (refine guardK_cases (fun h => ?_) (fun h => ?_) <;> (try simp only [h]) <;> (try simp only [athA, ne_eq] at h) <;> (try (exfalso; omega)))
      | (clear H f0 f1 f2 f3 f4 f5 f6 f7 f8 f9 f10 f11; (with_reducible intro v2 hs H); (try simp only [setA, overw, Nat.reduceAdd] at H); refine need ?_)
      | ((with_reducible show actK _ (HAct.call (HX.cst (HV.func (Fn.func 26) _ _)) _) _ _ _ _ _); refine vcall_of ok26 rfl (next26 H G (by omega) (by omega) (by omega) (by omega)) ?_;  clear H f0 f1 f2 f3 f4 f5 f6 f7 f8 f9 f10 f11; rintro v hs ⟨w, rfl, H⟩; rw [hn] at H; simp only [hn, itV]; refine need ?_)
      | ((with_reducible show actK _ (HAct.call (HX.cst (HV.func (Fn.func 14) _ _)) _) _ _ _ _ _); refine vcall_of ok14 rfl (held14 (s := s) H.p1) ?_; rintro _ _ ⟨rfl, rfl⟩)
      | refine opC_K ?_
      | ((with_reducible show opC (unit (hstore _ _ _ _)) _); refine sl_store1 (by with_reducible first | exact H | exact H.p1 | exact H.p2 | exact H.p3 | exact H.p4 | exact H.p5 | exact H.p6 | exact H.p7 | exact H.p8 | exact H.p9 | exact H.p10 | exact H.p11) (Nat.le_of_ble_eq_true rfl) (by first | exact rfl | (simp only [f0, f1, f2, f3, f4, f5, f6, f7, f8, f9, f10, f11]; done) | (simp only [onA, *]; done)) (by first | exact rfl | (simp only [f0, f1, f2, f3, f4, f5, f6, f7, f8, f9, f10, f11]; done) | (simp only [onA, *]; done)) ?_)
      | ((with_reducible show opC (unit (hstore _ _ _ _)) _); refine sl_storeN (by with_reducible first | exact H | exact H.p1 | exact H.p2 | exact H.p3 | exact H.p4 | exact H.p5 | exact H.p6 | exact H.p7 | exact H.p8 | exact H.p9 | exact H.p10 | exact H.p11) rfl (Nat.le_of_ble_eq_true rfl) (by first | exact rfl | (simp only [f0, f1, f2, f3, f4, f5, f6, f7, f8, f9, f10, f11]; done) | (simp only [onA, *]; done)) ?_)
      | ((with_reducible show opC (hbox _ _) _); refine sl_box1 H (by first | exact rfl | (simp only [f0, f1, f2, f3, f4, f5, f6, f7, f8, f9, f10, f11]; done) | (simp only [onA, *]; done)) (by first | exact rfl | (simp only [f0, f1, f2, f3, f4, f5, f6, f7, f8, f9, f10, f11]; done) | (simp only [onA, *]; done)) ?_)
      | ((with_reducible show opC (hbox _ _) _); refine sl_boxA H (by first | exact rfl | (simp only [f0, f1, f2, f3, f4, f5, f6, f7, f8, f9, f10, f11]; done) | (simp only [onA, *]; done)) ?_)
      | with_reducible intro hy

    rw [h0]; rfl
end Go.Proofs.Ytccfcegmaejlnaa
namespace Go.Proofs.Ytccfcegmaejlnaa
open Go Go.HL Go.ChangeShapes Go.WideShapes Go.ChangeAt Go.RowKit Go.Shelf
set_option maxRecDepth 100000
set_option linter.unusedSimpArgs false

theorem own : ownKnob Try.prog.godebug = none := by kernel_rfl
theorem laidOut : laidOutB Try.prog = true := by kernel_rfl
/-- a part, as it was handed in. -/
theorem part_of {H : Type} {enc : TypeId × Value → H} {M : World} {fuel : Nat} {cs : List Value} {x : DataW H × List MemPlace} (h : DataW.trod enc Try.prog M 0 (fun _ => true) true fuel 59 cs = some x) (hw : ∀ n ∈ x.1.weights Try.prog 59, n ≤ reachBytes)
    {β : List Ent} {hs : HS} (E : Emb β hs M) (hro : AllRo hs) (hz : 0 < hs.length) :
    ∃ β' hs' a, Ext β β' ∧ (∃ g, hs' = hs ++ g) ∧ Emb β' hs' M ∧ AllRo hs' ∧ RelL β' (PartV.cells a) cs ∧ Rd hs' 1 a.v a.data.length (bcells a.data) ∧ a.data.length ≤ 140737488351232 ∧ a.text.length ≤ 140737488351232 := by
  obtain ⟨xs, n', rfl, rfl, hl, hxl, hf⟩ := DataW.trod_struct Try.underlying59 h
  have c59 : Try.prog.cellsOf 59 = 4 := by kernel_rfl
  have c9 : Try.prog.cellsOf 9 = 1 := by kernel_rfl
  have c4 : Try.prog.cellsOf 4 = 1 := by kernel_rfl
  have c30 : Try.prog.cellsOf 30 = 1 := by kernel_rfl
  have c5 : Try.prog.cellsOf 5 = 1 := by kernel_rfl
  rw [c59] at hl
  obtain ⟨a, b, c, d, rfl⟩ : ∃ a b c d, cs = [a, b, c, d] := by
    match cs, hl with
    | [a, b, c, d], _ => exact ⟨a, b, c, d, rfl⟩
  obtain ⟨y0, y1, y2, y3, rfl⟩ : ∃ a b c d, xs = [a, b, c, d] := by
    match xs, hxl with
    | [a, b, c, d], _ => exact ⟨a, b, c, d, rfl⟩
  have f0 : DataW.trod enc Try.prog M 0 (fun _ => true) true n' 9 (([a, b, c, d].drop 0).take (Try.prog.cellsOf 9)) = some y0 := hf 0 _ rfl
  have f1 : DataW.trod enc Try.prog M 0 (fun _ => true) true n' 4 (([a, b, c, d].drop 1).take (Try.prog.cellsOf 4)) = some y1 := hf 1 _ rfl
  have f2 : DataW.trod enc Try.prog M 0 (fun _ => true) true n' 4 (([a, b, c, d].drop 2).take (Try.prog.cellsOf 4)) = some y2 := hf 2 _ rfl
  have f3 : DataW.trod enc Try.prog M 0 (fun _ => true) true n' 30 (([a, b, c, d].drop 3).take (Try.prog.cellsOf 30)) = some y3 := hf 3 _ rfl
  rw [c9] at f0
  rw [c4] at f1 f2
  rw [c30] at f3
  simp only [List.drop_zero, List.drop_succ_cons, List.take_succ_cons, List.take_zero] at f0 f1 f2 f3
  obtain ⟨t, e0, e0'⟩ := arg_str Try.underlying9 f0
  obtain ⟨id, e1⟩ := arg_bool Try.underlying4 f1
  obtain ⟨num, e2⟩ := arg_bool Try.underlying4 f2
  simp at e0 e1 e2
  subst e0 e1 e2
  have tl : t.length ≤ 140737488351232 := hw _ (by
    simp only [DataW.weights, Try.underlying59, List.map_cons, List.map_nil]
    refine DataW.weights_mem_each (j := 0) (t := 9) (d := y0.1) (by kernel_rfl) rfl _ ?_
    rw [e0']; simp [DataW.weights])
  obtain ⟨β', hs', v, bb, x1, x2, x3, x4, x5, x6, x8⟩ := arg_bytesR Try.underlying30 Try.underlying5 c5 f3 E hro hz
  have bl : bb.length ≤ 140737488351232 := by
    rcases x8 with rfl | ⟨el, sp, e4, e5⟩
    · simp
    · have := hw ((el.length + sp.length) * Try.prog.bytesOf 5) (by
        simp only [DataW.weights, Try.underlying59, List.map_cons, List.map_nil]
        refine DataW.weights_mem_each (j := 3) (t := 30) (d := y3.1) (by kernel_rfl) rfl _ ?_
        rw [e4]; simp [DataW.weights, Try.underlying30])
      have b5 : Try.prog.bytesOf 5 = 1 := by kernel_rfl
      rw [b5] at this
      have hr : reachBytes = 140737488351232 := rfl
      omega
  refine ⟨β', hs', ⟨t, id, num, v, bb⟩, x1, x2, x3, x4, ?_, x6, bl, tl⟩
  simp only [PartV.cells, RelL] at x5 ⊢
  obtain ⟨u, us, h1, h2, rfl⟩ := x5
  simp at h1; subst h1
  exact ⟨_, _, rfl, rfl, _, _, rfl, rfl, _, _, rfl, rfl, _, _, rfl, h2, rfl⟩
/-- parts, as they were handed in. -/
theorem parts_of {H : Type} {enc : TypeId × Value → H} {M : World} {fuel : Nat} {v0 : Value} {x : DataW H × List MemPlace} (h : DataW.trod enc Try.prog M 0 (fun _ => true) true fuel 56 v0.cells.toList = some x) (hv : ∃ a l c, v0 = .slice a l c) (hw : ∀ n ∈ x.1.weights Try.prog 56, n ≤ reachBytes)
    {β : List Ent} {hs : HS} (E : Emb β hs M) (hro : AllRo hs) (hz : 0 < hs.length) :
    ∃ β' hs' v A, Ext β β' ∧ (∃ g, hs' = hs ++ g) ∧ Emb β' hs' M ∧ AllRo hs' ∧ Rel β' v v0 ∧ PartsAt hs' v A := by
  have shape : ∀ a l c, [Value.slice a l c] = v0.cells.toList → v0 = .slice a l c := by
    intro a l c h
    obtain ⟨a', l', c', rfl⟩ := hv
    simp [Value.cells] at h
    obtain ⟨rfl, rfl, rfl⟩ := h
    rfl
  rcases Go.Deep.open_slice Try.underlying56 h with ⟨hcs, hx0⟩ | ⟨a, len, cap, m, n, D, Pl, hcs, _, hle, hmax, hm, hx0, hel⟩
  · have hv0 := shape _ _ _ hcs.symm
    subst hv0
    exact ⟨β, hs, .nilSlice, [], Ext.refl _, ⟨[], by simp⟩, E, hro, rfl, ⟨Rd.nil, by simp, by simp, by simp⟩⟩
  · have hv0 := shape _ _ _ hcs.symm
    subst hv0
    rw [if_pos rfl] at hm
    subst hm
    obtain ⟨hd0, _⟩ := Prod.mk.inj hx0
    rw [hd0] at hw
    have hr : reachBytes = 140737488351232 := rfl
    have hb59 : Try.prog.bytesOf 59 = 48 := by kernel_rfl
    have hlen : len < 4398046511104 := by
      have := hw _ (by simp only [DataW.weights, Try.underlying56]; exact List.mem_cons_self)
      rw [hb59] at this
      simp only [List.length_map, List.length_range] at this
      omega
    have hwe : ∀ i, i < len → ∀ n ∈ (D i).weights Try.prog 59, n ≤ reachBytes := fun i hi n hn => hw n (by
      simp only [DataW.weights, Try.underlying56]
      exact List.mem_cons_of_mem _ (List.mem_append_left _ (weights_mem_all (i := i) (d := D i) (by simp [hi]) n hn)))
    rcases Nat.eq_zero_or_pos m with hc0 | hc0
    · have hl0 : len = 0 := by omega
      subst hc0 hl0
      have hzb : 0 < β.length := by rw [E.len]; exact hz
      refine ⟨β, hs, .slice 0 0 0 (some 0), [], Ext.refl _, ⟨[], by simp⟩, E, hro, ?_, ⟨⟨by simp, .inr (.inl ⟨0, 0, rfl, rfl⟩)⟩, by simp, by simp, by simp⟩⟩
      exact ⟨β[0], a, 0, List.getElem?_eq_getElem hzb, rfl, Nat.le_refl _, ⟨rfl, Nat.zero_le _⟩, fun h => absurd h (by omega)⟩
    · have c59 : Try.prog.cellsOf 59 = 4 := by kernel_rfl
      rw [c59] at hel
      have each : ∀ i, ∃ cs : List Value, cs.length = 4 ∧ (i < m → (∀ (j : Nat) u, cs[j]? = some u → M.cell? (a.add (i * 4 + j)) = some u) ∧ DataW.trod enc Try.prog M 0 (fun _ => true) true n 59 cs = some (D i, Pl i)) := by
        intro i
        by_cases hi : i < m
        · obtain ⟨cs', e1, e2⟩ := hel i hi
          obtain ⟨_, e3, e4⟩ := World.cells?_some e1
          refine ⟨cs', e3, fun _ => ⟨fun j u hu => ?_, e2⟩⟩
          have hj := lt_of_get hu
          rw [← add_add, e4 j (by rw [← e3]; exact hj)]
          exact hu
        · exact ⟨[.bool true, .bool true, .bool true, .bool true], rfl, fun h => absurd h hi⟩
      obtain ⟨C, hC⟩ : ∃ C : Nat → List Value, ∀ i, (C i).length = 4 ∧ (i < m → (∀ (j : Nat) u, (C i)[j]? = some u → M.cell? (a.add (i * 4 + j)) = some u) ∧ DataW.trod enc Try.prog M 0 (fun _ => true) true n 59 (C i) = some (D i, Pl i)) := ⟨fun i => Classical.choose (each i), fun i => Classical.choose_spec (each i)⟩
      obtain ⟨β1, hs1, A, hA, x1, ⟨g1, x2⟩, x3, x4, x5⟩ := emb_each (M := M) (Good := fun β hs i (o : PartV) => RelL β o.cells (C i) ∧ Rd hs 1 o.v o.data.length (bcells o.data) ∧ o.data.length ≤ 140737488351232 ∧ o.text.length ≤ 140737488351232)
        (fun β β' hs g i o h e => ⟨h.1.mono e _ _, h.2.1.more, h.2.2⟩) len (fun i hi β hs E hro hz => by
          obtain ⟨β', hs', o, q1, q2, q3, q4, q5, q6, q7⟩ := part_of ((hC i).2 (by omega)).2 (hwe i hi) E hro hz
          exact ⟨β', hs', o, q1, q2, q3, q4, q5, q6, q7⟩) E hro hz
      obtain ⟨X, hX⟩ : ∃ X : Nat → List HV, X = fun i => match A[i]? with
        | some o => o.cells
        | none => [] := ⟨_, rfl⟩
      have hXi : ∀ i, i < len → ∃ o, A[i]? = some o ∧ X i = o.cells := fun i hi => ⟨A[i], List.getElem?_eq_getElem (by omega), by rw [hX]; simp only [List.getElem?_eq_getElem (show i < A.length by omega)]⟩
      obtain ⟨e, E4, R4⟩ := emb_rows (s := 4) x3 x4 (by omega) hle hc0 (C := C) (fun i hi => (hC i).1) (fun i hi => ((hC i).2 hi).1) (X := X) (fun i hi => by
        obtain ⟨o, h1, h2⟩ := hXi i hi
        rw [h2]; exact (x5 i o h1).1) (fun i hi y hy => by
        obtain ⟨o, h1, h2⟩ := hXi i hi
        rw [h2] at hy
        have hvo := (x5 i o h1).2.1.one
        simp only [PartV.cells, List.mem_cons, List.not_mem_nil, or_false] at hy
        rcases hy with rfl | rfl | rfl | rfl
        · rfl
        · rfl
        · rfl
        · exact hvo)
      have hfl : (List.range len).flatMap X = A.flatMap PartV.cells := by
        have : (List.range len).map X = A.map PartV.cells := by
          apply List.ext_getElem?
          intro i
          rw [List.getElem?_map, List.getElem?_map]
          by_cases hi : i < len
          · obtain ⟨o, h1, h2⟩ := hXi i hi
            rw [List.getElem?_range hi, h1]; simp [h2]
          · rw [List.getElem?_eq_none (by simp; omega), List.getElem?_eq_none (by omega)]; rfl
        rw [List.flatMap_def, List.flatMap_def, this]
      rw [hfl] at E4
      refine ⟨_, _, .slice hs1.length 0 len (some m), A, x1.trans (Ext.snoc _ _), ⟨g1 ++ [some (.cells 4 (A.flatMap PartV.cells) true false [])], by rw [x2, List.append_assoc]⟩, E4, x4.snoc rfl, R4, ⟨?_, ?_, by omega, ?_⟩⟩
      · rw [hA]
        exact Rd.fresh hs1 4 len _ true false (by rw [flat_len (s := 4) (fun _ => rfl), hA]) (some m) (fun c e => by cases e; exact hle)
      · intro o ho
        obtain ⟨i, hi⟩ := List.getElem?_of_mem ho
        exact (x5 i o hi).2.1.more
      · intro o ho
        obtain ⟨i, hi⟩ := List.getElem?_of_mem ho
        have := (x5 i o hi).2.2
        omega
theorem PartsAt.base {hs hs0 : HS} {l : List SA} {sv : HV} {A : List PartV} (R : PartsAt hs0 sv A) (H : Sat hs (HL.base hs0 :: l)) : PartsAt hs sv A :=
  ⟨R.row.base H, fun a ha => (R.data a ha).base H, R.few, R.small⟩

theorem parts_lifted (os : Os) (started : os.Started) (H : Type) (enc : TypeId × Value → H) :
    ReturnsInHanded {} Try.checked os 5 .any (Rows.intakePartsSpec.pre6 enc Try.prog Try.f5 Rows.intakePartsRow.domain false) (Rows.intakePartsSpec.post enc Try.prog Try.f5 false true false false) := by
  refine returnsInHanded_of_change_shaped (C := Try.checked) own started (by kernel_rfl) Try.func5
    (ChangeSpec.witness6 (enc := enc) (C := Try.checked) false ⟨#[], #[.int .i64 0, .slice none 0 0, .slice none 0 0], []⟩ 8 (by kernel_rfl) (by kernel_rfl) (by kernel_rfl) (by kernel_rfl)) ?_
  intro M base args ds gs before hval0 hW _ hsz0 hsh _
  have hval : ∀ (j : Nat) t v, Try.f5.params[j]? = some t → args[j]? = some v → Value.okWide Try.prog M .any base t v := hval0
  have hsz : (DataW.weightsEach Try.prog (Try.f5.params.toList ++ Rows.intakePartsSpec.plain.varTypes Try.prog) (ds ++ gs)).all (· ≤ reachBytes) = true := hsz0
  have hW' := hW
  obtain ⟨p, q, hA0, hV, rfl, hfz, hnd⟩ := hW
  have hA : DataW.TrodAll enc Try.prog M 0 (fun _ => true) true Try.f5.params.toList args.toList ds p := hA0
  rw [Try.params5] at hA hval hsz
  obtain ⟨v0, v1, v2, d0, d1, d2, p0, p1, p2, rfl, rfl, rfl, h0, h1, h2⟩ := trodAll_three hA
  obtain ⟨rfl, rfl⟩ := trodVars_none hV
  obtain ⟨fu0, hf0⟩ := h0
  obtain ⟨fu1, hf1⟩ := h1
  obtain ⟨fu2, hf2⟩ := h2
  obtain ⟨mi, hm⟩ := Try.laysM185.s1_3 M hsh
  have hE : Emb [⟨0, 0, 1, 1⟩] [some (.gint 0)] M := emb_gint hm
  have hro0 : AllRo [some (.gint 0)] := fun i b h => by
    have hi : i = 0 := by have := lt_of_get h; simp at this; omega
    subst hi
    simp at h; subst h; rfl
  have hwt : ∀ n ∈ d1.weights Try.prog 56, n ≤ reachBytes := fun n hn => by
    have := List.all_eq_true.1 hsz n (DataW.weights_mem_each (j := 1) (t := 56) (d := d1) rfl (by simp) n hn)
    simpa using this
  obtain ⟨β1, hs1, sv, A, x1, ⟨g1, x2⟩, x3, x4, x5, x6⟩ := parts_of hf1 (okWide_slice Try.underlying56 (hval 1 56 v1 rfl rfl)) hwt hE hro0 (by simp)
  have c3 : Try.prog.cellsOf 3 = 1 := by kernel_rfl
  obtain ⟨β', hs', cv, C, y1, ⟨g2, y2⟩, y3, y4, y5, y6, _⟩ := arg_intsR Try.underlying42 Try.underlying3 c3 hf2 x3 x4 (by rw [x2]; simp)
  obtain ⟨k0, rfl⟩ : ∃ k, v0 = .int .i64 k := by
    obtain ⟨k, rfl, _⟩ := okWide_int Try.underlying3 (hval 0 3 v0 rfl rfl)
    exact ⟨k, rfl⟩
  obtain ⟨a2, l2, n2, rfl⟩ := okWide_slice Try.underlying42 (hval 2 42 v2 rfl rfl)
  have y5' : Rel β' cv (.slice a2 l2 n2) := by
    simp only [RelL] at y5
    obtain ⟨u, us, e1, e2, _⟩ := y5
    simp [Value.cells] at e1
    obtain ⟨rfl, rfl⟩ := e1
    exact e2
  have x5' : Rel β' sv v1 := x5.mono y1 _ _
  have hG : ∀ hs, Sat hs [HL.base hs'] → hs[0]? = some (some (HB.gint 0)) := fun hs h => h.base_get (by rw [y2, x2]; rfl)
  have x6' : PartsAt hs' sv A := ⟨by rw [y2]; exact x6.row.more, fun a ha => by rw [y2]; exact (x6.data a ha).more, x6.few, x6.small⟩
  refine (HC.below (us := [.int .i64 k0, v1, .slice a2 l2 n2]) y3 (by simp only [RelL]; exact ⟨_, _, rfl, rfl, _, _, rfl, x5', _, _, rfl, y5', rfl⟩) y4 (law5 (Sat.base_of hs') hG (fun hs h => x6'.base h) (fun hs h => y6.base h) k0)).mono fun e M' ⟨he, hb⟩ => ?_
  subst he
  exact ⟨_, rfl, law_post (s := Rows.intakePartsSpec) (tb := 4) laidOut rfl Try.underlying4 (by kernel_rfl) (by kernel_rfl) hW' rfl hb⟩

theorem intakeParts_holds : Rows.IntakePartsSaid :=
  OpenClaim.holds_of_wide 5 Try.f5 rfl rfl rfl rfl rfl rfl rfl ⟨rfl, rfl, rfl, rfl, rfl⟩ rfl rfl rfl rfl rfl (by kernel_rfl) Try.func5 (by kernel_rfl)
    (of_decide_eq_true (by kernel_rfl)) (by unfold Func.isWrapper; first | (rw [if_pos (by decide +kernel)]; kernel_rfl) | (rw [if_neg (by decide +kernel)]; exact ⟨rfl, rfl⟩))
    (fun os started H enc _ => parts_lifted os started H enc)
#print axioms intakeParts_holds
end Go.Proofs.Ytccfcegmaejlnaa
