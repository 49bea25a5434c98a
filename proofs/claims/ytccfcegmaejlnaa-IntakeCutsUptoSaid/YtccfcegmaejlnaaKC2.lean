/-
  Proved: the law IntakeCuts (stintlaw06) returns true wherever what it reads is of bulk at most 1048576 (the second form).
  stintlaw06: what the statements about parts and cuts share.
  intake, plainly: what is said part by part is told part by part.
  intake, plainly: how bytes are cut, and when they are asked for, is not seen.
  IntakeCuts: what the law comes to.
  IntakeCuts: what the law comes to.
-/
import Derived.Test.YtccfcegmaejlnaaKC1
import Derived.Test.YtccfcegmaejlnaaRows
import Derived.Test.YtccfcegmaejlnaaHLHand
import Derived.Test.YtccfcegmaejlnaaHLRow
import Derived.HandedShaped
import Derived.Test.YtccfcegmaejlnaaHLArg
import Derived.Carry
import Derived.OpenVars
import Derived.Lay
import Derived.MakeChecks
import Derived.LaidMore
import Derived.SizedLaws
import Derived.Deep.Slices
namespace Go.Proofs.Ytccfcegmaejlnaa
open Go Go.HL
set_option maxRecDepth 100000
set_option maxHeartbeats 40000000
set_option linter.unusedSimpArgs false
attribute [local irreducible] pt My Ex Vw Gr GrK each grp exs Sat takeCells happend hbuildSlice hstore hbox hslice hmakeSlice hs2b hcopy HL.unit opC
/-- what a part says. -/
structure PartV where
  text : List UInt8
  body : Bool
  broken : Bool
  v : HV
  data : List UInt8
def PartV.cells (a : PartV) : List HV := [.str a.text, .bool a.body, .bool a.broken, a.v]
def saidF (text : List UInt8) (body broken : Bool) (data : List UInt8) : List UInt8 :=
  cutF text ++ [13, 10] ++ (if body then data ++ (if broken then [10, 13] else [13, 10]) else [])

theorem bc2 (a b : UInt8) : bcells [a, b] = [.int .u8 a.toNat, .int .u8 b.toNat] := rfl
theorem said25 {hs : HS} {l : List SA} {p : PartV} (H : Sat hs l) (R : Rdl l p.v p.data.length (bcells p.data)) (hb : p.text.length + p.data.length < 4611686018427) :
    HC Try.prog 25 [.agg p.cells] hs fun v hs' => Sat hs' (Ex 1 v (saidF p.text p.body p.broken p.data).length (bcells (saidF p.text p.body p.broken p.data)) :: l) := by
  obtain ⟨text, body, broken, pv, data⟩ := p
  simp only [PartV.cells] at R hb ⊢
  have hmax : maxLen = 9223372036854775807 := rfl
  have p1 := (R _ H).one
  have hcl : (cutF text).length ≤ text.length := by
    unfold cutF
    split
    · simp; omega
    · exact Nat.le_refl _
  refine HC.wp mixed Try.func25 c25 ?_
  first | have f0 := Sat.pf (H) | have f0 := trivial
  first | have f1 := Sat.pf (H.t) | have f1 := trivial
  first | have f2 := Sat.pf (H.t.t) | have f2 := trivial
  first | have f3 := Sat.pf (H.t.t.t) | have f3 := trivial
  first | have f4 := Sat.pf (H.t.t.t.t) | have f4 := trivial
  first | have f5 := Sat.pf (H.t.t.t.t.t) | have f5 := trivial
  first | have f6 := Sat.pf (H.t.t.t.t.t.t) | have f6 := trivial
  first | have f7 := Sat.pf (H.t.t.t.t.t.t.t) | have f7 := trivial
  repeat' first
    | ((with_reducible show Need _); refine need_of ?_; (first | have f0 := Sat.pf (H) | have f0 := trivial); (first | have f1 := Sat.pf (H.t) | have f1 := trivial); (first | have f2 := Sat.pf (H.t.t) | have f2 := trivial); (first | have f3 := Sat.pf (H.t.t.t) | have f3 := trivial); (first | have f4 := Sat.pf (H.t.t.t.t) | have f4 := trivial); (first | have f5 := Sat.pf (H.t.t.t.t.t) | have f5 := trivial); (first | have f6 := Sat.pf (H.t.t.t.t.t.t) | have f6 := trivial); (first | have f7 := Sat.pf (H.t.t.t.t.t.t.t) | have f7 := trivial); (first | have T := (R _ H.t.t).take | skip))
    | simp -implicitDefEqProofs (disch := first | omega | decide | exact rfl | assumption | exact Nat.le_of_ble_eq_true rfl | exact One.c | exact One.o) only [vsA, vsB, eq_self, if_true, if_false, implies_true, false_implies, evp, HX.ev, Nat.reduceAdd, HOp.looks, Nat.reduceEqDiff, overw, Nat.reduceBEq, h25, p1, ub25, f0, f1, f2, f3, f4, f5, f6, f7, frame0, List.replicate, Nat.sub]
    | (refine condK_cases (fun h => ?_) (fun h => ?_) <;> (try simp only [h]) <;> (try simp only [athA, ne_eq] at h) <;> (try (exfalso; omega)))
    | (refine guardK_cases (fun h => ?_) (fun h => ?_) <;> (try simp only [h]) <;> (try simp only [athA, ne_eq] at h) <;> (try (exfalso; omega)))
    | (clear H f0 f1 f2 f3 f4 f5 f6 f7; (with_reducible intro v2 hs H); (try simp only [setA, overw, Nat.reduceAdd] at H); refine need ?_)
    | ((with_reducible show actK _ (HAct.call (HX.cst (HV.func (Fn.func 23) _ _)) _) _ _ _ _ _); refine vcall_of ok23 rfl (cut23 text (by omega)) ?_; rintro _ _ ⟨rfl, rfl⟩)
    | refine opC_K ?_
    | ((with_reducible show opC (hs2b _ _) _); refine sl_s2bX H (by omega) ?_)
    | ((with_reducible show opC (hbuildSlice _ _ _ _ _) _); refine sl_bslice H rfl rfl (by omega) rfl rfl ?_; clear H f0 f1 f2 f3 f4 f5 f6 f7; intro y hs H hy; have hy := hy.take; refine need ?_)
    | ((with_reducible show opC (happend _ _ _ _ _) _); refine sl_append (by with_reducible first | exact H | exact H.p1 | exact H.p2 | exact H.p3 | exact H.p4 | exact H.p5 | exact H.p6 | exact H.p7) (by first | assumption | with_reducible first | exact f0.2.1 | exact f1.2.1 | exact f2.2.1 | exact f3.2.1 | exact f4.2.1 | exact f5.2.1 | exact f6.2.1 | exact f7.2.1 | exact va_takeS) (by first | exact roomFor_of (by omega) | exact roomFor_wide (by omega)) (by omega) ?_)
    | ((with_reducible show opC (happend _ _ _ _ _) _); refine sl_append0X H (by first | assumption | with_reducible first | exact f0.2.1 | exact f1.2.1 | exact f2.2.1 | exact f3.2.1 | exact f4.2.1 | exact f5.2.1 | exact f6.2.1 | exact f7.2.1 | exact va_takeS) (by first | exact roomFor_of (by omega) | exact roomFor_wide (by omega)) (by omega) ?_)
    | ((with_reducible show opC (happend _ _ _ _ _) _); refine sl_appendX (by with_reducible first | exact H | exact H.p1 | exact H.p2 | exact H.p3 | exact H.p4 | exact H.p5 | exact H.p6 | exact H.p7) (by first | assumption | with_reducible first | exact f0.2.1 | exact f1.2.1 | exact f2.2.1 | exact f3.2.1 | exact f4.2.1 | exact f5.2.1 | exact f6.2.1 | exact f7.2.1 | exact va_takeS) (by first | exact roomFor_of (by omega) | exact roomFor_wide (by omega)) (by omega) ?_)
    | ((with_reducible show opC (hbuildSlice _ _ _ _ _) _); refine sl_bslice1 H rfl (by first | exact rfl | (simp only [f0, f1, f2, f3, f4, f5, f6, f7]; done) | (simp only [onA, *]; done)) (by first | exact rfl | (simp only [f0, f1, f2, f3, f4, f5, f6, f7]; done) | (simp only [onA, *]; done)) ?_)
    | ((with_reducible show opC (hbox _ _) _); refine sl_box1 H (by first | exact rfl | (simp only [f0, f1, f2, f3, f4, f5, f6, f7]; done) | (simp only [onA, *]; done)) (by first | exact rfl | (simp only [f0, f1, f2, f3, f4, f5, f6, f7]; done) | (simp only [onA, *]; done)) ?_)
    | ((with_reducible show opC (hbox _ _) _); refine sl_boxA H (by first | exact rfl | (simp only [f0, f1, f2, f3, f4, f5, f6, f7]; done) | (simp only [onA, *]; done)) ?_)
    | with_reducible intro hy

  all_goals
    have H := H.d1
    simp only [saidF, *, if_true, Bool.false_eq_true, if_false, List.append_nil]
    simp only [bcells_app, bc2, List.length_append, List.length_cons, List.length_nil, Nat.zero_add, Nat.reduceAdd, ← Nat.add_assoc, ← List.append_assoc]
    exact H

theorem rdl_cut {l : List SA} {hs0 : HS} {v : HV} {b : List UInt8} (R : Rdl l v b.length (bcells b)) (H0 : Sat hs0 l) {lo hi : Nat} {vlo vhi : Option HV} (a : Lo lo vlo) (c : Hi hi b.length vhi) (h1 : lo ≤ hi) (h2 : hi ≤ b.length) :
    ∃ v', hslice v vlo vhi none = some v' ∧ Rdl l v' ((b.drop lo).take (hi - lo)).length (bcells ((b.drop lo).take (hi - lo))) := by
  obtain ⟨v', e, _⟩ := rd_cut (R _ H0) rfl a c h1 h2
  refine ⟨v', e, fun hs H => ?_⟩
  obtain ⟨v2, e2, r2⟩ := rd_cut (R _ H) rfl a c h1 h2
  rw [e] at e2; cases e2
  rw [List.length_take, List.length_drop, Nat.min_eq_left (by omega)]
  exact r2
theorem fed24 {hs : HS} {l : List SA} {p : Nat} {s : St} {b : HV} {bs : List UInt8} (H : Sat hs (InP p s :: l)) (R : Rdl l b bs.length (bcells bs)) (at_ : Int) (hb : s.held.length + bs.length < 4611686018) (hl : s.left < 4611686018427387904) :
    HC Try.prog 24 [.ptr p 0, b, .int .i64 at_] hs fun _ hs' => Sat hs' (InP p (feedF s bs) :: l) := by
  have lb := fun hs h => (R hs h).len hs
  have lb := lb _ H.t
  have rb := (R _ H.t).sOk
  have hk := among_lt (i := at_) (m := bs.length + 1) (by omega)
  obtain ⟨k, hkd⟩ : ∃ k, k = amongF at_ (bs.length + 1) := ⟨_, rfl⟩
  rw [← hkd] at hk
  have q2 : hbin .quo none (.int .i64 (k : Nat)) (.int .i64 2) = some (.int .i64 ((k / 2 : Nat) : Int)) := by
    have : hbin .quo none (.int .i64 (k : Nat)) (.int .i64 2) = if IntKind.i64 = IntKind.i64 ∧ (2 : Int) ≠ 0 then some (.int .i64 (wr .i64 (((k : Nat) : Int).tdiv 2))) else none := rfl
    have ht : ((k : Nat) : Int).tdiv 2 = ((k / 2 : Nat) : Int) := (Int.ofNat_tdiv k 2).symm
    rw [this, if_pos ⟨rfl, by decide⟩, ht, vwr_i64 (by omega)]
  obtain ⟨v1, e1, R1⟩ := rdl_cut R H.t (lo := 0) (hi := k / 2) Lo.none (Hi.some (k := .i64)) (by omega) (by omega)
  obtain ⟨v2, e2, R2⟩ := rdl_cut R H.t (lo := k / 2) (hi := k) (Lo.some (k := .i64)) (Hi.some (k := .i64)) (by omega) (by omega)
  obtain ⟨v3, e3, R3⟩ := rdl_cut R H.t (lo := k) (hi := bs.length) (Lo.some (k := .i64)) Hi.none (by omega) (by omega)
  have f1 := feed_len s ((bs.drop 0).take (k / 2 - 0))
  have f2 := feed_len (feedF s ((bs.drop 0).take (k / 2 - 0))) ((bs.drop (k / 2)).take (k - k / 2))
  have ln1 : ((bs.drop 0).take (k / 2 - 0)).length ≤ bs.length := by simp; omega
  have ln2 : ((bs.drop (k / 2)).take (k - k / 2)).length ≤ bs.length := by simp; omega
  have ln3 : ((bs.drop k).take (bs.length - k)).length ≤ bs.length := by simp
  have hA : HC Try.prog 20 [.int .i64 at_, .int .i64 ((bs.length + 1 : Nat) : Int)] hs fun v hs' => v = .int .i64 (k : Nat) ∧ hs' = hs := by rw [hkd]; exact among20 at_ _ (by omega)
  have key : feedF (feedF (feedF s ((bs.drop 0).take (k / 2 - 0))) ((bs.drop (k / 2)).take (k - k / 2))) ((bs.drop k).take (bs.length - k)) = feedF s bs := by
    rw [feed_app, feed_app]
    congr 1
    have h3 : (bs.drop k).take (bs.length - k) = bs.drop k := List.take_of_length_le (by simp)
    rw [List.drop_zero, Nat.sub_zero, h3, ← List.append_assoc]
    have h1 : bs.take (k / 2) ++ (bs.drop (k / 2)).take (k - k / 2) = bs.take k := by
      rw [← List.drop_take]
      conv => lhs; arg 1; rw [show bs.take (k / 2) = (bs.take k).take (k / 2) by rw [List.take_take, Nat.min_eq_left (by omega)]]
      exact List.take_append_drop _ _
    rw [h1]; exact List.take_append_drop _ _
  clear f1
  have f1 := feed_len s ((bs.drop 0).take (k / 2 - 0))
  refine HC.wp mixed Try.func24 c24 ?_
  have g1 := f1
  have g2 := f2
  first | have f0 := Sat.pf (H) | have f0 := trivial
  first | have f1 := Sat.pf (H.t) | have f1 := trivial
  first | have f2 := Sat.pf (H.t.t) | have f2 := trivial
  first | have f3 := Sat.pf (H.t.t.t) | have f3 := trivial
  first | have f4 := Sat.pf (H.t.t.t.t) | have f4 := trivial
  first | have f5 := Sat.pf (H.t.t.t.t.t) | have f5 := trivial
  first | have f6 := Sat.pf (H.t.t.t.t.t.t) | have f6 := trivial
  first | have f7 := Sat.pf (H.t.t.t.t.t.t.t) | have f7 := trivial
  repeat' first
    | ((with_reducible show Need _); refine need_of ?_; (first | have f0 := Sat.pf (H) | have f0 := trivial); (first | have f1 := Sat.pf (H.t) | have f1 := trivial); (first | have f2 := Sat.pf (H.t.t) | have f2 := trivial); (first | have f3 := Sat.pf (H.t.t.t) | have f3 := trivial); (first | have f4 := Sat.pf (H.t.t.t.t) | have f4 := trivial); (first | have f5 := Sat.pf (H.t.t.t.t.t) | have f5 := trivial); (first | have f6 := Sat.pf (H.t.t.t.t.t.t) | have f6 := trivial); (first | have f7 := Sat.pf (H.t.t.t.t.t.t.t) | have f7 := trivial))
    | simp -implicitDefEqProofs (disch := first | omega | decide | exact rfl | assumption | exact Nat.le_of_ble_eq_true rfl | exact One.c | exact One.o) only [vsA, vsB, eq_self, if_true, if_false, implies_true, false_implies, evp, HX.ev, Nat.reduceAdd, HOp.looks, Nat.reduceEqDiff, overw, Nat.reduceBEq, h24, lb, rb, e1, e2, e3, q2, vadd1, ub24, f0, f1, f2, f3, f4, f5, f6, f7, frame0, List.replicate, Nat.sub]
    | (refine condK_cases (fun h => ?_) (fun h => ?_) <;> (try simp only [h]) <;> (try simp only [athA, ne_eq] at h) <;> (try (exfalso; omega)))
    | (refine guardK_cases (fun h => ?_) (fun h => ?_) <;> (try simp only [h]) <;> (try simp only [athA, ne_eq] at h) <;> (try (exfalso; omega)))
    | (clear H f0 f1 f2 f3 f4 f5 f6 f7; (with_reducible intro v2 hs H); (try simp only [setA, overw, Nat.reduceAdd] at H); refine need ?_)
    | ((with_reducible show actK _ (HAct.call (HX.cst (HV.func (Fn.func 20) _ _)) _) _ _ _ _ _); refine vcall_of ok20 rfl hA ?_; rintro _ _ ⟨rfl, rfl⟩)
    | ((with_reducible show actK _ (HAct.call (HX.cst (HV.func (Fn.func 18) _ _)) _) _ _ _ _ _); refine vcall_of ok18 rfl (feedP H R1 (by omega) (by omega)) ?_;  clear H f0 f1 f2 f3 f4 f5 f6 f7; rintro _ hs H; have rb := (R _ H.t).sOk; refine need ?_)
    | ((with_reducible show actK _ (HAct.call (HX.cst (HV.func (Fn.func 18) _ _)) _) _ _ _ _ _); refine vcall_of ok18 rfl (feedP H R2 (by omega) (by omega)) ?_;  clear H f0 f1 f2 f3 f4 f5 f6 f7; rintro _ hs H; have rb := (R _ H.t).sOk; refine need ?_)
    | ((with_reducible show actK _ (HAct.call (HX.cst (HV.func (Fn.func 18) _ _)) _) _ _ _ _ _); refine vcall_of ok18 rfl (feedP H R3 (by omega) (by omega)) ?_;  clear H f0 f1 f2 f3 f4 f5 f6 f7; rintro _ hs H; have rb := (R _ H.t).sOk; refine need ?_)
    | refine opC_K ?_
    | with_reducible intro hy

  rw [key] at H
  exact H

structure PartsAt (hs : HS) (sv : HV) (A : List PartV) : Prop where
  row : Rd hs 4 sv A.length (A.flatMap PartV.cells)
  data : ∀ a ∈ A, Rd hs 1 a.v a.data.length (bcells a.data)
  few : A.length < 1152921504606846976
  small : ∀ a ∈ A, a.data.length < 1152921504606846976 ∧ a.text.length < 1152921504606846976
def psize (a : PartV) : Nat := a.text.length + a.data.length + 4
def ptotal (A : List PartV) : Nat := A.length + (A.map psize).sum
theorem psum_take {A : List PartV} {i : Nat} {a : PartV} (hi : A[i]? = some a) : ((A.take (i + 1)).map psize).sum = ((A.take i).map psize).sum + psize a := by
  rw [List.take_add_one, hi]; simp
theorem psum_le : ∀ (A : List PartV) (i : Nat), ((A.take i).map psize).sum ≤ (A.map psize).sum
  | [], i => by simp
  | a :: A, 0 => by simp
  | a :: A, i + 1 => by have := psum_le A i; simp only [List.take_succ_cons, List.map_cons, List.sum_cons]; omega
theorem PartsAt.idx {hs : HS} {sv : HV} {A : List PartV} (R : PartsAt hs sv A) {i : Nat} {a : PartV} (hi : A[i]? = some a) :
    ∃ h o, hindexAddr 4 sv (.int .i64 (i : Nat)) = some (.ptr h o) ∧ hload none hs (.ptr h o) = some (.str a.text) ∧ hload none hs (.ptr h (o + 3)) = some a.v ∧ hload (some 4) hs (.ptr h o) = some (.agg a.cells) := by
  obtain ⟨h, o, h1, h2, h3⟩ := R.row.idxF (s := 4) (fun _ => rfl) rfl hi .i64
  exact ⟨h, o, h1, h2 0 (by omega), h2 3 (by omega), h3⟩
theorem parts22 {hs : HS} {sv : HV} {A : List PartV} (R : PartsAt hs sv A) : HC Try.prog 22 [sv] hs fun v hs' => v = .bool (decide (2147483647 < ptotal A)) ∧ hs' = hs := by
  have ls := R.row.len hs
  have so := R.row.sOk
  have few := R.few
  refine HC.wp mixed Try.func22 c22 ?_
  repeat' first
    | simp -implicitDefEqProofs (disch := first | omega | decide | exact rfl | assumption | exact Nat.le_of_ble_eq_true rfl | exact One.c | exact One.o) only [vsA, vsB, eq_self, if_true, if_false, implies_true, false_implies, evp, HX.ev, Nat.reduceAdd, HOp.looks, Nat.reduceEqDiff, overw, Nat.reduceBEq, h22, ls, ub22, frame0, List.replicate, Nat.sub]
    | (refine condK_cases (fun h => ?_) (fun h => ?_) <;> (try simp only [h]) <;> (try simp only [athA, ne_eq] at h) <;> (try (exfalso; omega)))
    | (refine guardK_cases (fun h => ?_) (fun h => ?_) <;> (try simp only [h]) <;> (try simp only [athA, ne_eq] at h) <;> (try (exfalso; omega)))
    | (refine dgK_cases (fun h => ?_) (fun h => ?_) <;> (try simp only [h]) <;> (try simp only [athA, ne_eq] at h) <;> (try (exfalso; omega)))
    | refine hwp_draw mixed rfl ?_

  refine HW.loopR mixed (fun i : Nat => (sv :: .undef :: .undef :: .int .i64 ((A.length + ((A.take i).map psize).sum : Nat) : Int) :: .int .i64 (i : Nat) :: .undef :: .undef :: .undef :: .undef :: .undef :: .undef :: .undef :: .undef :: .undef :: .undef :: .undef :: .undef :: .undef :: .undef :: .undef :: .undef :: .undef :: .undef :: .undef :: .undef :: .undef :: .undef :: .undef :: .undef :: .undef :: .undef :: .undef :: .undef :: .undef :: .undef :: [])) (fun i => A.length - i) (fun i => i ≤ A.length ∧ (((A.take i).map psize).sum < 9223372036854775807 - A.length)) 0 ⟨by omega, by simp; omega⟩ (by (repeat first | exact Less.nil | refine Less.undef _ ?_ | refine Less.keep _ ?_)) ?_
  rintro i ⟨hi, hsum⟩
  by_cases h : i < A.length
  · obtain ⟨a, ha⟩ : ∃ a, A[i]? = some a := ⟨_, List.getElem?_eq_getElem h⟩
    obtain ⟨q, o, h1, h0, h2, _⟩ := R.idx ha
    have hd := (R.data a (List.mem_of_getElem? ha)).len hs
    have hs1 := psum_take ha
    have hsm := R.small a (List.mem_of_getElem? ha)
    have hps : psize a = a.text.length + a.data.length + 4 := rfl
    repeat' first
      | simp -implicitDefEqProofs (disch := first | omega | decide | exact rfl | assumption | exact Nat.le_of_ble_eq_true rfl | exact One.c | exact One.o) only [vsA, vsB, eq_self, if_true, if_false, implies_true, false_implies, evp, HX.ev, Nat.reduceAdd, HOp.looks, Nat.reduceEqDiff, overw, Nat.reduceBEq, ls, so, h1, h0, h2, hd, vadd1, vaddn, ub22]
      | (refine condK_cases (fun h => ?_) (fun h => ?_) <;> (try simp only [h]) <;> (try simp only [athA, ne_eq] at h) <;> (try (exfalso; omega)))
      | (refine guardK_cases (fun h => ?_) (fun h => ?_) <;> (try simp only [h]) <;> (try simp only [athA, ne_eq] at h) <;> (try (exfalso; omega)))
      | (refine dgK_cases (fun h => ?_) (fun h => ?_) <;> (try simp only [h]) <;> (try simp only [athA, ne_eq] at h) <;> (try (exfalso; omega)))
      | refine hwp_draw mixed rfl ?_

    · refine ⟨i + 1, by omega, ⟨by omega, by omega⟩, ?_⟩
      rw [hs1, ← Nat.add_assoc]
      (repeat first | exact Less.nil | refine Less.undef _ ?_ | refine Less.keep _ ?_)
    · have := psum_le A i
      refine congrArg HV.bool (decide_eq_decide.2 ?_)
      unfold ptotal
      omega
  · skip
    repeat' first
      | simp -implicitDefEqProofs (disch := first | omega | decide | exact rfl | assumption | exact Nat.le_of_ble_eq_true rfl | exact One.c | exact One.o) only [vsA, vsB, eq_self, if_true, if_false, implies_true, false_implies, evp, HX.ev, Nat.reduceAdd, HOp.looks, Nat.reduceEqDiff, overw, Nat.reduceBEq, ls, ub22]
      | (refine condK_cases (fun h => ?_) (fun h => ?_) <;> (try simp only [h]) <;> (try simp only [athA, ne_eq] at h) <;> (try (exfalso; omega)))
      | (refine guardK_cases (fun h => ?_) (fun h => ?_) <;> (try simp only [h]) <;> (try simp only [athA, ne_eq] at h) <;> (try (exfalso; omega)))
      | (refine dgK_cases (fun h => ?_) (fun h => ?_) <;> (try simp only [h]) <;> (try simp only [athA, ne_eq] at h) <;> (try (exfalso; omega)))
      | refine hwp_draw mixed rfl ?_

    obtain rfl : i = A.length := by omega
    rw [List.take_length]
    refine congrArg HV.bool (decide_eq_decide.2 ?_)
    unfold ptotal
    omega
end Go.Proofs.Ytccfcegmaejlnaa
namespace Go.Proofs.Ytccfcegmaejlnaa
open Go Go.HL
set_option maxRecDepth 100000
set_option linter.unusedSimpArgs false
theorem lineAt_cut (s : List UInt8) : lineAt (cutF s) = none := by
  unfold cutF
  cases h : lineAt s with
  | none => exact h
  | some k => exact lineAt_before h
theorem lineAt_of_take : ∀ {b : List UInt8} {k n : Nat}, lineAt (b.take n) = some k → lineAt b = some k
  | [], k, n, h => by simp [lineAt] at h
  | c :: r, k, 0, h => by simp [lineAt] at h
  | c :: r, k, n + 1, h => by
    rw [List.take_succ_cons] at h
    have hle := lineAt_le h
    unfold lineAt at h ⊢
    split at h
    · rename_i hc
      cases h
      rw [if_pos ⟨hc.1, by
        cases r with
        | nil => simp at hc
        | cons d r =>
          cases n with
          | zero => simp at hc
          | succ n => simpa using hc.2⟩]
    · rename_i hc
      cases hr : lineAt (r.take n) with
      | none => rw [hr] at h; simp at h
      | some j =>
        rw [hr] at h
        have hj := lineAt_le hr
        rw [if_neg (by
          rintro ⟨h1, h2⟩
          refine hc ⟨h1, ?_⟩
          cases r with
          | nil => simp at h2
          | cons d r =>
            cases n with
            | zero => simp at hj
            | succ n => simpa using h2), lineAt_of_take hr]
        exact h
/-- a line, its end behind it. -/
theorem lineAt_line : ∀ {s r : List UInt8}, lineAt s = none → lineAt (s ++ 13 :: 10 :: r) = some s.length
  | [], r, _ => by simp [lineAt]
  | c :: s, r, h => by
    unfold lineAt at h
    split at h
    · cases h
    · rename_i hc
      have hn : lineAt s = none := by
        cases hs : lineAt s with
        | none => rfl
        | some k => rw [hs] at h; cases h
      rw [List.cons_append]
      unfold lineAt
      rw [if_neg (by
        rintro ⟨h1, h2⟩
        refine hc ⟨h1, ?_⟩
        cases s with
        | nil => simp at h2
        | cons d s => simpa using h2), lineAt_line hn]
      rfl
theorem skipL_some : ∀ {b : List UInt8} {k : Nat} (h : Bool), lineAt b = some k → (skipL h b).2.1 = true
  | [], k, h, e => by simp [lineAt] at e
  | c :: r, k, h, e => by
    unfold skipL
    split
    · rfl
    · unfold lineAt at e
      split at e
      · rename_i hc
        cases r with
        | nil => simp at hc
        | cons d r =>
          obtain ⟨rfl, hd⟩ := hc
          simp only [List.head?_cons, Option.some.injEq] at hd
          subst hd
          rfl
      · cases hr : lineAt r with
        | none => rw [hr] at e; cases e
        | some j => exact skipL_some _ hr
/-- at rest: nothing is held, a line comes next. -/
def rest (mn : Nat) (s : St) : Prop := s.most = mn ∧ s.st = 0 ∧ s.held = [] ∧ s.size ≤ 4294967295 ∧ s.left ≤ 4294967297
variable {mn : Nat} {s : St}
theorem feed_rest (h : rest mn s) (b : List UInt8) : feedF s b = { s with held := b } := by
  obtain ⟨_, h2, h3, _⟩ := h
  rw [feedF3 (.inl (by omega)) (by omega), h3, List.nil_append]
/-- a short line. -/
theorem next_line (h : rest mn s) {line r : List UInt8} (hl : lineAt line = none) (hs : line.length ≤ 222) : nextS { s with held := line ++ 13 :: 10 :: r } = (some ⟨1, line, []⟩, { s with held := r }) := by
  obtain ⟨_, h2, _⟩ := h
  have e := lineAt_take (lineAt_line (r := r) hl) (n := min 224 (line ++ 13 :: 10 :: r).length) (by simp; omega)
  unfold nextS
  rw [if_pos h2]
  simp only [e]
  have e1 : (line ++ 13 :: 10 :: r).take line.length = line := by simp
  have e2 : (line ++ 13 :: 10 :: r).drop (line.length + 2) = r := by
    rw [List.drop_append, List.drop_eq_nil_of_le (by omega), List.nil_append, show line.length + 2 - line.length = 2 by omega]; rfl
  rw [e1, e2]
  simp only [Prod.mk.injEq, true_and]
  rw [← h2]
/-- a long one. -/
theorem next_long (h : rest mn s) {line : List UInt8} (hl : lineAt line = none) (hs : 222 < line.length) : ∃ s', nextS { s with held := line ++ [13, 10] } = (some ⟨2, [], []⟩, s') ∧ rest mn s' := by
  obtain ⟨h1, h2, h3, h4, h5⟩ := h
  have e := lineAt_line (r := []) hl
  have hn : lineAt ((line ++ [13, 10]).take (min 224 (line ++ [13, 10]).length)) = none := by
    cases hh : lineAt ((line ++ [13, 10]).take (min 224 (line ++ [13, 10]).length)) with
    | none => rfl
    | some k =>
      have q := lineAt_of_take hh
      have q2 := lineAt_le hh
      rw [e] at q; cases q
      rw [List.length_take] at q2; omega
  have hend : (skipL false (line ++ [13, 10])).2.1 = true ∧ (skipL false (line ++ [13, 10])).2.2 = [] := by
    cases he : (skipL false (line ++ [13, 10])).2.1 with
    | true =>
      refine ⟨rfl, ?_⟩
      rcases skipL_line _ _ he with ⟨hf, _⟩ | ⟨_, k, q1, q2⟩
      · cases hf
      · rw [e] at q1; cases q1
        rw [q2]
        exact List.drop_eq_nil_of_le (by simp)
    | false =>
      exfalso
      have := skipL_some (b := line ++ [13, 10]) (k := line.length) false e
      rw [he] at this; cases this
  refine ⟨{ s with st := 0, half := (skipL false (line ++ [13, 10])).1, ended := true, held := (skipL false (line ++ [13, 10])).2.2 }, ?_, h1, rfl, hend.2, h4, h5⟩
  unfold nextS
  rw [if_pos h2]
  simp only [hn]
  rw [if_neg (by simp; omega), if_pos hend.1]

/-- a body, and two bytes behind it. -/
theorem next_body (h : rest mn s) (data : List UInt8) (e0 e1 : UInt8) (hd : data.length ≤ 4294967295) : ∃ s1 s', bodyS { s with held := data ++ [e0, e1] } (data.length : Nat) = (s1, 0) ∧ rest mn s' ∧ s1.held.length ≤ data.length + 2 ∧ s1.st ≤ 3 ∧ s1.size ≤ 4294967295 ∧ s1.left ≤ 4294967297 ∧
    nextS s1 = (some (if mn < data.length then ⟨4, [], []⟩ else if e0 = 13 ∧ e1 = 10 then ⟨3, [], data⟩ else ⟨5, [], []⟩), s') := by
  obtain ⟨h1, h2, h3, h4, h5⟩ := h
  by_cases hm : mn < data.length
  · refine ⟨{ s with st := 3, left := 0, held := [] }, { s with st := 0, left := 0, held := [] }, ?_, ⟨h1, rfl, rfl, h4, by simp⟩, by simp, by simp, h4, by simp, ?_⟩
    · unfold bodyS
      rw [if_neg (by simp only; omega), if_neg (by simp only; omega)]
      simp
    · rw [if_pos hm]
      unfold nextS
      rw [if_neg (by simp), if_neg (by simp), if_neg (by simp), if_neg (by simp)]
  · refine ⟨{ s with st := 2, size := data.length, held := data ++ [e0, e1] }, { s with st := 0, size := data.length, held := [] }, ?_, ⟨h1, rfl, rfl, hd, h5⟩, by simp, by simp, hd, h5, ?_⟩
    · unfold bodyS
      rw [if_neg (by simp only; omega), if_pos (by simp only; omega)]
      simp
    · rw [if_neg hm]
      unfold nextS
      rw [if_neg (by simp), if_neg (by simp), if_pos rfl]
      simp only
      rw [if_neg (by simp)]
      have t : (data ++ [e0, e1]).take (data.length + 2) = data ++ [e0, e1] := List.take_of_length_le (by simp)
      have d : (data ++ [e0, e1]).drop (data.length + 2) = [] := List.drop_eq_nil_of_le (by simp)
      have b : bodyF (data ++ [e0, e1]) data.length = if e0 = 13 ∧ e1 = 10 then (3, data) else (5, []) := by
        unfold bodyF
        have g0 : (data ++ [e0, e1])[data.length]? = some e0 := by simp
        have g1 : (data ++ [e0, e1])[data.length + 1]? = some e1 := by rw [List.getElem?_append_right (by omega)]; simp
        rw [g0, g1]
        simp
      rw [t, d, b]
      by_cases hc : e0 = 13 ∧ e1 = 10
      · rw [if_pos hc, if_pos hc]
      · rw [if_neg hc, if_neg hc]
/-- nothing more. -/
theorem next_rest (h : rest mn s) : nextS s = (none, s) := by
  obtain ⟨h1, h2, h3, _⟩ := h
  unfold nextS
  rw [if_pos h2, h3]
  simp [lineAt]
end Go.Proofs.Ytccfcegmaejlnaa
namespace Go.Proofs.Ytccfcegmaejlnaa
open Go Go.HL
set_option maxRecDepth 100000
set_option linter.unusedSimpArgs false
/-- behind the k-th line a body is awaited, if there is a number for it. -/
def bodyI (sizes : List Int) (k : Nat) (s : St) : St := match sizes[k]? with
  | some n => (bodyS s n).1
  | none => s
def goS (sizes : List Int) (k : Nat) (i : It) (s : St) : St := if i.kind = 1 then bodyI sizes k s else s
def goK (k : Nat) (i : It) : Nat := if i.kind = 1 then k + 1 else k
/-- all that is whole is told. -/
inductive Dr (sizes : List Int) : St → Nat → List It → St → Nat → Prop
  | stop {s s' : St} {k : Nat} : nextS s = (none, s') → Dr sizes s k [] s' k
  | step {s s' s2 : St} {k k2 : Nat} {i : It} {l : List It} : nextS s = (some i, s') → Dr sizes (goS sizes k i s') (goK k i) l s2 k2 → Dr sizes s k (i :: l) s2 k2
theorem Dr.det {sizes : List Int} {s s1 s2 : St} {k k1 k2 : Nat} {a b : List It} (h : Dr sizes s k a s1 k1) (h' : Dr sizes s k b s2 k2) : a = b ∧ s1 = s2 ∧ k1 = k2 := by
  induction h generalizing b s2 k2 with
  | stop e =>
    cases h' with
    | stop e' => rw [e] at e'; cases e'; exact ⟨rfl, rfl, rfl⟩
    | step e' _ => rw [e] at e'; cases e'
  | step e _ ih =>
    cases h' with
    | stop e' => rw [e] at e'; cases e'
    | step e' h2 =>
      rw [e] at e'; cases e'
      obtain ⟨h3, h4, h5⟩ := ih h2
      exact ⟨by rw [h3], h4, h5⟩
theorem Dr.same {sizes : List Int} {s t s2 : St} {k k2 : Nat} {l : List It} (e : nextS s = nextS t) (h : Dr sizes s k l s2 k2) : Dr sizes t k l s2 k2 := by
  cases h with
  | stop e' => exact .stop (by rw [← e]; exact e')
  | step e' h => exact .step (by rw [← e]; exact e') h
/-- what is not told yet: more bytes, before or behind. -/
theorem next_none {s s' : St} (h : nextS s = (none, s')) (b : List UInt8) : nextS (feedF s b) = nextS (feedF s' b) := by
  have h0 := h
  unfold nextS at h
  by_cases c0 : s.st = 0
  · rw [if_pos c0] at h
    cases hl : lineAt (s.held.take (min 224 s.held.length)) with
    | some k => rw [hl] at h; simp at h
    | none =>
      rw [hl] at h
      simp only at h
      by_cases hlen : s.held.length < 224
      · rw [if_pos hlen] at h; cases h; rfl
      · rw [if_neg hlen] at h
        by_cases he : (skipL false s.held).2.1 = true
        · rw [if_pos he] at h; cases h
        · rw [if_neg he] at h
          have he : (skipL false s.held).2.1 = false := by simpa using he
          have hn := skipL_none s.held false he
          cases h
          rw [feedF3 (s := s) (.inl (by omega)) (by omega)]
          rw [feedF1 (s := { s with st := 1, half := (skipL false s.held).1, ended := false, held := (skipL false s.held).2.2 }) rfl rfl]
          have ha := skipL_app0 s.held b false he
          have e1 : (s.held ++ b).take (min 224 (s.held ++ b).length) = s.held.take (min 224 s.held.length) := by
            rw [List.length_append, Nat.min_eq_left (by omega), Nat.min_eq_left (by omega), List.take_append_of_le_length (by omega)]
          simp only [hn, List.nil_append]
          have l : nextS { s with held := s.held ++ b } = if (skipL false (s.held ++ b)).2.1 = true then (some ⟨2, [], []⟩, { s with st := 0, half := (skipL false (s.held ++ b)).1, ended := true, held := (skipL false (s.held ++ b)).2.2 })
              else (none, { s with st := 1, half := (skipL false (s.held ++ b)).1, ended := false, held := (skipL false (s.held ++ b)).2.2 }) := by
            unfold nextS
            rw [if_pos c0]
            simp only [e1, hl]
            rw [if_neg (by simp; omega)]
          rw [l, ha]
          have l2 : ∀ t : St, t.st = 1 → nextS t = if t.ended = true then (some ⟨2, [], []⟩, { t with st := 0 }) else (none, t) := by
            intro t ht
            unfold nextS
            rw [if_neg (by omega), if_pos ht]
          rw [l2 _ rfl]
          simp only
          by_cases hb : (skipL (skipL false s.held).1 b).2.1 = true
          · rw [if_pos hb, if_pos hb, hb]
          · rw [if_neg hb, if_neg hb]
            have hb : (skipL (skipL false s.held).1 b).2.1 = false := by simpa using hb
            rw [hb]
  · rw [if_neg c0] at h
    by_cases c1 : s.st = 1
    · rw [if_pos c1] at h
      split at h
      · cases h
      · cases h; rfl
    · rw [if_neg c1] at h
      by_cases c2 : s.st = 2
      · rw [if_pos c2] at h
        split at h
        · cases h; rfl
        · cases h
      · rw [if_neg c2] at h
        split at h
        · cases h; rfl
        · cases h
/-- what is told is told, whatever comes behind. -/
theorem next_some {s s' : St} {i : It} (h : nextS s = (some i, s')) (b : List UInt8) : nextS (feedF s b) = (some i, feedF s' b) ∧ s'.st = 0 := by
  unfold nextS at h
  by_cases c0 : s.st = 0
  · rw [if_pos c0] at h
    rw [feedF3 (s := s) (.inl (by omega)) (by omega)]
    cases hl : lineAt (s.held.take (min 224 s.held.length)) with
    | some k =>
      rw [hl] at h
      have hk := lineAt_le hl
      rw [List.length_take] at hk
      have e1 : lineAt ((s.held ++ b).take (min 224 (s.held ++ b).length)) = some k := by
        have := lineAt_of_take hl
        have h2 : lineAt (s.held ++ b) = some k := by
          have h3 : s.held = (s.held ++ b).take s.held.length := by simp
          rw [h3] at this
          exact lineAt_of_take this
        exact lineAt_take h2 (by rw [List.length_append]; omega)
      simp only [Prod.mk.injEq, Option.some.injEq] at h
      obtain ⟨rfl, rfl⟩ := h
      refine ⟨?_, rfl⟩
      rw [feedF3 (.inl (by simp)) (by simp)]
      unfold nextS
      rw [if_pos c0]
      simp only [e1]
      rw [List.take_append_of_le_length (by omega), List.drop_append_of_le_length (by omega)]
    | none =>
      rw [hl] at h
      simp only at h
      by_cases hlen : s.held.length < 224
      · rw [if_pos hlen] at h; cases h
      · rw [if_neg hlen] at h
        by_cases he : (skipL false s.held).2.1 = true
        · rw [if_pos he] at h
          simp only [Prod.mk.injEq, Option.some.injEq] at h
          obtain ⟨rfl, rfl⟩ := h
          refine ⟨?_, rfl⟩
          rw [feedF3 (.inl (by simp)) (by simp)]
          have e1 : (s.held ++ b).take (min 224 (s.held ++ b).length) = s.held.take (min 224 s.held.length) := by
            rw [List.length_append, Nat.min_eq_left (by omega), Nat.min_eq_left (by omega), List.take_append_of_le_length (by omega)]
          unfold nextS
          rw [if_pos c0]
          simp only [e1, hl]
          rw [if_neg (by simp; omega), skipL_app1 s.held b false he]
          simp
        · rw [if_neg he] at h; cases h
  · rw [if_neg c0] at h
    by_cases c1 : s.st = 1
    · rw [if_pos c1] at h
      by_cases he : s.ended = true
      · rw [if_pos he] at h
        simp only [Prod.mk.injEq, Option.some.injEq] at h
        obtain ⟨rfl, rfl⟩ := h
        refine ⟨?_, rfl⟩
        rw [feedF3 (s := s) (.inr he) (by omega), feedF3 (.inl (by simp)) (by simp)]
        unfold nextS
        rw [if_neg (by simp only; omega), if_pos c1, if_pos he]
      · rw [if_neg he] at h; cases h
    · rw [if_neg c1] at h
      by_cases c2 : s.st = 2
      · rw [if_pos c2] at h
        by_cases hlen : s.held.length < s.size + 2
        · rw [if_pos hlen] at h; cases h
        · rw [if_neg hlen] at h
          simp only [Prod.mk.injEq, Option.some.injEq] at h
          obtain ⟨rfl, rfl⟩ := h
          refine ⟨?_, rfl⟩
          rw [feedF3 (s := s) (.inl c1) (by omega), feedF3 (.inl (by simp)) (by simp)]
          unfold nextS
          rw [if_neg (by simp only; omega), if_neg (by simp only; omega), if_pos c2]
          simp only
          rw [if_neg (by rw [List.length_append]; omega), List.take_append_of_le_length (by omega), List.drop_append_of_le_length (by omega)]
      · rw [if_neg c2] at h
        by_cases hl : 0 < s.left
        · rw [if_pos hl] at h; cases h
        · rw [if_neg hl] at h
          simp only [Prod.mk.injEq, Option.some.injEq] at h
          obtain ⟨rfl, rfl⟩ := h
          refine ⟨?_, rfl⟩
          have e0 : s.left = 0 := by omega
          have e1 : feedF s b = { s with held := s.held ++ b } := by
            by_cases c3 : s.st = 3
            · rw [feedF2 c3, e0]
              simp [e0]
            · rw [feedF3 (.inl c1) c3]
          rw [e1, feedF3 (.inl (by simp)) (by simp)]
          unfold nextS
          rw [if_neg (by simp only; omega), if_neg (by simp only; omega), if_neg (by simp only; omega), if_neg (by simp only; omega)]
theorem bodyS_bad {s : St} {n : Int} (h : n < 0 ∨ 4294967295 < n ∨ s.st ≠ 0) : (bodyS s n).1 = s := by
  unfold bodyS
  rw [if_pos h]
theorem bodyS_fit {s : St} {n : Int} (h : ¬ (n < 0 ∨ 4294967295 < n ∨ s.st ≠ 0)) (h2 : n ≤ (s.most : Nat)) : (bodyS s n).1 = { s with st := 2, size := n.toNat } := by
  unfold bodyS
  rw [if_neg h, if_pos h2]
theorem bodyS_big {s : St} {n : Int} (h : ¬ (n < 0 ∨ 4294967295 < n ∨ s.st ≠ 0)) (h2 : ¬ n ≤ (s.most : Nat)) : (bodyS s n).1 = { s with st := 3, left := n.toNat + 2 - min (n.toNat + 2) s.held.length, held := s.held.drop (min (n.toNat + 2) s.held.length) } := by
  unfold bodyS
  rw [if_neg h, if_neg h2]
theorem body_feed {s : St} (h : s.st = 0) (n : Int) (b : List UInt8) : (bodyS (feedF s b) n).1 = feedF (bodyS s n).1 b := by
  rw [feedF3 (s := s) (.inl (by omega)) (by omega)]
  by_cases c : n < 0 ∨ 4294967295 < n
  · rw [bodyS_bad (by omega), bodyS_bad (s := s) (by omega), feedF3 (s := s) (.inl (by omega)) (by omega)]
  · by_cases c2 : n ≤ (s.most : Nat)
    · rw [bodyS_fit (s := { s with held := s.held ++ b }) (by simp only; omega) c2, bodyS_fit (s := s) (by omega) c2, feedF3 (.inl (by simp)) (by simp)]
    · rw [bodyS_big (s := { s with held := s.held ++ b }) (by simp only; omega) c2, bodyS_big (s := s) (by omega) c2, feedF2 rfl]
      simp only [List.length_append]
      simp only [St.mk.injEq, and_true, true_and]
      refine ⟨?_, ?_⟩
      · generalize n.toNat + 2 = N
        rw [List.drop_append]
        by_cases hl : N ≤ s.held.length
        · have e1 : min N (s.held.length + b.length) - s.held.length = min (N - min N s.held.length) b.length := by omega
          rw [e1, Nat.min_eq_left (show N ≤ s.held.length + b.length by omega), Nat.min_eq_left hl]
        · have e1 : s.held.drop (min N (s.held.length + b.length)) = [] := List.drop_eq_nil_of_le (by omega)
          have e2 : s.held.drop (min N s.held.length) = [] := List.drop_eq_nil_of_le (by omega)
          have e3 : min N (s.held.length + b.length) - s.held.length = min (N - min N s.held.length) b.length := by omega
          rw [e1, e2, e3]
      · omega
theorem goS_feed {sizes : List Int} {k : Nat} {i : It} {s : St} (h : s.st = 0) (b : List UInt8) : goS sizes k i (feedF s b) = feedF (goS sizes k i s) b := by
  unfold goS bodyI
  split
  · split
    · exact body_feed h _ b
    · rfl
  · rfl
/-- told in between, or not. -/
theorem Dr.join {sizes : List Int} {s s1 s2 : St} {k k1 k2 : Nat} {a c : List It} {b : List UInt8} (h : Dr sizes s k a s1 k1) (h' : Dr sizes (feedF s1 b) k1 c s2 k2) : Dr sizes (feedF s b) k (a ++ c) s2 k2 := by
  induction h with
  | stop e => exact h'.same (next_none e b).symm
  | step e _ ih =>
    obtain ⟨e1, e2⟩ := next_some e b
    refine .step e1 ?_
    rw [goS_feed e2]
    exact ih h'
/-- how much there is to do. -/
def todo (s : St) : Nat := 2 * s.held.length + (if s.st = 0 then 0 else 1)
theorem bodyI_todo {sizes : List Int} {k : Nat} {s : St} : todo (bodyI sizes k s) ≤ 2 * s.held.length + 1 := by
  unfold bodyI todo
  split
  · unfold bodyS
    split
    · simp only; split <;> omega
    · split
      · simp only; split <;> omega
      · simp only [List.length_drop]; split <;> omega
  · split <;> omega
theorem next_less {sizes : List Int} {k : Nat} {s s' : St} {i : It} (h : nextS s = (some i, s')) : todo (goS sizes k i s') < todo s := by
  have key : 2 * s'.held.length + (if i.kind = 1 then 1 else if s'.st = 0 then 0 else 1) < todo s := by
    unfold nextS at h
    unfold todo
    by_cases c0 : s.st = 0
    · rw [if_pos c0] at h ⊢
      cases hl : lineAt (s.held.take (min 224 s.held.length)) with
      | some k =>
        rw [hl] at h
        have hk := lineAt_le hl
        rw [List.length_take] at hk
        simp only [Prod.mk.injEq, Option.some.injEq] at h
        obtain ⟨rfl, rfl⟩ := h
        simp; omega
      | none =>
        rw [hl] at h
        simp only at h
        by_cases hlen : s.held.length < 224
        · rw [if_pos hlen] at h; cases h
        · rw [if_neg hlen] at h
          by_cases he : (skipL false s.held).2.1 = true
          · rw [if_pos he] at h
            have := skipL_one he
            simp only [Prod.mk.injEq, Option.some.injEq] at h
            obtain ⟨rfl, rfl⟩ := h
            simp; omega
          · rw [if_neg he] at h; cases h
    · rw [if_neg c0] at h ⊢
      by_cases c1 : s.st = 1
      · rw [if_pos c1] at h
        split at h
        · simp only [Prod.mk.injEq, Option.some.injEq] at h
          obtain ⟨rfl, rfl⟩ := h
          simp
        · cases h
      · rw [if_neg c1] at h
        by_cases c2 : s.st = 2
        · rw [if_pos c2] at h
          split at h
          · cases h
          · simp only [Prod.mk.injEq, Option.some.injEq] at h
            obtain ⟨rfl, rfl⟩ := h
            simp only [List.length_drop]
            split <;> simp <;> omega
        · rw [if_neg c2] at h
          split at h
          · cases h
          · simp only [Prod.mk.injEq, Option.some.injEq] at h
            obtain ⟨rfl, rfl⟩ := h
            simp
  unfold goS
  split
  · rename_i hk
    rw [if_pos hk] at key
    have := bodyI_todo (sizes := sizes) (k := k) (s := s')
    omega
  · rename_i hk
    rw [if_neg hk] at key
    unfold todo
    exact key
end Go.Proofs.Ytccfcegmaejlnaa
namespace Go.Proofs.Ytccfcegmaejlnaa
open Go Go.HL
set_option maxRecDepth 100000
set_option maxHeartbeats 40000000
set_option linter.unusedSimpArgs false
attribute [local irreducible] pt My Ex Vw Gr GrK each grp exs Sat takeCells happend hbuildSlice hstore hbox hslice hmakeSlice hs2b hcopy HL.unit opC
theorem ok19 : okF Try.prog 19 := ⟨_, Try.func19, by kernel_rfl, by kernel_rfl⟩
/-- an item that is laid by. -/
structure IE where
  w : HV
  it : It
def IE.cells (e : IE) : List HV := [.int .i64 e.it.kind, .str e.it.text, e.w]
def IE.P (e : IE) : SA := Ex 1 e.w e.it.body.length (bcells e.it.body)
def RdrP (q p : Nat) (sz : HV) (k : Nat) (L : List IE) : SA := exs fun vi => grp [pt q (.cells 1 [.ptr p 0, sz, .int .i64 (k : Nat), vi] false false []), My 3 vi L.length (L.flatMap IE.cells), each IE.P L]
theorem rdr_open {hs : HS} {l : List SA} {q p k : Nat} {sz : HV} {L : List IE} : Sat hs (RdrP q p sz k L :: l) ↔ ∃ vi, Sat hs (pt q (.cells 1 [.ptr p 0, sz, .int .i64 (k : Nat), vi] false false []) :: My 3 vi L.length (L.flatMap IE.cells) :: each IE.P L :: l) := by
  unfold RdrP
  rw [Sat.exs_iff]
  exact exists_congr fun v => Sat.grp_iff (l1 := [_, _, _])
theorem item_fill {k : Int} {t : List UInt8} {w : HV} (h : w.one = true) : hfill [.int .i64 0, .str [], .nilSlice] [(0, 3, .agg [.int .i64 k, .str t, w])] = some [.int .i64 k, .str t, w] := by
  rw [hf_agg (n := 3) (by simp only [List.all_cons, List.all_nil, on_int, on_str, h, Bool.and_self]) rfl (by decide)]; rfl
theorem rdr_snoc {hs : HS} {l : List SA} {q p k : Nat} {sz vi : HV} {L : List IE} {e : IE} (H : Sat hs (pt q (.cells 1 [.ptr p 0, sz, .int .i64 (k : Nat), vi] false false []) :: My 3 vi (L.length + 1) (L.flatMap IE.cells ++ e.cells) :: Ex 1 e.w e.it.body.length (bcells e.it.body) :: each IE.P L :: l)) :
    Sat hs (RdrP q p sz k (L ++ [e]) :: l) := by
  have h : Sat hs (each IE.P (L ++ [e]) :: _) := Sat.each_snoc.2 H.p1.p1.p3.p3
  refine rdr_open.2 ⟨vi, ?_⟩
  rw [List.length_append, List.length_singleton, List.flatMap_append, List.flatMap_singleton]
  exact h.p2.p2
theorem body_fit {s : St} (sizes : List Int) (k : Nat) (i : It) (h : s.st ≤ 3 ∧ s.size ≤ 4294967295 ∧ s.left ≤ 4294967297) : (goS sizes k i s).st ≤ 3 ∧ (goS sizes k i s).size ≤ 4294967295 ∧ (goS sizes k i s).left ≤ 4294967297 ∧ (goS sizes k i s).held.length ≤ s.held.length := by
  unfold goS bodyI bodyS
  split
  · split
    · split
      · simp only; omega
      · split
        · simp only; omega
        · simp only [List.length_drop]; omega
    · omega
  · omega
theorem next_size (s : St) : (nextS s).2.held.length ≤ s.held.length ∧ ((nextS s).2.st ≤ 1 ∨ (nextS s).2.st = s.st) ∧ (nextS s).2.size = s.size ∧ (nextS s).2.left = s.left ∧ (itB (nextS s).1).length ≤ s.held.length := by
  unfold nextS
  split
  · split
    · simp [itB]
    · split
      · simp [itB]
      · have := skipL_len false s.held
        split
        · simp [itB]; omega
        · simp [itB]; omega
  · split
    · split
      · simp [itB]
      · simp [itB]
    · split
      · split
        · simp [itB]
        · simp only [itB, List.length_drop]
          refine ⟨by omega, by simp, by trivial, by trivial, ?_⟩
          unfold bodyF
          split
          · simp; omega
          · simp
      · split
        · simp [itB]
        · simp [itB]
theorem drain19 {hs : HS} {l : List SA} {q p k : Nat} {sz : HV} {L : List IE} {s : St} {sizes : List Int} (H : Sat hs (RdrP q p sz k L :: InP p s :: l)) (G : ∀ hs, Sat hs l → hs[0]? = some (some (HB.gint 0))) (RS : Rdl l sz sizes.length (sizes.map (HV.int .i64)))
    (hh : s.held.length < 1073741824) (hf : s.st ≤ 3 ∧ s.size ≤ 4294967295 ∧ s.left ≤ 4294967297) (hk : k + todo s < 1099511627776) (hL : L.length + todo s < 1099511627776) :
    HC Try.prog 19 [.ptr q 0] hs fun _ hs' => ∃ L' s' k', Dr sizes s k (L'.map IE.it) s' k' ∧ (s'.held.length ≤ s.held.length ∧ (s'.st ≤ 3 ∧ s'.size ≤ 4294967295 ∧ s'.left ≤ 4294967297) ∧ k' + todo s' ≤ k + todo s ∧ L'.length + todo s' ≤ todo s ∧ ∀ e ∈ L', e.it.body.length < 1073741824) ∧ Sat hs' (RdrP q p sz k' (L ++ L') :: InP p s' :: l) := by
  have hmax : maxLen = 9223372036854775807 := rfl
  refine HC.wp mixed Try.func19 c19 ?_
  have R0 := RS _ H.t.t
  have sone := R0.one
  have scel := R0.cells
  have lsz := R0.len
  first | have f0 := Sat.pf (H) | have f0 := trivial
  first | have f1 := Sat.pf (H.t) | have f1 := trivial
  first | have f2 := Sat.pf (H.t.t) | have f2 := trivial
  first | have f3 := Sat.pf (H.t.t.t) | have f3 := trivial
  first | have f4 := Sat.pf (H.t.t.t.t) | have f4 := trivial
  first | have f5 := Sat.pf (H.t.t.t.t.t) | have f5 := trivial
  first | have f6 := Sat.pf (H.t.t.t.t.t.t) | have f6 := trivial
  first | have f7 := Sat.pf (H.t.t.t.t.t.t.t) | have f7 := trivial
  first | have f8 := Sat.pf (H.t.t.t.t.t.t.t.t) | have f8 := trivial
  first | have f9 := Sat.pf (H.t.t.t.t.t.t.t.t.t) | have f9 := trivial
  first | have f10 := Sat.pf (H.t.t.t.t.t.t.t.t.t.t) | have f10 := trivial
  first | have f11 := Sat.pf (H.t.t.t.t.t.t.t.t.t.t.t) | have f11 := trivial
  repeat' first
    | ((with_reducible show Need _); refine need_of ?_; (first | have f0 := Sat.pf (H) | have f0 := trivial); (first | have f1 := Sat.pf (H.t) | have f1 := trivial); (first | have f2 := Sat.pf (H.t.t) | have f2 := trivial); (first | have f3 := Sat.pf (H.t.t.t) | have f3 := trivial); (first | have f4 := Sat.pf (H.t.t.t.t) | have f4 := trivial); (first | have f5 := Sat.pf (H.t.t.t.t.t) | have f5 := trivial); (first | have f6 := Sat.pf (H.t.t.t.t.t.t) | have f6 := trivial); (first | have f7 := Sat.pf (H.t.t.t.t.t.t.t) | have f7 := trivial); (first | have f8 := Sat.pf (H.t.t.t.t.t.t.t.t) | have f8 := trivial); (first | have f9 := Sat.pf (H.t.t.t.t.t.t.t.t.t) | have f9 := trivial); (first | have f10 := Sat.pf (H.t.t.t.t.t.t.t.t.t.t) | have f10 := trivial); (first | have f11 := Sat.pf (H.t.t.t.t.t.t.t.t.t.t.t) | have f11 := trivial))
    | simp -implicitDefEqProofs (disch := first | omega | decide | exact rfl | assumption | exact Nat.le_of_ble_eq_true rfl | exact One.c | exact One.o) only [vsA, vsB, eq_self, if_true, if_false, implies_true, false_implies, evp, HX.ev, Nat.reduceAdd, HOp.looks, Nat.reduceEqDiff, overw, Nat.reduceBEq, h19, ub19, f0, f1, f2, f3, f4, f5, f6, f7, f8, f9, f10, f11, frame0, List.replicate, Nat.sub]
    | (refine condK_cases (fun h => ?_) (fun h => ?_) <;> (try simp only [h]) <;> (try simp only [athA, ne_eq] at h) <;> (try (exfalso; omega)))
    | (refine guardK_cases (fun h => ?_) (fun h => ?_) <;> (try simp only [h]) <;> (try simp only [athA, ne_eq] at h) <;> (try (exfalso; omega)))
    | (refine dgK_cases (fun h => ?_) (fun h => ?_) <;> (try simp only [h]) <;> (try simp only [athA, ne_eq] at h) <;> (try (exfalso; omega)))
    | (clear H f0 f1 f2 f3 f4 f5 f6 f7 f8 f9 f10 f11; (with_reducible intro v2 hs H); (try simp only [setA, overw, Nat.reduceAdd] at H); refine need ?_)
    | refine opC_K ?_
    | refine opC_D ?_
    | ((with_reducible show opC (unit (hstore _ _ _ _)) _); refine sl_store1 (by with_reducible first | exact H | exact H.p1 | exact H.p2 | exact H.p3 | exact H.p4 | exact H.p5 | exact H.p6 | exact H.p7 | exact H.p8 | exact H.p9 | exact H.p10 | exact H.p11) (Nat.le_of_ble_eq_true rfl) (by first | exact rfl | (simp only [f0, f1, f2, f3, f4, f5, f6, f7, f8, f9, f10, f11]; done) | (simp only [onA, *]; done)) (by first | exact rfl | (simp only [f0, f1, f2, f3, f4, f5, f6, f7, f8, f9, f10, f11]; done) | (simp only [onA, *]; done)) ?_)
    | ((with_reducible show opC (unit (hstore _ _ _ _)) _); refine sl_storeN (by with_reducible first | exact H | exact H.p1 | exact H.p2 | exact H.p3 | exact H.p4 | exact H.p5 | exact H.p6 | exact H.p7 | exact H.p8 | exact H.p9 | exact H.p10 | exact H.p11) rfl (Nat.le_of_ble_eq_true rfl) (by first | exact rfl | (simp only [f0, f1, f2, f3, f4, f5, f6, f7, f8, f9, f10, f11]; done) | (simp only [onA, *]; done)) ?_)
    | ((with_reducible show opC (happend _ _ _ _ _) _); refine sl_append (by with_reducible first | exact H | exact H.p1 | exact H.p2 | exact H.p3 | exact H.p4 | exact H.p5 | exact H.p6 | exact H.p7 | exact H.p8 | exact H.p9 | exact H.p10 | exact H.p11) (by first | assumption | with_reducible first | exact f0.2.1 | exact f1.2.1 | exact f2.2.1 | exact f3.2.1 | exact f4.2.1 | exact f5.2.1 | exact f6.2.1 | exact f7.2.1 | exact f8.2.1 | exact f9.2.1 | exact f10.2.1 | exact f11.2.1 | exact va_takeS) (by first | exact roomFor_of (by omega) | exact roomFor_wide (by omega)) (by omega) ?_)
    | ((with_reducible show opC (happend _ _ _ _ _) _); refine sl_append0X H (by first | assumption | with_reducible first | exact f0.2.1 | exact f1.2.1 | exact f2.2.1 | exact f3.2.1 | exact f4.2.1 | exact f5.2.1 | exact f6.2.1 | exact f7.2.1 | exact f8.2.1 | exact f9.2.1 | exact f10.2.1 | exact f11.2.1 | exact va_takeS) (by first | exact roomFor_of (by omega) | exact roomFor_wide (by omega)) (by omega) ?_)
    | ((with_reducible show opC (happend _ _ _ _ _) _); refine sl_appendX (by with_reducible first | exact H | exact H.p1 | exact H.p2 | exact H.p3 | exact H.p4 | exact H.p5 | exact H.p6 | exact H.p7 | exact H.p8 | exact H.p9 | exact H.p10 | exact H.p11) (by first | assumption | with_reducible first | exact f0.2.1 | exact f1.2.1 | exact f2.2.1 | exact f3.2.1 | exact f4.2.1 | exact f5.2.1 | exact f6.2.1 | exact f7.2.1 | exact f8.2.1 | exact f9.2.1 | exact f10.2.1 | exact f11.2.1 | exact va_takeS) (by first | exact roomFor_of (by omega) | exact roomFor_wide (by omega)) (by omega) ?_)
    | ((with_reducible show opC (hbuildSlice _ _ _ _ _) _); refine sl_bslice1 H rfl (by first | exact rfl | (simp only [f0, f1, f2, f3, f4, f5, f6, f7, f8, f9, f10, f11]; done) | (simp only [onA, *]; done)) (by first | exact rfl | (simp only [f0, f1, f2, f3, f4, f5, f6, f7, f8, f9, f10, f11]; done) | (simp only [onA, *]; done)) ?_)
    | ((with_reducible show opC (hbox _ _) _); refine sl_box1 H (by first | exact rfl | (simp only [f0, f1, f2, f3, f4, f5, f6, f7, f8, f9, f10, f11]; done) | (simp only [onA, *]; done)) (by first | exact rfl | (simp only [f0, f1, f2, f3, f4, f5, f6, f7, f8, f9, f10, f11]; done) | (simp only [onA, *]; done)) ?_)
    | ((with_reducible show opC (hbox _ _) _); refine sl_boxA H (by first | exact rfl | (simp only [f0, f1, f2, f3, f4, f5, f6, f7, f8, f9, f10, f11]; done) | (simp only [onA, *]; done)) ?_)
    | refine hwp_draw mixed rfl ?_
    | with_reducible intro hy

  refine HW.loopA mixed (fun t : St × Nat × List IE => (.ptr q 0 :: .undef :: .undef :: .undef :: .undef :: .undef :: .undef :: .undef :: .undef :: .undef :: .undef :: .undef :: .undef :: .undef :: .undef :: .undef :: .undef :: .undef :: .undef :: .undef :: .undef :: .undef :: .undef :: .undef :: .undef :: .undef :: .undef :: .undef :: .undef :: .undef :: .undef :: .undef :: .undef :: .undef :: .undef :: .undef :: .undef :: .undef :: .undef :: .undef :: .undef :: .undef :: .undef :: .undef :: .undef :: .undef :: .undef :: .undef :: .undef :: .undef :: .undef :: .undef :: .undef :: .undef :: .undef :: .undef :: .undef :: .undef :: .undef :: [])) (fun t => RdrP q p sz t.2.1 (L ++ t.2.2) :: InP p t.1 :: l) (fun t => todo t.1)
    (fun t => (∀ its s2 k2, Dr sizes t.1 t.2.1 its s2 k2 → Dr sizes s k (t.2.2.map IE.it ++ its) s2 k2) ∧ t.1.held.length ≤ s.held.length ∧ (t.1.st ≤ 3 ∧ t.1.size ≤ 4294967295 ∧ t.1.left ≤ 4294967297) ∧ t.2.1 + todo t.1 ≤ k + todo s ∧ t.2.2.length + todo t.1 ≤ todo s ∧ ∀ e ∈ t.2.2, e.it.body.length < 1073741824)
    (s, k, []) ⟨fun _ _ _ h => h, Nat.le_refl _, hf, Nat.le_refl _, by simp, by simp⟩ (by (repeat first | exact Less.nil | refine Less.undef _ ?_ | refine Less.keep _ ?_)) (by simp only [List.append_nil]; exact H) ?_
  clear H
  rintro ⟨t, j, L'⟩ hs ⟨hD, ht, hf, hj, hl, hbo⟩ H
  simp only at hD ht hf hj hl hbo H
  obtain ⟨vi, H1⟩ := rdr_open.1 H
  clear H
  have H := H1
  clear H1
  have ns := next_size t
  have o1 := True.intro
  have o2 := True.intro
  have hfil := True.intro
  have so := (RS _ H.t.t.t.t).sOk
  have hle : (L ++ L').length = L.length + L'.length := by simp
  cases hnx : nextS t with
  | mk o t2 =>
    rw [hnx] at ns
    simp only at ns
    cases o with
    | none =>
      first | have f0 := Sat.pf (H) | have f0 := trivial
      first | have f1 := Sat.pf (H.t) | have f1 := trivial
      first | have f2 := Sat.pf (H.t.t) | have f2 := trivial
      first | have f3 := Sat.pf (H.t.t.t) | have f3 := trivial
      first | have f4 := Sat.pf (H.t.t.t.t) | have f4 := trivial
      first | have f5 := Sat.pf (H.t.t.t.t.t) | have f5 := trivial
      first | have f6 := Sat.pf (H.t.t.t.t.t.t) | have f6 := trivial
      first | have f7 := Sat.pf (H.t.t.t.t.t.t.t) | have f7 := trivial
      first | have f8 := Sat.pf (H.t.t.t.t.t.t.t.t) | have f8 := trivial
      first | have f9 := Sat.pf (H.t.t.t.t.t.t.t.t.t) | have f9 := trivial
      first | have f10 := Sat.pf (H.t.t.t.t.t.t.t.t.t.t) | have f10 := trivial
      first | have f11 := Sat.pf (H.t.t.t.t.t.t.t.t.t.t.t) | have f11 := trivial
      repeat' first
        | ((with_reducible show Need _); refine need_of ?_; (first | have f0 := Sat.pf (H) | have f0 := trivial); (first | have f1 := Sat.pf (H.t) | have f1 := trivial); (first | have f2 := Sat.pf (H.t.t) | have f2 := trivial); (first | have f3 := Sat.pf (H.t.t.t) | have f3 := trivial); (first | have f4 := Sat.pf (H.t.t.t.t) | have f4 := trivial); (first | have f5 := Sat.pf (H.t.t.t.t.t) | have f5 := trivial); (first | have f6 := Sat.pf (H.t.t.t.t.t.t) | have f6 := trivial); (first | have f7 := Sat.pf (H.t.t.t.t.t.t.t) | have f7 := trivial); (first | have f8 := Sat.pf (H.t.t.t.t.t.t.t.t) | have f8 := trivial); (first | have f9 := Sat.pf (H.t.t.t.t.t.t.t.t.t) | have f9 := trivial); (first | have f10 := Sat.pf (H.t.t.t.t.t.t.t.t.t.t) | have f10 := trivial); (first | have f11 := Sat.pf (H.t.t.t.t.t.t.t.t.t.t.t) | have f11 := trivial))
        | simp -implicitDefEqProofs (disch := first | omega | decide | exact rfl | assumption | exact Nat.le_of_ble_eq_true rfl | exact One.c | exact One.o) only [vsA, vsB, eq_self, if_true, if_false, implies_true, false_implies, evp, HX.ev, Nat.reduceAdd, HOp.looks, Nat.reduceEqDiff, overw, Nat.reduceBEq, va_loadA, va_ldA, ub19, f0, f1, f2, f3, f4, f5, f6, f7, f8, f9, f10, f11]
        | (refine condK_cases (fun h => ?_) (fun h => ?_) <;> (try simp only [h]) <;> (try simp only [athA, ne_eq] at h) <;> (try (exfalso; omega)))
        | (refine guardK_cases (fun h => ?_) (fun h => ?_) <;> (try simp only [h]) <;> (try simp only [athA, ne_eq] at h) <;> (try (exfalso; omega)))
        | (refine dgK_cases (fun h => ?_) (fun h => ?_) <;> (try simp only [h]) <;> (try simp only [athA, ne_eq] at h) <;> (try (exfalso; omega)))
        | (clear H f0 f1 f2 f3 f4 f5 f6 f7 f8 f9 f10 f11; (with_reducible intro v2 hs H); (try simp only [setA, overw, Nat.reduceAdd] at H); refine need ?_)
        | ((with_reducible show actK _ (HAct.call (HX.cst (HV.func (Fn.func 26) _ _)) _) _ _ _ _ _); refine vcall_of ok26 rfl (next26 (p := p) (s := t) (by with_reducible first | exact H | exact H.p1 | exact H.p2 | exact H.p3 | exact H.p4 | exact H.p5 | exact H.p6 | exact H.p7 | exact H.p8 | exact H.p9 | exact H.p10 | exact H.p11) (fun _ h => G _ h.t.t.t) (by omega) (by omega) (by omega) (by omega)) ?_;  clear H f0 f1 f2 f3 f4 f5 f6 f7 f8 f9 f10 f11; rintro v hs ⟨w, rfl, H⟩; rw [hnx] at H; simp only [hnx, itV, itB] at H ⊢; refine need ?_)
        | ((with_reducible show drK _ _ _ _ _ _ _ _ _ (some ⟨_, HAct.call (HX.cst (HV.func (Fn.func 26) _ _)) _, none⟩)); refine vdr_call ok26 rfl (next26 (p := p) (s := t) (by with_reducible first | exact H | exact H.p1 | exact H.p2 | exact H.p3 | exact H.p4 | exact H.p5 | exact H.p6 | exact H.p7 | exact H.p8 | exact H.p9 | exact H.p10 | exact H.p11) (fun _ h => G _ h.t.t.t) (by omega) (by omega) (by omega) (by omega)) ?_;  clear H f0 f1 f2 f3 f4 f5 f6 f7 f8 f9 f10 f11; rintro v hs ⟨w, rfl, H⟩; rw [hnx] at H; simp only [hnx, itV, itB] at H ⊢; refine need ?_)
        | refine opC_K ?_
        | refine opC_D ?_
        | ((with_reducible show opC (unit (hstore _ _ _ _)) _); refine sl_store1 (by with_reducible first | exact H | exact H.p1 | exact H.p2 | exact H.p3 | exact H.p4 | exact H.p5 | exact H.p6 | exact H.p7 | exact H.p8 | exact H.p9 | exact H.p10 | exact H.p11) (Nat.le_of_ble_eq_true rfl) (by first | exact rfl | (simp only [f0, f1, f2, f3, f4, f5, f6, f7, f8, f9, f10, f11]; done) | (simp only [onA, *]; done)) (by first | exact rfl | (simp only [f0, f1, f2, f3, f4, f5, f6, f7, f8, f9, f10, f11]; done) | (simp only [onA, *]; done)) ?_)
        | ((with_reducible show opC (unit (hstore _ _ _ _)) _); refine sl_storeN (by with_reducible first | exact H | exact H.p1 | exact H.p2 | exact H.p3 | exact H.p4 | exact H.p5 | exact H.p6 | exact H.p7 | exact H.p8 | exact H.p9 | exact H.p10 | exact H.p11) rfl (Nat.le_of_ble_eq_true rfl) (by first | exact rfl | (simp only [f0, f1, f2, f3, f4, f5, f6, f7, f8, f9, f10, f11]; done) | (simp only [onA, *]; done)) ?_)
        | ((with_reducible show opC (happend _ _ _ _ _) _); refine sl_append (by with_reducible first | exact H | exact H.p1 | exact H.p2 | exact H.p3 | exact H.p4 | exact H.p5 | exact H.p6 | exact H.p7 | exact H.p8 | exact H.p9 | exact H.p10 | exact H.p11) (by first | assumption | with_reducible first | exact f0.2.1 | exact f1.2.1 | exact f2.2.1 | exact f3.2.1 | exact f4.2.1 | exact f5.2.1 | exact f6.2.1 | exact f7.2.1 | exact f8.2.1 | exact f9.2.1 | exact f10.2.1 | exact f11.2.1 | exact va_takeS) (by first | exact roomFor_of (by omega) | exact roomFor_wide (by omega)) (by omega) ?_)
        | ((with_reducible show opC (happend _ _ _ _ _) _); refine sl_append0X H (by first | assumption | with_reducible first | exact f0.2.1 | exact f1.2.1 | exact f2.2.1 | exact f3.2.1 | exact f4.2.1 | exact f5.2.1 | exact f6.2.1 | exact f7.2.1 | exact f8.2.1 | exact f9.2.1 | exact f10.2.1 | exact f11.2.1 | exact va_takeS) (by first | exact roomFor_of (by omega) | exact roomFor_wide (by omega)) (by omega) ?_)
        | ((with_reducible show opC (happend _ _ _ _ _) _); refine sl_appendX (by with_reducible first | exact H | exact H.p1 | exact H.p2 | exact H.p3 | exact H.p4 | exact H.p5 | exact H.p6 | exact H.p7 | exact H.p8 | exact H.p9 | exact H.p10 | exact H.p11) (by first | assumption | with_reducible first | exact f0.2.1 | exact f1.2.1 | exact f2.2.1 | exact f3.2.1 | exact f4.2.1 | exact f5.2.1 | exact f6.2.1 | exact f7.2.1 | exact f8.2.1 | exact f9.2.1 | exact f10.2.1 | exact f11.2.1 | exact va_takeS) (by first | exact roomFor_of (by omega) | exact roomFor_wide (by omega)) (by omega) ?_)
        | ((with_reducible show opC (hbuildSlice _ _ _ _ _) _); refine sl_bslice1 H rfl (by first | exact rfl | (simp only [f0, f1, f2, f3, f4, f5, f6, f7, f8, f9, f10, f11]; done) | (simp only [onA, *]; done)) (by first | exact rfl | (simp only [f0, f1, f2, f3, f4, f5, f6, f7, f8, f9, f10, f11]; done) | (simp only [onA, *]; done)) ?_)
        | ((with_reducible show opC (hbox _ _) _); refine sl_box1 H (by first | exact rfl | (simp only [f0, f1, f2, f3, f4, f5, f6, f7, f8, f9, f10, f11]; done) | (simp only [onA, *]; done)) (by first | exact rfl | (simp only [f0, f1, f2, f3, f4, f5, f6, f7, f8, f9, f10, f11]; done) | (simp only [onA, *]; done)) ?_)
        | ((with_reducible show opC (hbox _ _) _); refine sl_boxA H (by first | exact rfl | (simp only [f0, f1, f2, f3, f4, f5, f6, f7, f8, f9, f10, f11]; done) | (simp only [onA, *]; done)) ?_)
        | refine hwp_draw mixed rfl ?_
        | with_reducible intro hy

      have hd := hD [] _ _ (Dr.stop hnx)
      rw [List.append_nil] at hd
      have t1 : todo t2 ≤ todo t := by
        unfold nextS at hnx
        unfold todo
        split at hnx
        · rename_i h0
          split at hnx
          · cases hnx
          · split at hnx
            · cases hnx; exact Nat.le_refl _
            · rename_i h1
              split at hnx
              · cases hnx
              · rename_i h2
                cases hnx
                have := skipL_none t.held false (by simpa using h2)
                simp only [this, List.length_nil]
                rw [if_neg (by simp)]; omega
        · split at hnx
          · split at hnx
            · cases hnx
            · cases hnx; exact Nat.le_refl _
          · split at hnx
            · split at hnx
              · cases hnx; exact Nat.le_refl _
              · cases hnx
            · split at hnx
              · cases hnx; exact Nat.le_refl _
              · cases hnx
      refine ⟨L', t2, j, hd, ⟨by omega, by omega, by omega, by omega, hbo⟩, ?_⟩
      exact Sat.p1 (Sat.p1 (rdr_open.2 ⟨vi, H.t.p1.t.p3.p3.p3⟩))
    | some it =>
      have nl := next_less (sizes := sizes) (k := j) hnx
      have hgo := body_fit sizes j it (s := t2) (by omega)
      have hkk : goK j it ≤ j + 1 := by unfold goK; split <;> omega
      have hstep : ∀ its s2 k2, Dr sizes (goS sizes j it t2) (goK j it) its s2 k2 → Dr sizes s k ((L'.map IE.it ++ [it]) ++ its) s2 k2 := fun its s2 k2 h => by
        have := hD _ _ _ (Dr.step hnx h)
        simpa using this
      have hbo2 : ∀ w : HV, ∀ e ∈ L' ++ [⟨w, it⟩], e.it.body.length < 1073741824 := by
        intro w e he
        rcases List.mem_append.1 he with he | he
        · exact hbo e he
        · rw [List.mem_singleton.1 he]; simp only [itB] at ns ⊢; omega
      obtain ⟨ik, itx, ibd⟩ := it
      by_cases hk1 : ik = 1
      · have d1 : decide (ik = 1) = true := by simpa using hk1
        by_cases hj2 : j < sizes.length
        · obtain ⟨n, hn⟩ : ∃ n, sizes[j]? = some n := ⟨_, List.getElem?_eq_getElem hj2⟩
          have hx : (sizes.map (HV.int .i64))[j]? = some (.int .i64 n) := by rw [List.getElem?_map, hn]; rfl
          obtain ⟨qq, hq1, hq2⟩ := (RS _ H.t.t.t.t).idx1 hx .i64
          first | have f0 := Sat.pf (H) | have f0 := trivial
          first | have f1 := Sat.pf (H.t) | have f1 := trivial
          first | have f2 := Sat.pf (H.t.t) | have f2 := trivial
          first | have f3 := Sat.pf (H.t.t.t) | have f3 := trivial
          first | have f4 := Sat.pf (H.t.t.t.t) | have f4 := trivial
          first | have f5 := Sat.pf (H.t.t.t.t.t) | have f5 := trivial
          first | have f6 := Sat.pf (H.t.t.t.t.t.t) | have f6 := trivial
          first | have f7 := Sat.pf (H.t.t.t.t.t.t.t) | have f7 := trivial
          first | have f8 := Sat.pf (H.t.t.t.t.t.t.t.t) | have f8 := trivial
          first | have f9 := Sat.pf (H.t.t.t.t.t.t.t.t.t) | have f9 := trivial
          first | have f10 := Sat.pf (H.t.t.t.t.t.t.t.t.t.t) | have f10 := trivial
          first | have f11 := Sat.pf (H.t.t.t.t.t.t.t.t.t.t.t) | have f11 := trivial
          repeat' first
            | ((with_reducible show Need _); refine need_of ?_; (first | have f0 := Sat.pf (H) | have f0 := trivial); (first | have f1 := Sat.pf (H.t) | have f1 := trivial); (first | have f2 := Sat.pf (H.t.t) | have f2 := trivial); (first | have f3 := Sat.pf (H.t.t.t) | have f3 := trivial); (first | have f4 := Sat.pf (H.t.t.t.t) | have f4 := trivial); (first | have f5 := Sat.pf (H.t.t.t.t.t) | have f5 := trivial); (first | have f6 := Sat.pf (H.t.t.t.t.t.t) | have f6 := trivial); (first | have f7 := Sat.pf (H.t.t.t.t.t.t.t) | have f7 := trivial); (first | have f8 := Sat.pf (H.t.t.t.t.t.t.t.t) | have f8 := trivial); (first | have f9 := Sat.pf (H.t.t.t.t.t.t.t.t.t) | have f9 := trivial); (first | have f10 := Sat.pf (H.t.t.t.t.t.t.t.t.t.t) | have f10 := trivial); (first | have f11 := Sat.pf (H.t.t.t.t.t.t.t.t.t.t.t) | have f11 := trivial); (first | have hq2 := (RS _ (by with_reducible first | exact H.t.t.t.t | exact H.t.t.t.t.t | exact H.t.t.t.t.t.t)).ld1 hq1 hx | skip); (first | have so := (RS _ (by with_reducible first | exact H.t.t.t.t | exact H.t.t.t.t.t | exact H.t.t.t.t.t.t)).sOk | skip))
            | simp -implicitDefEqProofs (disch := first | omega | decide | exact rfl | assumption | exact Nat.le_of_ble_eq_true rfl | exact One.c | exact One.o) only [vsA, vsB, eq_self, if_true, if_false, implies_true, false_implies, evp, HX.ev, Nat.reduceAdd, HOp.looks, Nat.reduceEqDiff, overw, Nat.reduceBEq, sone, scel, lsz, so, d1, hq1, hq2, o1, o2, vadd1, va_loadA, va_ldA, ub19, f0, f1, f2, f3, f4, f5, f6, f7, f8, f9, f10, f11]
            | (refine condK_cases (fun h => ?_) (fun h => ?_) <;> (try simp only [h]) <;> (try simp only [athA, ne_eq] at h) <;> (try (exfalso; omega)))
            | (refine guardK_cases (fun h => ?_) (fun h => ?_) <;> (try simp only [h]) <;> (try simp only [athA, ne_eq] at h) <;> (try (exfalso; omega)))
            | (refine dgK_cases (fun h => ?_) (fun h => ?_) <;> (try simp only [h]) <;> (try simp only [athA, ne_eq] at h) <;> (try (exfalso; omega)))
            | (clear H f0 f1 f2 f3 f4 f5 f6 f7 f8 f9 f10 f11; (with_reducible intro v2 hs H); (try simp only [setA, overw, Nat.reduceAdd] at H); refine need ?_)
            | ((with_reducible show actK _ (HAct.call (HX.cst (HV.func (Fn.func 26) _ _)) _) _ _ _ _ _); refine vcall_of ok26 rfl (next26 (p := p) (s := t) (by with_reducible first | exact H | exact H.p1 | exact H.p2 | exact H.p3 | exact H.p4 | exact H.p5 | exact H.p6 | exact H.p7 | exact H.p8 | exact H.p9 | exact H.p10 | exact H.p11) (fun _ h => G _ h.t.t.t) (by omega) (by omega) (by omega) (by omega)) ?_;  clear H f0 f1 f2 f3 f4 f5 f6 f7 f8 f9 f10 f11; rintro v hs ⟨w, rfl, H⟩; rw [hnx] at H; simp only [hnx, itV, itB] at H ⊢; have o1 := H.t.rdX.one; have o2 := H.t.rdX.cells; refine need ?_)
            | ((with_reducible show drK _ _ _ _ _ _ _ _ _ (some ⟨_, HAct.call (HX.cst (HV.func (Fn.func 26) _ _)) _, none⟩)); refine vdr_call ok26 rfl (next26 (p := p) (s := t) (by with_reducible first | exact H | exact H.p1 | exact H.p2 | exact H.p3 | exact H.p4 | exact H.p5 | exact H.p6 | exact H.p7 | exact H.p8 | exact H.p9 | exact H.p10 | exact H.p11) (fun _ h => G _ h.t.t.t) (by omega) (by omega) (by omega) (by omega)) ?_;  clear H f0 f1 f2 f3 f4 f5 f6 f7 f8 f9 f10 f11; rintro v hs ⟨w, rfl, H⟩; rw [hnx] at H; simp only [hnx, itV, itB] at H ⊢; have o1 := H.t.rdX.one; have o2 := H.t.rdX.cells; refine need ?_)
            | ((with_reducible show actK _ (HAct.call (HX.cst (HV.func (Fn.func 27) _ _)) _) _ _ _ _ _); refine vcall_of ok27 rfl (body27 (p := p) (s := t2) (by with_reducible first | exact H | exact H.p1 | exact H.p2 | exact H.p3 | exact H.p4 | exact H.p5 | exact H.p6 | exact H.p7 | exact H.p8 | exact H.p9 | exact H.p10 | exact H.p11) n (by omega)) ?_;  clear H f0 f1 f2 f3 f4 f5 f6 f7 f8 f9 f10 f11; rintro v hs ⟨rfl, H⟩; refine need ?_)
            | ((with_reducible show drK _ _ _ _ _ _ _ _ _ (some ⟨_, HAct.call (HX.cst (HV.func (Fn.func 27) _ _)) _, none⟩)); refine vdr_call ok27 rfl (body27 (p := p) (s := t2) (by with_reducible first | exact H | exact H.p1 | exact H.p2 | exact H.p3 | exact H.p4 | exact H.p5 | exact H.p6 | exact H.p7 | exact H.p8 | exact H.p9 | exact H.p10 | exact H.p11) n (by omega)) ?_;  clear H f0 f1 f2 f3 f4 f5 f6 f7 f8 f9 f10 f11; rintro v hs ⟨rfl, H⟩; refine need ?_)
            | refine opC_K ?_
            | refine opC_D ?_
            | ((with_reducible show opC (hbuildSlice _ _ _ _ _) _); refine sl_bslice H rfl rfl (by omega) (item_fill o1) rfl ?_; clear H f0 f1 f2 f3 f4 f5 f6 f7 f8 f9 f10 f11; intro y hs H hy; have T := hy.take; refine need ?_)
            | ((with_reducible show opC (happend _ _ _ _ _) _); refine sl_append (n := (L ++ L').length) (xs := (L ++ L').flatMap IE.cells) (by with_reducible first | exact H | exact H.p1 | exact H.p2 | exact H.p3 | exact H.p4 | exact H.p5 | exact H.p6 | exact H.p7 | exact H.p8 | exact H.p9 | exact H.p10 | exact H.p11) T (by first | exact roomFor_of (by omega) | exact roomFor_wide (by omega)) (by omega) ?_; clear H f0 f1 f2 f3 f4 f5 f6 f7 f8 f9 f10 f11; intro v2 hs H; refine need ?_)
            | ((with_reducible show opC (unit (hstore _ _ _ _)) _); refine sl_store1 (by with_reducible first | exact H | exact H.p1 | exact H.p2 | exact H.p3 | exact H.p4 | exact H.p5 | exact H.p6 | exact H.p7 | exact H.p8 | exact H.p9 | exact H.p10 | exact H.p11) (Nat.le_of_ble_eq_true rfl) (by first | exact rfl | (simp only [f0, f1, f2, f3, f4, f5, f6, f7, f8, f9, f10, f11]; done) | (simp only [onA, *]; done)) (by first | exact rfl | (simp only [f0, f1, f2, f3, f4, f5, f6, f7, f8, f9, f10, f11]; done) | (simp only [onA, *]; done)) ?_)
            | ((with_reducible show opC (unit (hstore _ _ _ _)) _); refine sl_storeN (by with_reducible first | exact H | exact H.p1 | exact H.p2 | exact H.p3 | exact H.p4 | exact H.p5 | exact H.p6 | exact H.p7 | exact H.p8 | exact H.p9 | exact H.p10 | exact H.p11) rfl (Nat.le_of_ble_eq_true rfl) (by first | exact rfl | (simp only [f0, f1, f2, f3, f4, f5, f6, f7, f8, f9, f10, f11]; done) | (simp only [onA, *]; done)) ?_)
            | ((with_reducible show opC (happend _ _ _ _ _) _); refine sl_append (by with_reducible first | exact H | exact H.p1 | exact H.p2 | exact H.p3 | exact H.p4 | exact H.p5 | exact H.p6 | exact H.p7 | exact H.p8 | exact H.p9 | exact H.p10 | exact H.p11) (by first | assumption | with_reducible first | exact f0.2.1 | exact f1.2.1 | exact f2.2.1 | exact f3.2.1 | exact f4.2.1 | exact f5.2.1 | exact f6.2.1 | exact f7.2.1 | exact f8.2.1 | exact f9.2.1 | exact f10.2.1 | exact f11.2.1 | exact va_takeS) (by first | exact roomFor_of (by omega) | exact roomFor_wide (by omega)) (by omega) ?_)
            | ((with_reducible show opC (happend _ _ _ _ _) _); refine sl_append0X H (by first | assumption | with_reducible first | exact f0.2.1 | exact f1.2.1 | exact f2.2.1 | exact f3.2.1 | exact f4.2.1 | exact f5.2.1 | exact f6.2.1 | exact f7.2.1 | exact f8.2.1 | exact f9.2.1 | exact f10.2.1 | exact f11.2.1 | exact va_takeS) (by first | exact roomFor_of (by omega) | exact roomFor_wide (by omega)) (by omega) ?_)
            | ((with_reducible show opC (happend _ _ _ _ _) _); refine sl_appendX (by with_reducible first | exact H | exact H.p1 | exact H.p2 | exact H.p3 | exact H.p4 | exact H.p5 | exact H.p6 | exact H.p7 | exact H.p8 | exact H.p9 | exact H.p10 | exact H.p11) (by first | assumption | with_reducible first | exact f0.2.1 | exact f1.2.1 | exact f2.2.1 | exact f3.2.1 | exact f4.2.1 | exact f5.2.1 | exact f6.2.1 | exact f7.2.1 | exact f8.2.1 | exact f9.2.1 | exact f10.2.1 | exact f11.2.1 | exact va_takeS) (by first | exact roomFor_of (by omega) | exact roomFor_wide (by omega)) (by omega) ?_)
            | ((with_reducible show opC (hbuildSlice _ _ _ _ _) _); refine sl_bslice1 H rfl (by first | exact rfl | (simp only [f0, f1, f2, f3, f4, f5, f6, f7, f8, f9, f10, f11]; done) | (simp only [onA, *]; done)) (by first | exact rfl | (simp only [f0, f1, f2, f3, f4, f5, f6, f7, f8, f9, f10, f11]; done) | (simp only [onA, *]; done)) ?_)
            | ((with_reducible show opC (hbox _ _) _); refine sl_box1 H (by first | exact rfl | (simp only [f0, f1, f2, f3, f4, f5, f6, f7, f8, f9, f10, f11]; done) | (simp only [onA, *]; done)) (by first | exact rfl | (simp only [f0, f1, f2, f3, f4, f5, f6, f7, f8, f9, f10, f11]; done) | (simp only [onA, *]; done)) ?_)
            | ((with_reducible show opC (hbox _ _) _); refine sl_boxA H (by first | exact rfl | (simp only [f0, f1, f2, f3, f4, f5, f6, f7, f8, f9, f10, f11]; done) | (simp only [onA, *]; done)) ?_)
            | refine hwp_draw mixed rfl ?_
            | with_reducible intro hy

          have hg : goS sizes j ⟨ik, itx, ibd⟩ t2 = (bodyS t2 n).1 := by unfold goS bodyI; rw [if_pos hk1, hn]
          have hgk : goK j ⟨ik, itx, ibd⟩ = j + 1 := by unfold goK; rw [if_pos hk1]
          refine ⟨(goS sizes j ⟨ik, itx, ibd⟩ t2, goK j ⟨ik, itx, ibd⟩, L' ++ [⟨w, ⟨ik, itx, ibd⟩⟩]), _, nl, ⟨?_, by simp only; omega, by simp only; omega, by simp only; omega, by simp only [List.length_append, List.length_singleton]; omega, hbo2 w⟩, (by (repeat first | exact Less.nil | refine Less.undef _ ?_ | refine Less.keep _ ?_)), Weak.refl _, ?_⟩
          · simp only [List.map_append, List.map_cons, List.map_nil]; exact hstep
          · simp only
            rw [hg, hgk, ← List.append_assoc]
            exact (rdr_snoc (e := ⟨w, ⟨ik, itx, ibd⟩⟩) H.p3.t.p1.p4.p4.p4.p4)
        · skip
          first | have f0 := Sat.pf (H) | have f0 := trivial
          first | have f1 := Sat.pf (H.t) | have f1 := trivial
          first | have f2 := Sat.pf (H.t.t) | have f2 := trivial
          first | have f3 := Sat.pf (H.t.t.t) | have f3 := trivial
          first | have f4 := Sat.pf (H.t.t.t.t) | have f4 := trivial
          first | have f5 := Sat.pf (H.t.t.t.t.t) | have f5 := trivial
          first | have f6 := Sat.pf (H.t.t.t.t.t.t) | have f6 := trivial
          first | have f7 := Sat.pf (H.t.t.t.t.t.t.t) | have f7 := trivial
          first | have f8 := Sat.pf (H.t.t.t.t.t.t.t.t) | have f8 := trivial
          first | have f9 := Sat.pf (H.t.t.t.t.t.t.t.t.t) | have f9 := trivial
          first | have f10 := Sat.pf (H.t.t.t.t.t.t.t.t.t.t) | have f10 := trivial
          first | have f11 := Sat.pf (H.t.t.t.t.t.t.t.t.t.t.t) | have f11 := trivial
          repeat' first
            | ((with_reducible show Need _); refine need_of ?_; (first | have f0 := Sat.pf (H) | have f0 := trivial); (first | have f1 := Sat.pf (H.t) | have f1 := trivial); (first | have f2 := Sat.pf (H.t.t) | have f2 := trivial); (first | have f3 := Sat.pf (H.t.t.t) | have f3 := trivial); (first | have f4 := Sat.pf (H.t.t.t.t) | have f4 := trivial); (first | have f5 := Sat.pf (H.t.t.t.t.t) | have f5 := trivial); (first | have f6 := Sat.pf (H.t.t.t.t.t.t) | have f6 := trivial); (first | have f7 := Sat.pf (H.t.t.t.t.t.t.t) | have f7 := trivial); (first | have f8 := Sat.pf (H.t.t.t.t.t.t.t.t) | have f8 := trivial); (first | have f9 := Sat.pf (H.t.t.t.t.t.t.t.t.t) | have f9 := trivial); (first | have f10 := Sat.pf (H.t.t.t.t.t.t.t.t.t.t) | have f10 := trivial); (first | have f11 := Sat.pf (H.t.t.t.t.t.t.t.t.t.t.t) | have f11 := trivial); (first | have so := (RS _ (by with_reducible first | exact H.t.t.t.t | exact H.t.t.t.t.t | exact H.t.t.t.t.t.t)).sOk | skip))
            | simp -implicitDefEqProofs (disch := first | omega | decide | exact rfl | assumption | exact Nat.le_of_ble_eq_true rfl | exact One.c | exact One.o) only [vsA, vsB, eq_self, if_true, if_false, implies_true, false_implies, evp, HX.ev, Nat.reduceAdd, HOp.looks, Nat.reduceEqDiff, overw, Nat.reduceBEq, sone, scel, lsz, so, d1, o1, o2, vadd1, va_loadA, va_ldA, ub19, f0, f1, f2, f3, f4, f5, f6, f7, f8, f9, f10, f11]
            | (refine condK_cases (fun h => ?_) (fun h => ?_) <;> (try simp only [h]) <;> (try simp only [athA, ne_eq] at h) <;> (try (exfalso; omega)))
            | (refine guardK_cases (fun h => ?_) (fun h => ?_) <;> (try simp only [h]) <;> (try simp only [athA, ne_eq] at h) <;> (try (exfalso; omega)))
            | (refine dgK_cases (fun h => ?_) (fun h => ?_) <;> (try simp only [h]) <;> (try simp only [athA, ne_eq] at h) <;> (try (exfalso; omega)))
            | (clear H f0 f1 f2 f3 f4 f5 f6 f7 f8 f9 f10 f11; (with_reducible intro v2 hs H); (try simp only [setA, overw, Nat.reduceAdd] at H); refine need ?_)
            | ((with_reducible show actK _ (HAct.call (HX.cst (HV.func (Fn.func 26) _ _)) _) _ _ _ _ _); refine vcall_of ok26 rfl (next26 (p := p) (s := t) (by with_reducible first | exact H | exact H.p1 | exact H.p2 | exact H.p3 | exact H.p4 | exact H.p5 | exact H.p6 | exact H.p7 | exact H.p8 | exact H.p9 | exact H.p10 | exact H.p11) (fun _ h => G _ h.t.t.t) (by omega) (by omega) (by omega) (by omega)) ?_;  clear H f0 f1 f2 f3 f4 f5 f6 f7 f8 f9 f10 f11; rintro v hs ⟨w, rfl, H⟩; rw [hnx] at H; simp only [hnx, itV, itB] at H ⊢; have o1 := H.t.rdX.one; have o2 := H.t.rdX.cells; refine need ?_)
            | ((with_reducible show drK _ _ _ _ _ _ _ _ _ (some ⟨_, HAct.call (HX.cst (HV.func (Fn.func 26) _ _)) _, none⟩)); refine vdr_call ok26 rfl (next26 (p := p) (s := t) (by with_reducible first | exact H | exact H.p1 | exact H.p2 | exact H.p3 | exact H.p4 | exact H.p5 | exact H.p6 | exact H.p7 | exact H.p8 | exact H.p9 | exact H.p10 | exact H.p11) (fun _ h => G _ h.t.t.t) (by omega) (by omega) (by omega) (by omega)) ?_;  clear H f0 f1 f2 f3 f4 f5 f6 f7 f8 f9 f10 f11; rintro v hs ⟨w, rfl, H⟩; rw [hnx] at H; simp only [hnx, itV, itB] at H ⊢; have o1 := H.t.rdX.one; have o2 := H.t.rdX.cells; refine need ?_)
            | refine opC_K ?_
            | refine opC_D ?_
            | ((with_reducible show opC (hbuildSlice _ _ _ _ _) _); refine sl_bslice H rfl rfl (by omega) (item_fill o1) rfl ?_; clear H f0 f1 f2 f3 f4 f5 f6 f7 f8 f9 f10 f11; intro y hs H hy; have T := hy.take; refine need ?_)
            | ((with_reducible show opC (happend _ _ _ _ _) _); refine sl_append (n := (L ++ L').length) (xs := (L ++ L').flatMap IE.cells) (by with_reducible first | exact H | exact H.p1 | exact H.p2 | exact H.p3 | exact H.p4 | exact H.p5 | exact H.p6 | exact H.p7 | exact H.p8 | exact H.p9 | exact H.p10 | exact H.p11) T (by first | exact roomFor_of (by omega) | exact roomFor_wide (by omega)) (by omega) ?_; clear H f0 f1 f2 f3 f4 f5 f6 f7 f8 f9 f10 f11; intro v2 hs H; refine need ?_)
            | ((with_reducible show opC (unit (hstore _ _ _ _)) _); refine sl_store1 (by with_reducible first | exact H | exact H.p1 | exact H.p2 | exact H.p3 | exact H.p4 | exact H.p5 | exact H.p6 | exact H.p7 | exact H.p8 | exact H.p9 | exact H.p10 | exact H.p11) (Nat.le_of_ble_eq_true rfl) (by first | exact rfl | (simp only [f0, f1, f2, f3, f4, f5, f6, f7, f8, f9, f10, f11]; done) | (simp only [onA, *]; done)) (by first | exact rfl | (simp only [f0, f1, f2, f3, f4, f5, f6, f7, f8, f9, f10, f11]; done) | (simp only [onA, *]; done)) ?_)
            | ((with_reducible show opC (unit (hstore _ _ _ _)) _); refine sl_storeN (by with_reducible first | exact H | exact H.p1 | exact H.p2 | exact H.p3 | exact H.p4 | exact H.p5 | exact H.p6 | exact H.p7 | exact H.p8 | exact H.p9 | exact H.p10 | exact H.p11) rfl (Nat.le_of_ble_eq_true rfl) (by first | exact rfl | (simp only [f0, f1, f2, f3, f4, f5, f6, f7, f8, f9, f10, f11]; done) | (simp only [onA, *]; done)) ?_)
            | ((with_reducible show opC (happend _ _ _ _ _) _); refine sl_append (by with_reducible first | exact H | exact H.p1 | exact H.p2 | exact H.p3 | exact H.p4 | exact H.p5 | exact H.p6 | exact H.p7 | exact H.p8 | exact H.p9 | exact H.p10 | exact H.p11) (by first | assumption | with_reducible first | exact f0.2.1 | exact f1.2.1 | exact f2.2.1 | exact f3.2.1 | exact f4.2.1 | exact f5.2.1 | exact f6.2.1 | exact f7.2.1 | exact f8.2.1 | exact f9.2.1 | exact f10.2.1 | exact f11.2.1 | exact va_takeS) (by first | exact roomFor_of (by omega) | exact roomFor_wide (by omega)) (by omega) ?_)
            | ((with_reducible show opC (happend _ _ _ _ _) _); refine sl_append0X H (by first | assumption | with_reducible first | exact f0.2.1 | exact f1.2.1 | exact f2.2.1 | exact f3.2.1 | exact f4.2.1 | exact f5.2.1 | exact f6.2.1 | exact f7.2.1 | exact f8.2.1 | exact f9.2.1 | exact f10.2.1 | exact f11.2.1 | exact va_takeS) (by first | exact roomFor_of (by omega) | exact roomFor_wide (by omega)) (by omega) ?_)
            | ((with_reducible show opC (happend _ _ _ _ _) _); refine sl_appendX (by with_reducible first | exact H | exact H.p1 | exact H.p2 | exact H.p3 | exact H.p4 | exact H.p5 | exact H.p6 | exact H.p7 | exact H.p8 | exact H.p9 | exact H.p10 | exact H.p11) (by first | assumption | with_reducible first | exact f0.2.1 | exact f1.2.1 | exact f2.2.1 | exact f3.2.1 | exact f4.2.1 | exact f5.2.1 | exact f6.2.1 | exact f7.2.1 | exact f8.2.1 | exact f9.2.1 | exact f10.2.1 | exact f11.2.1 | exact va_takeS) (by first | exact roomFor_of (by omega) | exact roomFor_wide (by omega)) (by omega) ?_)
            | ((with_reducible show opC (hbuildSlice _ _ _ _ _) _); refine sl_bslice1 H rfl (by first | exact rfl | (simp only [f0, f1, f2, f3, f4, f5, f6, f7, f8, f9, f10, f11]; done) | (simp only [onA, *]; done)) (by first | exact rfl | (simp only [f0, f1, f2, f3, f4, f5, f6, f7, f8, f9, f10, f11]; done) | (simp only [onA, *]; done)) ?_)
            | ((with_reducible show opC (hbox _ _) _); refine sl_box1 H (by first | exact rfl | (simp only [f0, f1, f2, f3, f4, f5, f6, f7, f8, f9, f10, f11]; done) | (simp only [onA, *]; done)) (by first | exact rfl | (simp only [f0, f1, f2, f3, f4, f5, f6, f7, f8, f9, f10, f11]; done) | (simp only [onA, *]; done)) ?_)
            | ((with_reducible show opC (hbox _ _) _); refine sl_boxA H (by first | exact rfl | (simp only [f0, f1, f2, f3, f4, f5, f6, f7, f8, f9, f10, f11]; done) | (simp only [onA, *]; done)) ?_)
            | refine hwp_draw mixed rfl ?_
            | with_reducible intro hy

          have hg : goS sizes j ⟨ik, itx, ibd⟩ t2 = t2 := by unfold goS bodyI; rw [if_pos hk1, List.getElem?_eq_none (by omega)]
          have hgk : goK j ⟨ik, itx, ibd⟩ = j + 1 := by unfold goK; rw [if_pos hk1]
          refine ⟨(goS sizes j ⟨ik, itx, ibd⟩ t2, goK j ⟨ik, itx, ibd⟩, L' ++ [⟨w, ⟨ik, itx, ibd⟩⟩]), _, nl, ⟨?_, by simp only; omega, by simp only; omega, by simp only; omega, by simp only [List.length_append, List.length_singleton]; omega, hbo2 w⟩, (by (repeat first | exact Less.nil | refine Less.undef _ ?_ | refine Less.keep _ ?_)), Weak.refl _, ?_⟩
          · simp only [List.map_append, List.map_cons, List.map_nil]; exact hstep
          · simp only
            rw [hg, hgk, ← List.append_assoc]
            exact (rdr_snoc (e := ⟨w, ⟨ik, itx, ibd⟩⟩) H.p2.t.p2.p4.p4.p4.p4)
      · have d1 : decide (ik = 1) = false := by simpa using hk1
        first | have f0 := Sat.pf (H) | have f0 := trivial
        first | have f1 := Sat.pf (H.t) | have f1 := trivial
        first | have f2 := Sat.pf (H.t.t) | have f2 := trivial
        first | have f3 := Sat.pf (H.t.t.t) | have f3 := trivial
        first | have f4 := Sat.pf (H.t.t.t.t) | have f4 := trivial
        first | have f5 := Sat.pf (H.t.t.t.t.t) | have f5 := trivial
        first | have f6 := Sat.pf (H.t.t.t.t.t.t) | have f6 := trivial
        first | have f7 := Sat.pf (H.t.t.t.t.t.t.t) | have f7 := trivial
        first | have f8 := Sat.pf (H.t.t.t.t.t.t.t.t) | have f8 := trivial
        first | have f9 := Sat.pf (H.t.t.t.t.t.t.t.t.t) | have f9 := trivial
        first | have f10 := Sat.pf (H.t.t.t.t.t.t.t.t.t.t) | have f10 := trivial
        first | have f11 := Sat.pf (H.t.t.t.t.t.t.t.t.t.t.t) | have f11 := trivial
        repeat' first
          | ((with_reducible show Need _); refine need_of ?_; (first | have f0 := Sat.pf (H) | have f0 := trivial); (first | have f1 := Sat.pf (H.t) | have f1 := trivial); (first | have f2 := Sat.pf (H.t.t) | have f2 := trivial); (first | have f3 := Sat.pf (H.t.t.t) | have f3 := trivial); (first | have f4 := Sat.pf (H.t.t.t.t) | have f4 := trivial); (first | have f5 := Sat.pf (H.t.t.t.t.t) | have f5 := trivial); (first | have f6 := Sat.pf (H.t.t.t.t.t.t) | have f6 := trivial); (first | have f7 := Sat.pf (H.t.t.t.t.t.t.t) | have f7 := trivial); (first | have f8 := Sat.pf (H.t.t.t.t.t.t.t.t) | have f8 := trivial); (first | have f9 := Sat.pf (H.t.t.t.t.t.t.t.t.t) | have f9 := trivial); (first | have f10 := Sat.pf (H.t.t.t.t.t.t.t.t.t.t) | have f10 := trivial); (first | have f11 := Sat.pf (H.t.t.t.t.t.t.t.t.t.t.t) | have f11 := trivial); (first | have so := (RS _ (by with_reducible first | exact H.t.t.t.t | exact H.t.t.t.t.t | exact H.t.t.t.t.t.t)).sOk | skip))
          | simp -implicitDefEqProofs (disch := first | omega | decide | exact rfl | assumption | exact Nat.le_of_ble_eq_true rfl | exact One.c | exact One.o) only [vsA, vsB, eq_self, if_true, if_false, implies_true, false_implies, evp, HX.ev, Nat.reduceAdd, HOp.looks, Nat.reduceEqDiff, overw, Nat.reduceBEq, sone, scel, lsz, so, d1, o1, o2, vadd1, va_loadA, va_ldA, ub19, f0, f1, f2, f3, f4, f5, f6, f7, f8, f9, f10, f11]
          | (refine condK_cases (fun h => ?_) (fun h => ?_) <;> (try simp only [h]) <;> (try simp only [athA, ne_eq] at h) <;> (try (exfalso; omega)))
          | (refine guardK_cases (fun h => ?_) (fun h => ?_) <;> (try simp only [h]) <;> (try simp only [athA, ne_eq] at h) <;> (try (exfalso; omega)))
          | (refine dgK_cases (fun h => ?_) (fun h => ?_) <;> (try simp only [h]) <;> (try simp only [athA, ne_eq] at h) <;> (try (exfalso; omega)))
          | (clear H f0 f1 f2 f3 f4 f5 f6 f7 f8 f9 f10 f11; (with_reducible intro v2 hs H); (try simp only [setA, overw, Nat.reduceAdd] at H); refine need ?_)
          | ((with_reducible show actK _ (HAct.call (HX.cst (HV.func (Fn.func 26) _ _)) _) _ _ _ _ _); refine vcall_of ok26 rfl (next26 (p := p) (s := t) (by with_reducible first | exact H | exact H.p1 | exact H.p2 | exact H.p3 | exact H.p4 | exact H.p5 | exact H.p6 | exact H.p7 | exact H.p8 | exact H.p9 | exact H.p10 | exact H.p11) (fun _ h => G _ h.t.t.t) (by omega) (by omega) (by omega) (by omega)) ?_;  clear H f0 f1 f2 f3 f4 f5 f6 f7 f8 f9 f10 f11; rintro v hs ⟨w, rfl, H⟩; rw [hnx] at H; simp only [hnx, itV, itB] at H ⊢; have o1 := H.t.rdX.one; have o2 := H.t.rdX.cells; refine need ?_)
          | ((with_reducible show drK _ _ _ _ _ _ _ _ _ (some ⟨_, HAct.call (HX.cst (HV.func (Fn.func 26) _ _)) _, none⟩)); refine vdr_call ok26 rfl (next26 (p := p) (s := t) (by with_reducible first | exact H | exact H.p1 | exact H.p2 | exact H.p3 | exact H.p4 | exact H.p5 | exact H.p6 | exact H.p7 | exact H.p8 | exact H.p9 | exact H.p10 | exact H.p11) (fun _ h => G _ h.t.t.t) (by omega) (by omega) (by omega) (by omega)) ?_;  clear H f0 f1 f2 f3 f4 f5 f6 f7 f8 f9 f10 f11; rintro v hs ⟨w, rfl, H⟩; rw [hnx] at H; simp only [hnx, itV, itB] at H ⊢; have o1 := H.t.rdX.one; have o2 := H.t.rdX.cells; refine need ?_)
          | refine opC_K ?_
          | refine opC_D ?_
          | ((with_reducible show opC (hbuildSlice _ _ _ _ _) _); refine sl_bslice H rfl rfl (by omega) (item_fill o1) rfl ?_; clear H f0 f1 f2 f3 f4 f5 f6 f7 f8 f9 f10 f11; intro y hs H hy; have T := hy.take; refine need ?_)
          | ((with_reducible show opC (happend _ _ _ _ _) _); refine sl_append (n := (L ++ L').length) (xs := (L ++ L').flatMap IE.cells) (by with_reducible first | exact H | exact H.p1 | exact H.p2 | exact H.p3 | exact H.p4 | exact H.p5 | exact H.p6 | exact H.p7 | exact H.p8 | exact H.p9 | exact H.p10 | exact H.p11) T (by first | exact roomFor_of (by omega) | exact roomFor_wide (by omega)) (by omega) ?_; clear H f0 f1 f2 f3 f4 f5 f6 f7 f8 f9 f10 f11; intro v2 hs H; refine need ?_)
          | ((with_reducible show opC (unit (hstore _ _ _ _)) _); refine sl_store1 (by with_reducible first | exact H | exact H.p1 | exact H.p2 | exact H.p3 | exact H.p4 | exact H.p5 | exact H.p6 | exact H.p7 | exact H.p8 | exact H.p9 | exact H.p10 | exact H.p11) (Nat.le_of_ble_eq_true rfl) (by first | exact rfl | (simp only [f0, f1, f2, f3, f4, f5, f6, f7, f8, f9, f10, f11]; done) | (simp only [onA, *]; done)) (by first | exact rfl | (simp only [f0, f1, f2, f3, f4, f5, f6, f7, f8, f9, f10, f11]; done) | (simp only [onA, *]; done)) ?_)
          | ((with_reducible show opC (unit (hstore _ _ _ _)) _); refine sl_storeN (by with_reducible first | exact H | exact H.p1 | exact H.p2 | exact H.p3 | exact H.p4 | exact H.p5 | exact H.p6 | exact H.p7 | exact H.p8 | exact H.p9 | exact H.p10 | exact H.p11) rfl (Nat.le_of_ble_eq_true rfl) (by first | exact rfl | (simp only [f0, f1, f2, f3, f4, f5, f6, f7, f8, f9, f10, f11]; done) | (simp only [onA, *]; done)) ?_)
          | ((with_reducible show opC (happend _ _ _ _ _) _); refine sl_append (by with_reducible first | exact H | exact H.p1 | exact H.p2 | exact H.p3 | exact H.p4 | exact H.p5 | exact H.p6 | exact H.p7 | exact H.p8 | exact H.p9 | exact H.p10 | exact H.p11) (by first | assumption | with_reducible first | exact f0.2.1 | exact f1.2.1 | exact f2.2.1 | exact f3.2.1 | exact f4.2.1 | exact f5.2.1 | exact f6.2.1 | exact f7.2.1 | exact f8.2.1 | exact f9.2.1 | exact f10.2.1 | exact f11.2.1 | exact va_takeS) (by first | exact roomFor_of (by omega) | exact roomFor_wide (by omega)) (by omega) ?_)
          | ((with_reducible show opC (happend _ _ _ _ _) _); refine sl_append0X H (by first | assumption | with_reducible first | exact f0.2.1 | exact f1.2.1 | exact f2.2.1 | exact f3.2.1 | exact f4.2.1 | exact f5.2.1 | exact f6.2.1 | exact f7.2.1 | exact f8.2.1 | exact f9.2.1 | exact f10.2.1 | exact f11.2.1 | exact va_takeS) (by first | exact roomFor_of (by omega) | exact roomFor_wide (by omega)) (by omega) ?_)
          | ((with_reducible show opC (happend _ _ _ _ _) _); refine sl_appendX (by with_reducible first | exact H | exact H.p1 | exact H.p2 | exact H.p3 | exact H.p4 | exact H.p5 | exact H.p6 | exact H.p7 | exact H.p8 | exact H.p9 | exact H.p10 | exact H.p11) (by first | assumption | with_reducible first | exact f0.2.1 | exact f1.2.1 | exact f2.2.1 | exact f3.2.1 | exact f4.2.1 | exact f5.2.1 | exact f6.2.1 | exact f7.2.1 | exact f8.2.1 | exact f9.2.1 | exact f10.2.1 | exact f11.2.1 | exact va_takeS) (by first | exact roomFor_of (by omega) | exact roomFor_wide (by omega)) (by omega) ?_)
          | ((with_reducible show opC (hbuildSlice _ _ _ _ _) _); refine sl_bslice1 H rfl (by first | exact rfl | (simp only [f0, f1, f2, f3, f4, f5, f6, f7, f8, f9, f10, f11]; done) | (simp only [onA, *]; done)) (by first | exact rfl | (simp only [f0, f1, f2, f3, f4, f5, f6, f7, f8, f9, f10, f11]; done) | (simp only [onA, *]; done)) ?_)
          | ((with_reducible show opC (hbox _ _) _); refine sl_box1 H (by first | exact rfl | (simp only [f0, f1, f2, f3, f4, f5, f6, f7, f8, f9, f10, f11]; done) | (simp only [onA, *]; done)) (by first | exact rfl | (simp only [f0, f1, f2, f3, f4, f5, f6, f7, f8, f9, f10, f11]; done) | (simp only [onA, *]; done)) ?_)
          | ((with_reducible show opC (hbox _ _) _); refine sl_boxA H (by first | exact rfl | (simp only [f0, f1, f2, f3, f4, f5, f6, f7, f8, f9, f10, f11]; done) | (simp only [onA, *]; done)) ?_)
          | refine hwp_draw mixed rfl ?_
          | with_reducible intro hy

        have hg : goS sizes j ⟨ik, itx, ibd⟩ t2 = t2 := by unfold goS; rw [if_neg hk1]
        have hgk : goK j ⟨ik, itx, ibd⟩ = j := by unfold goK; rw [if_neg hk1]
        refine ⟨(goS sizes j ⟨ik, itx, ibd⟩ t2, goK j ⟨ik, itx, ibd⟩, L' ++ [⟨w, ⟨ik, itx, ibd⟩⟩]), _, nl, ⟨?_, by simp only; omega, by simp only; omega, by simp only; omega, by simp only [List.length_append, List.length_singleton]; omega, hbo2 w⟩, (by (repeat first | exact Less.nil | refine Less.undef _ ?_ | refine Less.keep _ ?_)), Weak.refl _, ?_⟩
        · simp only [List.map_append, List.map_cons, List.map_nil]; exact hstep
        · simp only
          rw [hg, hgk, ← List.append_assoc]
          exact (rdr_snoc (e := ⟨w, ⟨ik, itx, ibd⟩⟩) H.p2.t.p2.p4.p4.p4.p4)
end Go.Proofs.Ytccfcegmaejlnaa
namespace Go.Proofs.Ytccfcegmaejlnaa
open Go Go.HL
set_option maxRecDepth 100000
set_option maxHeartbeats 40000000
set_option linter.unusedSimpArgs false
attribute [local irreducible] pt My Ex Vw Gr GrK each grp exs Sat takeCells happend hbuildSlice hstore hbox hslice hmakeSlice hs2b hcopy HL.unit opC
theorem rem3 (i : Nat) : hbin .rem none (.int .i64 (i : Nat)) (.int .i64 3) = some (.int .i64 ((i % 3 : Nat) : Int)) := by
  have : hbin .rem none (.int .i64 (i : Nat)) (.int .i64 3) = if IntKind.i64 = IntKind.i64 ∧ (3 : Int) ≠ 0 then some (.int .i64 (((i : Nat) : Int).tmod 3)) else none := rfl
  rw [this, if_pos ⟨rfl, by decide⟩]
  congr 2
theorem rdr_new {hs : HS} {l : List SA} {q p : Nat} {sz : HV} (H : Sat hs (pt q (.cells 1 [.ptr p 0, sz, .int .i64 0, .nilSlice] false false []) :: l)) : Sat hs (RdrP q p sz 0 [] :: l) :=
  rdr_open.2 ⟨.nilSlice, by
    have h1 : Sat hs (each IE.P [] :: _) := Sat.each_nil.2 H
    have h2 : Sat hs (My 3 .nilSlice ([] : List IE).length (([] : List IE).flatMap IE.cells) :: _) := Sat.own0 h1
    exact h2.p1.p1.p2⟩
theorem ie_at {hs : HS} {l : List SA} {L : List IE} {i : Nat} {e : IE} (H : Sat hs (each IE.P L :: l)) (hx : L[i]? = some e) : Rd hs 1 e.w e.it.body.length (bcells e.it.body) := by
  have h : Sat hs (Ex 1 e.w e.it.body.length (bcells e.it.body) :: _) := Sat.each_at (P := IE.P) H hx
  exact h.rdX
/-- what was told of the bytes so far, however cut. -/
def Told (sizes : List Int) (s0 : St) (pre : List UInt8) (s : St) (k : Nat) (its : List It) : Prop := ∀ rest l s2 k2, Dr sizes (feedF s rest) k l s2 k2 → Dr sizes (feedF s0 (pre ++ rest)) 0 (its ++ l) s2 k2
theorem told0 (sizes : List Int) (s0 : St) : Told sizes s0 [] s0 0 [] := fun _ _ _ _ h => h
theorem Told.feed {sizes : List Int} {s0 s : St} {pre : List UInt8} {k : Nat} {its : List It} (h : Told sizes s0 pre s k its) (b : List UInt8) : Told sizes s0 (pre ++ b) (feedF s b) k its := fun rest l s2 k2 hd => by
  rw [feed_app] at hd
  rw [List.append_assoc]
  exact h _ _ _ _ hd
theorem Told.drain {sizes : List Int} {s0 s s' : St} {pre : List UInt8} {k k' : Nat} {its l : List It} (h : Told sizes s0 pre s k its) (hd : Dr sizes s k l s' k') : Told sizes s0 pre s' k' (its ++ l) := fun rest l2 s2 k2 h2 => by
  rw [List.append_assoc]
  exact h _ _ _ _ (hd.join h2)
theorem feed_nilC (s : St) : feedF s [] = s := by
  unfold feedF
  split
  · rename_i hc
    simp [skipL, hc.2]
    rw [← hc.2]
  · split <;> simp
theorem law4 {hs : HS} {l : List SA} {tv cv sv : HV} {text : List UInt8} {C sizes : List Int} (H : Sat hs l) (G : ∀ hs, Sat hs l → hs[0]? = some (some (HB.gint 0))) (RT : Rdl l tv text.length (bcells text)) (RC : Rdl l cv C.length (C.map (HV.int .i64))) (RS : Rdl l sv sizes.length (sizes.map (HV.int .i64)))
    (ht : text.length < 268435456) (hC : C.length < 268435456) (mx : Int) :
    HC Try.prog 4 [.int .i64 mx, tv, cv, sv] hs fun v _ => v = .bool true := by
  refine HC.wp mixed Try.func4 c4 ?_
  have sone := (RS _ H).one
  have scel := (RS _ H).cells
  have lc := (RC _ H).len
  have lt := (RT _ H).len
  by_cases hm : mx < 1 ∨ 65535 < mx
  · skip
    first | have f0 := Sat.pf (H) | have f0 := trivial
    first | have f1 := Sat.pf (H.t) | have f1 := trivial
    first | have f2 := Sat.pf (H.t.t) | have f2 := trivial
    first | have f3 := Sat.pf (H.t.t.t) | have f3 := trivial
    first | have f4 := Sat.pf (H.t.t.t.t) | have f4 := trivial
    first | have f5 := Sat.pf (H.t.t.t.t.t) | have f5 := trivial
    first | have f6 := Sat.pf (H.t.t.t.t.t.t) | have f6 := trivial
    first | have f7 := Sat.pf (H.t.t.t.t.t.t.t) | have f7 := trivial
    first | have f8 := Sat.pf (H.t.t.t.t.t.t.t.t) | have f8 := trivial
    first | have f9 := Sat.pf (H.t.t.t.t.t.t.t.t.t) | have f9 := trivial
    first | have f10 := Sat.pf (H.t.t.t.t.t.t.t.t.t.t) | have f10 := trivial
    first | have f11 := Sat.pf (H.t.t.t.t.t.t.t.t.t.t.t) | have f11 := trivial
    repeat' first
      | ((with_reducible show Need _); refine need_of ?_; (first | have f0 := Sat.pf (H) | have f0 := trivial); (first | have f1 := Sat.pf (H.t) | have f1 := trivial); (first | have f2 := Sat.pf (H.t.t) | have f2 := trivial); (first | have f3 := Sat.pf (H.t.t.t) | have f3 := trivial); (first | have f4 := Sat.pf (H.t.t.t.t) | have f4 := trivial); (first | have f5 := Sat.pf (H.t.t.t.t.t) | have f5 := trivial); (first | have f6 := Sat.pf (H.t.t.t.t.t.t) | have f6 := trivial); (first | have f7 := Sat.pf (H.t.t.t.t.t.t.t) | have f7 := trivial); (first | have f8 := Sat.pf (H.t.t.t.t.t.t.t.t) | have f8 := trivial); (first | have f9 := Sat.pf (H.t.t.t.t.t.t.t.t.t) | have f9 := trivial); (first | have f10 := Sat.pf (H.t.t.t.t.t.t.t.t.t.t) | have f10 := trivial); (first | have f11 := Sat.pf (H.t.t.t.t.t.t.t.t.t.t.t) | have f11 := trivial))
      | simp -implicitDefEqProofs (disch := first | omega | decide | exact rfl | assumption | exact Nat.le_of_ble_eq_true rfl | exact One.c | exact One.o) only [vsA, vsB, eq_self, if_true, if_false, implies_true, false_implies, evp, HX.ev, Nat.reduceAdd, HOp.looks, Nat.reduceEqDiff, overw, Nat.reduceBEq, h4, ub4, f0, f1, f2, f3, f4, f5, f6, f7, f8, f9, f10, f11, frame0, List.replicate, Nat.sub]
      | (refine condK_cases (fun h => ?_) (fun h => ?_) <;> (try simp only [h]) <;> (try simp only [athA, ne_eq] at h) <;> (try (exfalso; omega)))
      | (refine guardK_cases (fun h => ?_) (fun h => ?_) <;> (try simp only [h]) <;> (try simp only [athA, ne_eq] at h) <;> (try (exfalso; omega)))
      | (refine dgK_cases (fun h => ?_) (fun h => ?_) <;> (try simp only [h]) <;> (try simp only [athA, ne_eq] at h) <;> (try (exfalso; omega)))
      | (clear H f0 f1 f2 f3 f4 f5 f6 f7 f8 f9 f10 f11; (with_reducible intro v2 hs H); (try simp only [setA, overw, Nat.reduceAdd] at H); refine need ?_)
      | ((with_reducible show actK _ (HAct.call (HX.cst (HV.func (Fn.func 9) _ _)) _) _ _ _ _ _); refine vcall_of ok9 rfl (shown9 H G) ?_;  clear H f0 f1 f2 f3 f4 f5 f6 f7 f8 f9 f10 f11; rintro v hs ⟨rfl, H⟩; refine need ?_)
      | ((with_reducible show drK _ _ _ _ _ _ _ _ _ (some ⟨_, HAct.call (HX.cst (HV.func (Fn.func 9) _ _)) _, none⟩)); refine vdr_call ok9 rfl (shown9 H G) ?_;  clear H f0 f1 f2 f3 f4 f5 f6 f7 f8 f9 f10 f11; rintro v hs ⟨rfl, H⟩; refine need ?_)
      | ((with_reducible show actK _ (HAct.call (HX.cst (HV.func (Fn.func 17) _ _)) _) _ _ _ _ _); refine vcall_of ok17 rfl (new17 H mx) ?_;  intro v hs h; rw [if_pos hm] at h; obtain ⟨rfl, h⟩ := h; have H := h; refine need ?_)
      | ((with_reducible show drK _ _ _ _ _ _ _ _ _ (some ⟨_, HAct.call (HX.cst (HV.func (Fn.func 17) _ _)) _, none⟩)); refine vdr_call ok17 rfl (new17 H mx) ?_;  intro v hs h; rw [if_pos hm] at h; obtain ⟨rfl, h⟩ := h; have H := h; refine need ?_)
      | refine opC_K ?_
      | refine opC_D ?_
      | ((with_reducible show opC (hbox _ _) _); refine sl_box1 H (by first | exact rfl | (simp only [f0, f1, f2, f3, f4, f5, f6, f7, f8, f9, f10, f11]; done) | (simp only [onA, *]; done)) (by first | exact rfl | (simp only [f0, f1, f2, f3, f4, f5, f6, f7, f8, f9, f10, f11]; done) | (simp only [onA, *]; done)) ?_)
      | ((with_reducible show opC (hbox _ _) _); refine sl_boxA H (by first | exact rfl | (simp only [f0, f1, f2, f3, f4, f5, f6, f7, f8, f9, f10, f11]; done) | (simp only [onA, *]; done)) ?_)
      | refine hwp_draw mixed rfl ?_
      | with_reducible intro hy

  obtain ⟨mn, rfl⟩ := Int.eq_ofNat_of_zero_le (show 0 ≤ mx by omega)
  have fl := feed_len (newS mn) text
  have fs : (newS mn).held.length = 0 ∧ (newS mn).left = 0 ∧ (newS mn).st = 0 ∧ (newS mn).size = 0 := ⟨rfl, rfl, rfl, rfl⟩
  have td : todo (feedF (newS mn) text) ≤ 2 * text.length + 1 := by unfold todo; split <;> omega
  first | have f0 := Sat.pf (H) | have f0 := trivial
  first | have f1 := Sat.pf (H.t) | have f1 := trivial
  first | have f2 := Sat.pf (H.t.t) | have f2 := trivial
  first | have f3 := Sat.pf (H.t.t.t) | have f3 := trivial
  first | have f4 := Sat.pf (H.t.t.t.t) | have f4 := trivial
  first | have f5 := Sat.pf (H.t.t.t.t.t) | have f5 := trivial
  first | have f6 := Sat.pf (H.t.t.t.t.t.t) | have f6 := trivial
  first | have f7 := Sat.pf (H.t.t.t.t.t.t.t) | have f7 := trivial
  first | have f8 := Sat.pf (H.t.t.t.t.t.t.t.t) | have f8 := trivial
  first | have f9 := Sat.pf (H.t.t.t.t.t.t.t.t.t) | have f9 := trivial
  first | have f10 := Sat.pf (H.t.t.t.t.t.t.t.t.t.t) | have f10 := trivial
  first | have f11 := Sat.pf (H.t.t.t.t.t.t.t.t.t.t.t) | have f11 := trivial
  repeat' first
    | ((with_reducible show Need _); refine need_of ?_; (first | have f0 := Sat.pf (H) | have f0 := trivial); (first | have f1 := Sat.pf (H.t) | have f1 := trivial); (first | have f2 := Sat.pf (H.t.t) | have f2 := trivial); (first | have f3 := Sat.pf (H.t.t.t) | have f3 := trivial); (first | have f4 := Sat.pf (H.t.t.t.t) | have f4 := trivial); (first | have f5 := Sat.pf (H.t.t.t.t.t) | have f5 := trivial); (first | have f6 := Sat.pf (H.t.t.t.t.t.t) | have f6 := trivial); (first | have f7 := Sat.pf (H.t.t.t.t.t.t.t) | have f7 := trivial); (first | have f8 := Sat.pf (H.t.t.t.t.t.t.t.t) | have f8 := trivial); (first | have f9 := Sat.pf (H.t.t.t.t.t.t.t.t.t) | have f9 := trivial); (first | have f10 := Sat.pf (H.t.t.t.t.t.t.t.t.t.t) | have f10 := trivial); (first | have f11 := Sat.pf (H.t.t.t.t.t.t.t.t.t.t.t) | have f11 := trivial))
    | simp -implicitDefEqProofs (disch := first | omega | decide | exact rfl | assumption | exact Nat.le_of_ble_eq_true rfl | exact One.c | exact One.o) only [vsA, vsB, eq_self, if_true, if_false, implies_true, false_implies, evp, HX.ev, Nat.reduceAdd, HOp.looks, Nat.reduceEqDiff, overw, Nat.reduceBEq, h4, sone, scel, lc, va_loadA, ub4, f0, f1, f2, f3, f4, f5, f6, f7, f8, f9, f10, f11, frame0, List.replicate, Nat.sub]
    | (refine condK_cases (fun h => ?_) (fun h => ?_) <;> (try simp only [h]) <;> (try simp only [athA, ne_eq] at h) <;> (try (exfalso; omega)))
    | (refine guardK_cases (fun h => ?_) (fun h => ?_) <;> (try simp only [h]) <;> (try simp only [athA, ne_eq] at h) <;> (try (exfalso; omega)))
    | (refine dgK_cases (fun h => ?_) (fun h => ?_) <;> (try simp only [h]) <;> (try simp only [athA, ne_eq] at h) <;> (try (exfalso; omega)))
    | (clear H f0 f1 f2 f3 f4 f5 f6 f7 f8 f9 f10 f11; (with_reducible intro v2 hs H); (try simp only [setA, overw, Nat.reduceAdd] at H); refine need ?_)
    | ((with_reducible show actK _ (HAct.call (HX.cst (HV.func (Fn.func 9) _ _)) _) _ _ _ _ _); refine vcall_of ok9 rfl (shown9 H G) ?_;  clear H f0 f1 f2 f3 f4 f5 f6 f7 f8 f9 f10 f11; rintro v hs ⟨rfl, H⟩; refine need ?_)
    | ((with_reducible show drK _ _ _ _ _ _ _ _ _ (some ⟨_, HAct.call (HX.cst (HV.func (Fn.func 9) _ _)) _, none⟩)); refine vdr_call ok9 rfl (shown9 H G) ?_;  clear H f0 f1 f2 f3 f4 f5 f6 f7 f8 f9 f10 f11; rintro v hs ⟨rfl, H⟩; refine need ?_)
    | ((with_reducible show actK _ (HAct.call (HX.cst (HV.func (Fn.func 17) _ _)) _) _ _ _ _ _); refine vcall_of ok17 rfl (new17 H (mn : Nat)) ?_;  intro v hs h; rw [if_neg hm, Int.toNat_natCast] at h; (first | (have hx := pa; obtain ⟨pb, rfl, h⟩ := h) | obtain ⟨pa, rfl, h⟩ := h); have H := h; refine need ?_)
    | ((with_reducible show drK _ _ _ _ _ _ _ _ _ (some ⟨_, HAct.call (HX.cst (HV.func (Fn.func 17) _ _)) _, none⟩)); refine vdr_call ok17 rfl (new17 H (mn : Nat)) ?_;  intro v hs h; rw [if_neg hm, Int.toNat_natCast] at h; (first | (have hx := pa; obtain ⟨pb, rfl, h⟩ := h) | obtain ⟨pa, rfl, h⟩ := h); have H := h; refine need ?_)
    | ((with_reducible show actK _ (HAct.call (HX.cst (HV.func (Fn.func 18) _ _)) _) _ _ _ _ _); refine vcall_of ok18 rfl (feedP (s := newS mn) (bs := text) (by with_reducible first | exact H | exact H.p1 | exact H.p2 | exact H.p3 | exact H.p4 | exact H.p5 | exact H.p6 | exact H.p7 | exact H.p8 | exact H.p9 | exact H.p10 | exact H.p11) (fun _ h => RT _ h.t.t.t) (by omega) (by omega)) ?_;  clear H f0 f1 f2 f3 f4 f5 f6 f7 f8 f9 f10 f11; rintro _ hs H; refine need ?_)
    | ((with_reducible show drK _ _ _ _ _ _ _ _ _ (some ⟨_, HAct.call (HX.cst (HV.func (Fn.func 18) _ _)) _, none⟩)); refine vdr_call ok18 rfl (feedP (s := newS mn) (bs := text) (by with_reducible first | exact H | exact H.p1 | exact H.p2 | exact H.p3 | exact H.p4 | exact H.p5 | exact H.p6 | exact H.p7 | exact H.p8 | exact H.p9 | exact H.p10 | exact H.p11) (fun _ h => RT _ h.t.t.t) (by omega) (by omega)) ?_;  clear H f0 f1 f2 f3 f4 f5 f6 f7 f8 f9 f10 f11; rintro _ hs H; refine need ?_)
    | ((with_reducible show actK _ (HAct.call (HX.cst (HV.func (Fn.func 19) _ _)) _) _ _ _ _ _); refine vcall_of ok19 rfl (drain19 (s := feedF (newS mn) text) (sizes := sizes) (rdr_new H.p3.p2.p2.p3) (fun _ h => G _ h.t.t) (fun _ h => RS _ h.t.t) (by omega) (by omega) (by omega) (by simp only [List.length_nil]; omega)) ?_;  clear H f0 f1 f2 f3 f4 f5 f6 f7 f8 f9 f10 f11; rintro _ hs ⟨Lx, sx, kx, hdx, ⟨x1, x2, x3, x4, x5⟩, H⟩; rw [List.nil_append] at H; refine need ?_)
    | ((with_reducible show drK _ _ _ _ _ _ _ _ _ (some ⟨_, HAct.call (HX.cst (HV.func (Fn.func 19) _ _)) _, none⟩)); refine vdr_call ok19 rfl (drain19 (s := feedF (newS mn) text) (sizes := sizes) (rdr_new H.p3.p2.p2.p3) (fun _ h => G _ h.t.t) (fun _ h => RS _ h.t.t) (by omega) (by omega) (by omega) (by simp only [List.length_nil]; omega)) ?_;  clear H f0 f1 f2 f3 f4 f5 f6 f7 f8 f9 f10 f11; rintro _ hs ⟨Lx, sx, kx, hdx, ⟨x1, x2, x3, x4, x5⟩, H⟩; rw [List.nil_append] at H; refine need ?_)
    | refine opC_K ?_
    | refine opC_D ?_
    | ((with_reducible show opC (hbox _ _) _); refine sl_boxA H (by first | exact rfl | (simp only [f0, f1, f2, f3, f4, f5, f6, f7, f8, f9, f10, f11]; done) | (simp only [onA, *]; done)) ?_; (first | (have hx := qx; clear H f0 f1 f2 f3 f4 f5 f6 f7 f8 f9 f10 f11; intro qy hs H) | (clear H f0 f1 f2 f3 f4 f5 f6 f7 f8 f9 f10 f11; intro qx hs H)); refine need ?_)
    | ((with_reducible show opC (hbox _ _) _); refine sl_box1 H (by first | exact rfl | (simp only [f0, f1, f2, f3, f4, f5, f6, f7, f8, f9, f10, f11]; done) | (simp only [onA, *]; done)) (by first | exact rfl | (simp only [f0, f1, f2, f3, f4, f5, f6, f7, f8, f9, f10, f11]; done) | (simp only [onA, *]; done)) ?_)
    | ((with_reducible show opC (hbox _ _) _); refine sl_boxA H (by first | exact rfl | (simp only [f0, f1, f2, f3, f4, f5, f6, f7, f8, f9, f10, f11]; done) | (simp only [onA, *]; done)) ?_)
    | refine hwp_draw mixed rfl ?_
    | with_reducible intro hy

  have H := rdr_new H.p1.p1.p3.p3
  refine HW.loopA mixed (fun t : Nat × Nat × St × Nat × List IE => (.undef :: tv :: .undef :: .undef :: .undef :: .undef :: .undef :: .undef :: .undef :: .ptr pa 0 :: .undef :: .ptr pb 0 :: .undef :: .ptr qx 0 :: .ptr qy 0 :: .int .i64 (t.2.1 : Nat) :: .undef :: .undef :: .undef :: .undef :: .undef :: .undef :: .undef :: .undef :: .undef :: .undef :: .undef :: .undef :: .undef :: .undef :: .undef :: .undef :: .undef :: .undef :: .undef :: .undef :: .undef :: .undef :: .undef :: .undef :: .undef :: .undef :: .undef :: .undef :: .undef :: .undef :: .undef :: .undef :: .undef :: .undef :: .undef :: .undef :: .undef :: .undef :: .undef :: .undef :: .undef :: .undef :: .undef :: .undef :: .undef :: .undef :: .undef :: .undef :: .undef :: .undef :: .undef :: cv :: .int .i64 (C.length : Nat) :: .int .i64 (t.1 : Nat) :: .undef :: .undef :: .undef :: .undef :: .undef :: .undef :: .undef :: .undef :: .undef :: .undef :: .undef :: .undef :: .undef :: .undef :: .undef :: .undef :: .undef :: .undef :: .undef :: .undef :: .undef :: .undef :: .undef :: .undef :: .undef :: .undef :: .undef :: .undef :: .undef :: .undef :: .undef :: .undef :: .undef :: .undef :: .undef :: .undef :: .undef :: .undef :: .undef :: .undef :: .undef :: .undef :: .undef :: .undef :: .undef :: .undef :: .undef :: .undef :: .undef :: .undef :: .undef :: .undef :: .undef :: .undef :: .undef :: .undef :: .undef :: .undef :: .undef :: .undef :: .undef :: .undef :: .undef :: .undef :: .undef :: .undef :: .undef :: .undef :: .undef :: .undef :: .undef :: .undef :: .undef :: .undef :: .undef :: .undef :: []))
    (fun t => RdrP qy pb sv t.2.2.2.1 t.2.2.2.2 :: InP pb t.2.2.1 :: RdrP qx pa sv kx Lx :: InP pa sx :: l) (fun t => C.length - t.1)
    (fun t => t.1 ≤ C.length ∧ t.2.1 ≤ text.length ∧ Told sizes (newS mn) (text.take t.2.1) t.2.2.1 t.2.2.2.1 (t.2.2.2.2.map IE.it) ∧ (t.2.2.1.held.length ≤ t.2.1 ∧ t.2.2.1.st ≤ 3 ∧ t.2.2.1.size ≤ 4294967295 ∧ t.2.2.1.left ≤ 4294967297) ∧ t.2.2.2.1 + todo t.2.2.1 ≤ 2 * t.2.1 + t.1 ∧ t.2.2.2.2.length + todo t.2.2.1 ≤ 2 * t.2.1 + t.1)
    (0, 0, newS mn, 0, []) ⟨by simp, by simp, told0 _ _, ⟨by simp [newS], by simp [newS], by simp [newS], by simp [newS]⟩, by simp [todo, newS], by simp [todo, newS]⟩ (by (repeat first | exact Less.nil | refine Less.undef _ ?_ | refine Less.keep _ ?_)) H ?_
  clear H
  rintro ⟨i, fr, s, k, L⟩ hs ⟨hi, hfr, hT, hb, hk, hL⟩ H
  simp only at hi hfr hT hb hk hL H
  have hs1 : hbin .sub none (.int .i64 (text.length : Nat)) (.int .i64 (fr : Nat)) = some (.int .i64 ((text.length - fr : Nat) : Int)) := vsubn (by omega)
  have st := (RT _ H.t.t.t.t).sOk
  have ltd : todo s ≤ 2 * fr + 1 := by unfold todo; split <;> omega
  by_cases hlt : i < C.length
  · have hx : (C.map (HV.int .i64))[i]? = some (.int .i64 C[i]) := by simp [hlt]
    obtain ⟨qc, hq1, hq2⟩ := (RC _ H.t.t.t.t).idx1 hx .i64
    have so := (RC _ H.t.t.t.t).sOk
    generalize C[i] = c at *
    obtain ⟨m, hmd⟩ : ∃ m, m = amongF c (text.length - fr + 1) := ⟨_, rfl⟩
    have hml := among_lt (i := c) (m := text.length - fr + 1) (by omega)
    rw [← hmd] at hml
    obtain ⟨b1, hb1, Rb1⟩ := rdl_cut RT H.t.t.t.t (lo := fr) (hi := fr + m) (Lo.some (k := .i64)) (Hi.some (k := .i64)) (by omega) (by omega)
    have hbl : ((text.drop fr).take (fr + m - fr)).length = m := by simp; omega
    have htk : text.take (fr + m) = text.take fr ++ (text.drop fr).take (fr + m - fr) := by rw [List.take_add, Nat.add_sub_cancel_left]
    have hT1 := hT.feed ((text.drop fr).take (fr + m - fr))
    rw [← htk] at hT1
    have fl := feed_len s ((text.drop fr).take (fr + m - fr))
    have r3 := rem3 i
    have hsum : hbin .add none (.int .i64 (fr : Nat)) (.int .i64 (m : Nat)) = some (.int .i64 ((fr + m : Nat) : Int)) := vaddn (by omega)
    generalize (text.drop fr).take (fr + m - fr) = b at *
    have td : todo (feedF s b) ≤ todo s + 2 * m := by unfold todo; rw [fl.2.2.1]; omega
    first | have f0 := Sat.pf (H) | have f0 := trivial
    first | have f1 := Sat.pf (H.t) | have f1 := trivial
    first | have f2 := Sat.pf (H.t.t) | have f2 := trivial
    first | have f3 := Sat.pf (H.t.t.t) | have f3 := trivial
    first | have f4 := Sat.pf (H.t.t.t.t) | have f4 := trivial
    first | have f5 := Sat.pf (H.t.t.t.t.t) | have f5 := trivial
    first | have f6 := Sat.pf (H.t.t.t.t.t.t) | have f6 := trivial
    first | have f7 := Sat.pf (H.t.t.t.t.t.t.t) | have f7 := trivial
    first | have f8 := Sat.pf (H.t.t.t.t.t.t.t.t) | have f8 := trivial
    first | have f9 := Sat.pf (H.t.t.t.t.t.t.t.t.t) | have f9 := trivial
    first | have f10 := Sat.pf (H.t.t.t.t.t.t.t.t.t.t) | have f10 := trivial
    first | have f11 := Sat.pf (H.t.t.t.t.t.t.t.t.t.t.t) | have f11 := trivial
    repeat' first
      | ((with_reducible show Need _); refine need_of ?_; (first | have f0 := Sat.pf (H) | have f0 := trivial); (first | have f1 := Sat.pf (H.t) | have f1 := trivial); (first | have f2 := Sat.pf (H.t.t) | have f2 := trivial); (first | have f3 := Sat.pf (H.t.t.t) | have f3 := trivial); (first | have f4 := Sat.pf (H.t.t.t.t) | have f4 := trivial); (first | have f5 := Sat.pf (H.t.t.t.t.t) | have f5 := trivial); (first | have f6 := Sat.pf (H.t.t.t.t.t.t) | have f6 := trivial); (first | have f7 := Sat.pf (H.t.t.t.t.t.t.t) | have f7 := trivial); (first | have f8 := Sat.pf (H.t.t.t.t.t.t.t.t) | have f8 := trivial); (first | have f9 := Sat.pf (H.t.t.t.t.t.t.t.t.t) | have f9 := trivial); (first | have f10 := Sat.pf (H.t.t.t.t.t.t.t.t.t.t) | have f10 := trivial); (first | have f11 := Sat.pf (H.t.t.t.t.t.t.t.t.t.t.t) | have f11 := trivial); (first | have so := (RC _ (by with_reducible first | exact H.t | exact H.t.t | exact H.t.t.t | exact H.t.t.t.t | exact H.t.t.t.t.t | exact H.t.t.t.t.t.t | exact H.t.t.t.t.t.t.t | exact H.t.t.t.t.t.t.t.t)).sOk | skip); (first | have st := (RT _ (by with_reducible first | exact H.t | exact H.t.t | exact H.t.t.t | exact H.t.t.t.t | exact H.t.t.t.t.t | exact H.t.t.t.t.t.t | exact H.t.t.t.t.t.t.t | exact H.t.t.t.t.t.t.t.t)).sOk | skip); (first | have hq2 := (RC _ (by with_reducible first | exact H.t | exact H.t.t | exact H.t.t.t | exact H.t.t.t.t | exact H.t.t.t.t.t | exact H.t.t.t.t.t.t | exact H.t.t.t.t.t.t.t | exact H.t.t.t.t.t.t.t.t)).ld1 hq1 hx | skip))
      | simp -implicitDefEqProofs (disch := first | omega | decide | exact rfl | assumption | exact Nat.le_of_ble_eq_true rfl | exact One.c | exact One.o) only [vsA, vsB, eq_self, if_true, if_false, implies_true, false_implies, evp, HX.ev, Nat.reduceAdd, HOp.looks, Nat.reduceEqDiff, overw, Nat.reduceBEq, st, lt, hs1, so, hq1, hq2, hb1, r3, hsum, vadd1, ub4, f0, f1, f2, f3, f4, f5, f6, f7, f8, f9, f10, f11]
      | (refine condK_cases (fun h => ?_) (fun h => ?_) <;> (try simp only [h]) <;> (try simp only [athA, ne_eq] at h) <;> (try (exfalso; omega)))
      | (refine guardK_cases (fun h => ?_) (fun h => ?_) <;> (try simp only [h]) <;> (try simp only [athA, ne_eq] at h) <;> (try (exfalso; omega)))
      | (refine dgK_cases (fun h => ?_) (fun h => ?_) <;> (try simp only [h]) <;> (try simp only [athA, ne_eq] at h) <;> (try (exfalso; omega)))
      | (clear H f0 f1 f2 f3 f4 f5 f6 f7 f8 f9 f10 f11; (with_reducible intro v2 hs H); (try simp only [setA, overw, Nat.reduceAdd] at H); refine need ?_)
      | ((with_reducible show actK _ (HAct.call (HX.cst (HV.func (Fn.func 20) _ _)) _) _ _ _ _ _); refine vcall_of ok20 rfl (among20 c (text.length - fr + 1) (by omega)) ?_;  rw [← hmd]; rintro _ _ ⟨rfl, rfl⟩)
      | ((with_reducible show drK _ _ _ _ _ _ _ _ _ (some ⟨_, HAct.call (HX.cst (HV.func (Fn.func 20) _ _)) _, none⟩)); refine vdr_call ok20 rfl (among20 c (text.length - fr + 1) (by omega)) ?_;  rw [← hmd]; rintro _ _ ⟨rfl, rfl⟩)
      | ((with_reducible show actK _ (HAct.call (HX.cst (HV.func (Fn.func 18) _ _)) _) _ _ _ _ _); refine vcall_of ok18 rfl (feedP (p := pb) (s := s) (bs := b) (by with_reducible first | exact H | exact H.p1 | exact H.p2 | exact H.p3 | exact H.p4 | exact H.p5 | exact H.p6 | exact H.p7 | exact H.p8 | exact H.p9 | exact H.p10 | exact H.p11) (fun _ h => Rb1 _ h.t.t.t) (by omega) (by omega)) ?_;  clear H f0 f1 f2 f3 f4 f5 f6 f7 f8 f9 f10 f11; rintro _ hs H; refine need ?_)
      | ((with_reducible show drK _ _ _ _ _ _ _ _ _ (some ⟨_, HAct.call (HX.cst (HV.func (Fn.func 18) _ _)) _, none⟩)); refine vdr_call ok18 rfl (feedP (p := pb) (s := s) (bs := b) (by with_reducible first | exact H | exact H.p1 | exact H.p2 | exact H.p3 | exact H.p4 | exact H.p5 | exact H.p6 | exact H.p7 | exact H.p8 | exact H.p9 | exact H.p10 | exact H.p11) (fun _ h => Rb1 _ h.t.t.t) (by omega) (by omega)) ?_;  clear H f0 f1 f2 f3 f4 f5 f6 f7 f8 f9 f10 f11; rintro _ hs H; refine need ?_)
      | ((with_reducible show actK _ (HAct.call (HX.cst (HV.func (Fn.func 19) _ _)) _) _ _ _ _ _); refine vcall_of ok19 rfl (drain19 (q := qy) (p := pb) (s := feedF s b) (sizes := sizes) H.p1 (fun _ h => G _ h.t.t) (fun _ h => RS _ h.t.t) (by omega) (by omega) (by omega) (by omega)) ?_;  clear H f0 f1 f2 f3 f4 f5 f6 f7 f8 f9 f10 f11; rintro _ hs ⟨L', s', k', hd, ⟨y1, y2, y3, y4, y5⟩, H⟩; refine need ?_)
      | ((with_reducible show drK _ _ _ _ _ _ _ _ _ (some ⟨_, HAct.call (HX.cst (HV.func (Fn.func 19) _ _)) _, none⟩)); refine vdr_call ok19 rfl (drain19 (q := qy) (p := pb) (s := feedF s b) (sizes := sizes) H.p1 (fun _ h => G _ h.t.t) (fun _ h => RS _ h.t.t) (by omega) (by omega) (by omega) (by omega)) ?_;  clear H f0 f1 f2 f3 f4 f5 f6 f7 f8 f9 f10 f11; rintro _ hs ⟨L', s', k', hd, ⟨y1, y2, y3, y4, y5⟩, H⟩; refine need ?_)
      | refine opC_K ?_
      | refine opC_D ?_
      | ((with_reducible show opC (hbox _ _) _); refine sl_box1 H (by first | exact rfl | (simp only [f0, f1, f2, f3, f4, f5, f6, f7, f8, f9, f10, f11]; done) | (simp only [onA, *]; done)) (by first | exact rfl | (simp only [f0, f1, f2, f3, f4, f5, f6, f7, f8, f9, f10, f11]; done) | (simp only [onA, *]; done)) ?_)
      | ((with_reducible show opC (hbox _ _) _); refine sl_boxA H (by first | exact rfl | (simp only [f0, f1, f2, f3, f4, f5, f6, f7, f8, f9, f10, f11]; done) | (simp only [onA, *]; done)) ?_)
      | refine hwp_draw mixed rfl ?_
      | with_reducible intro hy

    · refine ⟨(i + 1, fr + m, s', k', L ++ L'), _, by simp only; omega, ⟨by simp only; omega, by simp only; omega, ?_, ⟨by simp only; omega, by simp only; omega, by simp only; omega, by simp only; omega⟩, by simp only; omega, by simp only [List.length_append]; omega⟩, (by (repeat first | exact Less.nil | refine Less.undef _ ?_ | refine Less.keep _ ?_)), Weak.refl _, H⟩
      simp only [List.map_append]
      exact hT1.drain hd
    · exact ⟨(i + 1, fr + m, feedF s b, k, L), _, by simp only; omega, ⟨by simp only; omega, by simp only; omega, hT1, ⟨by simp only; omega, by simp only; omega, by simp only; omega, by simp only; omega⟩, by simp only; omega, by simp only; omega⟩, (by (repeat first | exact Less.nil | refine Less.undef _ ?_ | refine Less.keep _ ?_)), Weak.refl _, H.p1⟩
  · obtain rfl : i = C.length := by omega
    obtain ⟨b1, hb1, Rb1⟩ := rdl_cut RT H.t.t.t.t (lo := fr) (hi := text.length) (Lo.some (k := .i64)) Hi.none (by omega) (by omega)
    have hbl : ((text.drop fr).take (text.length - fr)).length = text.length - fr := by simp
    have htk : text = text.take fr ++ (text.drop fr).take (text.length - fr) := by
      have h1 : (text.drop fr).take (text.length - fr) = text.drop fr := List.take_of_length_le (by simp)
      rw [h1, List.take_append_drop]
    have hT1 := hT.feed ((text.drop fr).take (text.length - fr))
    rw [← htk] at hT1
    have fl := feed_len s ((text.drop fr).take (text.length - fr))
    generalize (text.drop fr).take (text.length - fr) = b at *
    have td : todo (feedF s b) ≤ todo s + 2 * text.length := by unfold todo; rw [fl.2.2.1]; omega
    first | have f0 := Sat.pf (H) | have f0 := trivial
    first | have f1 := Sat.pf (H.t) | have f1 := trivial
    first | have f2 := Sat.pf (H.t.t) | have f2 := trivial
    first | have f3 := Sat.pf (H.t.t.t) | have f3 := trivial
    first | have f4 := Sat.pf (H.t.t.t.t) | have f4 := trivial
    first | have f5 := Sat.pf (H.t.t.t.t.t) | have f5 := trivial
    first | have f6 := Sat.pf (H.t.t.t.t.t.t) | have f6 := trivial
    first | have f7 := Sat.pf (H.t.t.t.t.t.t.t) | have f7 := trivial
    first | have f8 := Sat.pf (H.t.t.t.t.t.t.t.t) | have f8 := trivial
    first | have f9 := Sat.pf (H.t.t.t.t.t.t.t.t.t) | have f9 := trivial
    first | have f10 := Sat.pf (H.t.t.t.t.t.t.t.t.t.t) | have f10 := trivial
    first | have f11 := Sat.pf (H.t.t.t.t.t.t.t.t.t.t.t) | have f11 := trivial
    repeat' first
      | ((with_reducible show Need _); refine need_of ?_; (first | have f0 := Sat.pf (H) | have f0 := trivial); (first | have f1 := Sat.pf (H.t) | have f1 := trivial); (first | have f2 := Sat.pf (H.t.t) | have f2 := trivial); (first | have f3 := Sat.pf (H.t.t.t) | have f3 := trivial); (first | have f4 := Sat.pf (H.t.t.t.t) | have f4 := trivial); (first | have f5 := Sat.pf (H.t.t.t.t.t) | have f5 := trivial); (first | have f6 := Sat.pf (H.t.t.t.t.t.t) | have f6 := trivial); (first | have f7 := Sat.pf (H.t.t.t.t.t.t.t) | have f7 := trivial); (first | have f8 := Sat.pf (H.t.t.t.t.t.t.t.t) | have f8 := trivial); (first | have f9 := Sat.pf (H.t.t.t.t.t.t.t.t.t) | have f9 := trivial); (first | have f10 := Sat.pf (H.t.t.t.t.t.t.t.t.t.t) | have f10 := trivial); (first | have f11 := Sat.pf (H.t.t.t.t.t.t.t.t.t.t.t) | have f11 := trivial); (first | have st := (RT _ (by with_reducible first | exact H.t | exact H.t.t | exact H.t.t.t | exact H.t.t.t.t | exact H.t.t.t.t.t | exact H.t.t.t.t.t.t | exact H.t.t.t.t.t.t.t | exact H.t.t.t.t.t.t.t.t)).sOk | skip))
      | simp -implicitDefEqProofs (disch := first | omega | decide | exact rfl | assumption | exact Nat.le_of_ble_eq_true rfl | exact One.c | exact One.o) only [vsA, vsB, eq_self, if_true, if_false, implies_true, false_implies, evp, HX.ev, Nat.reduceAdd, HOp.looks, Nat.reduceEqDiff, overw, Nat.reduceBEq, st, lt, hb1, vadd1, ub4, f0, f1, f2, f3, f4, f5, f6, f7, f8, f9, f10, f11]
      | (refine condK_cases (fun h => ?_) (fun h => ?_) <;> (try simp only [h]) <;> (try simp only [athA, ne_eq] at h) <;> (try (exfalso; omega)))
      | (refine guardK_cases (fun h => ?_) (fun h => ?_) <;> (try simp only [h]) <;> (try simp only [athA, ne_eq] at h) <;> (try (exfalso; omega)))
      | (refine dgK_cases (fun h => ?_) (fun h => ?_) <;> (try simp only [h]) <;> (try simp only [athA, ne_eq] at h) <;> (try (exfalso; omega)))
      | (clear H f0 f1 f2 f3 f4 f5 f6 f7 f8 f9 f10 f11; (with_reducible intro v2 hs H); (try simp only [setA, overw, Nat.reduceAdd] at H); refine need ?_)
      | ((with_reducible show actK _ (HAct.call (HX.cst (HV.func (Fn.func 18) _ _)) _) _ _ _ _ _); refine vcall_of ok18 rfl (feedP (p := pb) (s := s) (bs := b) (by with_reducible first | exact H | exact H.p1 | exact H.p2 | exact H.p3 | exact H.p4 | exact H.p5 | exact H.p6 | exact H.p7 | exact H.p8 | exact H.p9 | exact H.p10 | exact H.p11) (fun _ h => Rb1 _ h.t.t.t) (by omega) (by omega)) ?_;  clear H f0 f1 f2 f3 f4 f5 f6 f7 f8 f9 f10 f11; rintro _ hs H; refine need ?_)
      | ((with_reducible show drK _ _ _ _ _ _ _ _ _ (some ⟨_, HAct.call (HX.cst (HV.func (Fn.func 18) _ _)) _, none⟩)); refine vdr_call ok18 rfl (feedP (p := pb) (s := s) (bs := b) (by with_reducible first | exact H | exact H.p1 | exact H.p2 | exact H.p3 | exact H.p4 | exact H.p5 | exact H.p6 | exact H.p7 | exact H.p8 | exact H.p9 | exact H.p10 | exact H.p11) (fun _ h => Rb1 _ h.t.t.t) (by omega) (by omega)) ?_;  clear H f0 f1 f2 f3 f4 f5 f6 f7 f8 f9 f10 f11; rintro _ hs H; refine need ?_)
      | ((with_reducible show actK _ (HAct.call (HX.cst (HV.func (Fn.func 19) _ _)) _) _ _ _ _ _); refine vcall_of ok19 rfl (drain19 (q := qy) (p := pb) (s := feedF s b) (sizes := sizes) H.p1 (fun _ h => G _ h.t.t) (fun _ h => RS _ h.t.t) (by omega) (by omega) (by omega) (by omega)) ?_;  clear H f0 f1 f2 f3 f4 f5 f6 f7 f8 f9 f10 f11; rintro _ hs ⟨L', s', k', hd, ⟨y1, y2, y3, y4, y5⟩, H⟩; obtain ⟨e1, e2, e3⟩ := hdx.det (by have := hT1 [] _ _ _ (by rw [feed_nilC]; exact hd); rwa [List.append_nil] at this); have hlen : Lx.length = (L ++ L').length := (by have := congrArg List.length e1; simpa using this); subst e2; obtain ⟨vy, H⟩ := rdr_open.1 H; obtain ⟨vx, H⟩ := rdr_open.1 H.p5.p4.p4.p4.p4.p5; refine need ?_)
      | ((with_reducible show drK _ _ _ _ _ _ _ _ _ (some ⟨_, HAct.call (HX.cst (HV.func (Fn.func 19) _ _)) _, none⟩)); refine vdr_call ok19 rfl (drain19 (q := qy) (p := pb) (s := feedF s b) (sizes := sizes) H.p1 (fun _ h => G _ h.t.t) (fun _ h => RS _ h.t.t) (by omega) (by omega) (by omega) (by omega)) ?_;  clear H f0 f1 f2 f3 f4 f5 f6 f7 f8 f9 f10 f11; rintro _ hs ⟨L', s', k', hd, ⟨y1, y2, y3, y4, y5⟩, H⟩; obtain ⟨e1, e2, e3⟩ := hdx.det (by have := hT1 [] _ _ _ (by rw [feed_nilC]; exact hd); rwa [List.append_nil] at this); have hlen : Lx.length = (L ++ L').length := (by have := congrArg List.length e1; simpa using this); subst e2; obtain ⟨vy, H⟩ := rdr_open.1 H; obtain ⟨vx, H⟩ := rdr_open.1 H.p5.p4.p4.p4.p4.p5; refine need ?_)
      | ((with_reducible show actK _ (HAct.call (HX.cst (HV.func (Fn.func 14) _ _)) _) _ _ _ _ _); refine vcall_of ok14 rfl (held14 (p := pa) (s := sx) (by with_reducible first | exact H | exact H.p1 | exact H.p2 | exact H.p3 | exact H.p4 | exact H.p5 | exact H.p6 | exact H.p7 | exact H.p8 | exact H.p9 | exact H.p10 | exact H.p11)) ?_; rintro _ _ ⟨rfl, rfl⟩)
      | ((with_reducible show drK _ _ _ _ _ _ _ _ _ (some ⟨_, HAct.call (HX.cst (HV.func (Fn.func 14) _ _)) _, none⟩)); refine vdr_call ok14 rfl (held14 (p := pa) (s := sx) (by with_reducible first | exact H | exact H.p1 | exact H.p2 | exact H.p3 | exact H.p4 | exact H.p5 | exact H.p6 | exact H.p7 | exact H.p8 | exact H.p9 | exact H.p10 | exact H.p11)) ?_; rintro _ _ ⟨rfl, rfl⟩)
      | ((with_reducible show actK _ (HAct.call (HX.cst (HV.func (Fn.func 14) _ _)) _) _ _ _ _ _); refine vcall_of ok14 rfl (held14 (p := pb) (s := sx) (by with_reducible first | exact H | exact H.p1 | exact H.p2 | exact H.p3 | exact H.p4 | exact H.p5 | exact H.p6 | exact H.p7 | exact H.p8 | exact H.p9 | exact H.p10 | exact H.p11)) ?_; rintro _ _ ⟨rfl, rfl⟩)
      | ((with_reducible show drK _ _ _ _ _ _ _ _ _ (some ⟨_, HAct.call (HX.cst (HV.func (Fn.func 14) _ _)) _, none⟩)); refine vdr_call ok14 rfl (held14 (p := pb) (s := sx) (by with_reducible first | exact H | exact H.p1 | exact H.p2 | exact H.p3 | exact H.p4 | exact H.p5 | exact H.p6 | exact H.p7 | exact H.p8 | exact H.p9 | exact H.p10 | exact H.p11)) ?_; rintro _ _ ⟨rfl, rfl⟩)
      | refine opC_K ?_
      | refine opC_D ?_
      | ((with_reducible show opC (hbox _ _) _); refine sl_box1 H (by first | exact rfl | (simp only [f0, f1, f2, f3, f4, f5, f6, f7, f8, f9, f10, f11]; done) | (simp only [onA, *]; done)) (by first | exact rfl | (simp only [f0, f1, f2, f3, f4, f5, f6, f7, f8, f9, f10, f11]; done) | (simp only [onA, *]; done)) ?_)
      | ((with_reducible show opC (hbox _ _) _); refine sl_boxA H (by first | exact rfl | (simp only [f0, f1, f2, f3, f4, f5, f6, f7, f8, f9, f10, f11]; done) | (simp only [onA, *]; done)) ?_)
      | refine hwp_draw mixed rfl ?_
      | with_reducible intro hy

    rw [← List.map_append] at e1
    generalize L ++ L' = Ly at *
    have H := H.p6.t.p6.t
    refine HW.loopA mixed (fun i : Nat => (.undef :: .undef :: .undef :: .undef :: .undef :: .undef :: .undef :: .undef :: .undef :: .undef :: .undef :: .undef :: .undef :: .ptr qx 0 :: .ptr qy 0 :: .undef :: .undef :: .undef :: .undef :: .undef :: .undef :: .undef :: .undef :: .undef :: .undef :: .undef :: .undef :: .undef :: .undef :: .undef :: .undef :: .undef :: .undef :: .undef :: .undef :: .undef :: .undef :: .undef :: .undef :: .undef :: .undef :: .undef :: .undef :: .undef :: .undef :: .undef :: .undef :: .undef :: .undef :: .undef :: .undef :: .undef :: .undef :: .undef :: .undef :: .undef :: .undef :: .undef :: .undef :: .undef :: .undef :: .undef :: .undef :: .undef :: .undef :: .undef :: .undef :: .undef :: .undef :: .undef :: .undef :: .undef :: .undef :: .undef :: .undef :: .undef :: .undef :: .undef :: .undef :: .undef :: .undef :: .undef :: .undef :: .undef :: .undef :: .undef :: .undef :: .undef :: .undef :: .undef :: .undef :: .undef :: .undef :: .undef :: .undef :: .undef :: .undef :: .undef :: .undef :: .undef :: .undef :: .undef :: .undef :: .undef :: .undef :: .undef :: .undef :: .undef :: .undef :: .undef :: .undef :: .undef :: .undef :: .undef :: .undef :: .undef :: .undef :: .undef :: .undef :: .undef :: .undef :: .undef :: .undef :: .undef :: .undef :: .int .i64 (Lx.length : Nat) :: .int .i64 (i : Nat) :: .undef :: .undef :: .undef :: .undef :: .undef :: .undef :: .undef :: .undef :: .undef :: .undef :: .undef :: .undef :: .undef :: .undef :: .undef :: .undef :: .undef :: .undef :: .undef :: []))
      (fun _ => pt qx (.cells 1 [.ptr pa 0, sv, .int .i64 (kx : Nat), vx] false false []) :: My 3 vx Lx.length (Lx.flatMap IE.cells) :: each IE.P Lx :: pt qy (.cells 1 [.ptr pb 0, sv, .int .i64 (k' : Nat), vy] false false []) :: My 3 vy Ly.length (Ly.flatMap IE.cells) :: each IE.P Ly :: l)
      (fun i => Lx.length - i) (fun i => i ≤ Lx.length) 0 (by omega) (by (repeat first | exact Less.nil | refine Less.undef _ ?_ | refine Less.keep _ ?_)) H ?_
    clear H
    rintro i hs hi H
    by_cases hlt : i < Lx.length
    · obtain ⟨ex, hex⟩ : ∃ ex, Lx[i]? = some ex := ⟨_, List.getElem?_eq_getElem hlt⟩
      obtain ⟨ey, hey⟩ : ∃ ey, Ly[i]? = some ey := ⟨_, List.getElem?_eq_getElem (by omega)⟩
      have hit : ey.it = ex.it := by
        have h1 : (Lx.map IE.it)[i]? = some ex.it := by rw [List.getElem?_map, hex]; rfl
        have h2 : (Ly.map IE.it)[i]? = some ey.it := by rw [List.getElem?_map, hey]; rfl
        rw [e1, h2] at h1
        exact Option.some.inj h1
      obtain ⟨hx1, ox, w5, _, x6⟩ := (Sat.rd H.p1).idxF (s := 3) (fun _ => rfl) rfl hex .i64
      obtain ⟨hy1, oy, u5, _, y6⟩ := (Sat.rd H.p4).idxF (s := 3) (fun _ => rfl) rfl hey .i64
      have x6 : hload (some 3) hs (.ptr hx1 ox) = some (.agg [.int .i64 ex.it.kind, .str ex.it.text, ex.w]) := x6
      have y6 : hload (some 3) hs (.ptr hy1 oy) = some (.agg [.int .i64 ex.it.kind, .str ex.it.text, ey.w]) := by rw [← hit]; exact y6
      have hbx : ex.it.body.length < 4611686018427387904 := by have := x5 ex (List.mem_of_getElem? hex); omega
      have q1 : (ex.it.text == ex.it.text) = true := by simp
      have q2 : (ex.it.body == ex.it.body) = true := by simp
      first | have f0 := Sat.pf (H) | have f0 := trivial
      first | have f1 := Sat.pf (H.t) | have f1 := trivial
      first | have f2 := Sat.pf (H.t.t) | have f2 := trivial
      first | have f3 := Sat.pf (H.t.t.t) | have f3 := trivial
      first | have f4 := Sat.pf (H.t.t.t.t) | have f4 := trivial
      first | have f5 := Sat.pf (H.t.t.t.t.t) | have f5 := trivial
      first | have f6 := Sat.pf (H.t.t.t.t.t.t) | have f6 := trivial
      first | have f7 := Sat.pf (H.t.t.t.t.t.t.t) | have f7 := trivial
      first | have f8 := Sat.pf (H.t.t.t.t.t.t.t.t) | have f8 := trivial
      first | have f9 := Sat.pf (H.t.t.t.t.t.t.t.t.t) | have f9 := trivial
      first | have f10 := Sat.pf (H.t.t.t.t.t.t.t.t.t.t) | have f10 := trivial
      first | have f11 := Sat.pf (H.t.t.t.t.t.t.t.t.t.t.t) | have f11 := trivial
      repeat' first
        | ((with_reducible show Need _); refine need_of ?_; (first | have f0 := Sat.pf (H) | have f0 := trivial); (first | have f1 := Sat.pf (H.t) | have f1 := trivial); (first | have f2 := Sat.pf (H.t.t) | have f2 := trivial); (first | have f3 := Sat.pf (H.t.t.t) | have f3 := trivial); (first | have f4 := Sat.pf (H.t.t.t.t) | have f4 := trivial); (first | have f5 := Sat.pf (H.t.t.t.t.t) | have f5 := trivial); (first | have f6 := Sat.pf (H.t.t.t.t.t.t) | have f6 := trivial); (first | have f7 := Sat.pf (H.t.t.t.t.t.t.t) | have f7 := trivial); (first | have f8 := Sat.pf (H.t.t.t.t.t.t.t.t) | have f8 := trivial); (first | have f9 := Sat.pf (H.t.t.t.t.t.t.t.t.t) | have f9 := trivial); (first | have f10 := Sat.pf (H.t.t.t.t.t.t.t.t.t.t) | have f10 := trivial); (first | have f11 := Sat.pf (H.t.t.t.t.t.t.t.t.t.t.t) | have f11 := trivial))
        | simp -implicitDefEqProofs (disch := first | omega | decide | exact rfl | assumption | exact Nat.le_of_ble_eq_true rfl | exact One.c | exact One.o) only [vsA, vsB, eq_self, if_true, if_false, implies_true, false_implies, evp, HX.ev, Nat.reduceAdd, HOp.looks, Nat.reduceEqDiff, overw, Nat.reduceBEq, w5, x6, u5, y6, q1, q2, vadd1, Bool.and_self, ub4, f0, f1, f2, f3, f4, f5, f6, f7, f8, f9, f10, f11]
        | (refine condK_cases (fun h => ?_) (fun h => ?_) <;> (try simp only [h]) <;> (try simp only [athA, ne_eq] at h) <;> (try (exfalso; omega)))
        | (refine guardK_cases (fun h => ?_) (fun h => ?_) <;> (try simp only [h]) <;> (try simp only [athA, ne_eq] at h) <;> (try (exfalso; omega)))
        | (refine dgK_cases (fun h => ?_) (fun h => ?_) <;> (try simp only [h]) <;> (try simp only [athA, ne_eq] at h) <;> (try (exfalso; omega)))
        | (clear H f0 f1 f2 f3 f4 f5 f6 f7 f8 f9 f10 f11; (with_reducible intro v2 hs H); (try simp only [setA, overw, Nat.reduceAdd] at H); refine need ?_)
        | ((with_reducible show actK _ (HAct.call (HX.cst (HV.func (Fn.func 21) _ _)) _) _ _ _ _ _); refine vcall_of ok21 rfl (alike21 (x := ex.it.body) (y := ex.it.body) H (fun _ h => ie_at h.p2 hex) (fun _ h => by rw [← hit]; exact ie_at h.p5 hey) hbx) ?_;  clear H f0 f1 f2 f3 f4 f5 f6 f7 f8 f9 f10 f11; rintro v hs ⟨rfl, H⟩; refine need ?_)
        | ((with_reducible show drK _ _ _ _ _ _ _ _ _ (some ⟨_, HAct.call (HX.cst (HV.func (Fn.func 21) _ _)) _, none⟩)); refine vdr_call ok21 rfl (alike21 (x := ex.it.body) (y := ex.it.body) H (fun _ h => ie_at h.p2 hex) (fun _ h => by rw [← hit]; exact ie_at h.p5 hey) hbx) ?_;  clear H f0 f1 f2 f3 f4 f5 f6 f7 f8 f9 f10 f11; rintro v hs ⟨rfl, H⟩; refine need ?_)
        | refine opC_K ?_
        | refine opC_D ?_
        | ((with_reducible show opC (hbox _ _) _); refine sl_box1 H (by first | exact rfl | (simp only [f0, f1, f2, f3, f4, f5, f6, f7, f8, f9, f10, f11]; done) | (simp only [onA, *]; done)) (by first | exact rfl | (simp only [f0, f1, f2, f3, f4, f5, f6, f7, f8, f9, f10, f11]; done) | (simp only [onA, *]; done)) ?_)
        | ((with_reducible show opC (hbox _ _) _); refine sl_boxA H (by first | exact rfl | (simp only [f0, f1, f2, f3, f4, f5, f6, f7, f8, f9, f10, f11]; done) | (simp only [onA, *]; done)) ?_)
        | refine hwp_draw mixed rfl ?_
        | with_reducible intro hy

      exact ⟨i + 1, _, by omega, by omega, (by (repeat first | exact Less.nil | refine Less.undef _ ?_ | refine Less.keep _ ?_)), Weak.refl _, H⟩
    · skip
      first | have f0 := Sat.pf (H) | have f0 := trivial
      first | have f1 := Sat.pf (H.t) | have f1 := trivial
      first | have f2 := Sat.pf (H.t.t) | have f2 := trivial
      first | have f3 := Sat.pf (H.t.t.t) | have f3 := trivial
      first | have f4 := Sat.pf (H.t.t.t.t) | have f4 := trivial
      first | have f5 := Sat.pf (H.t.t.t.t.t) | have f5 := trivial
      first | have f6 := Sat.pf (H.t.t.t.t.t.t) | have f6 := trivial
      first | have f7 := Sat.pf (H.t.t.t.t.t.t.t) | have f7 := trivial
      first | have f8 := Sat.pf (H.t.t.t.t.t.t.t.t) | have f8 := trivial
      first | have f9 := Sat.pf (H.t.t.t.t.t.t.t.t.t) | have f9 := trivial
      first | have f10 := Sat.pf (H.t.t.t.t.t.t.t.t.t.t) | have f10 := trivial
      first | have f11 := Sat.pf (H.t.t.t.t.t.t.t.t.t.t.t) | have f11 := trivial
      repeat' first
        | ((with_reducible show Need _); refine need_of ?_; (first | have f0 := Sat.pf (H) | have f0 := trivial); (first | have f1 := Sat.pf (H.t) | have f1 := trivial); (first | have f2 := Sat.pf (H.t.t) | have f2 := trivial); (first | have f3 := Sat.pf (H.t.t.t) | have f3 := trivial); (first | have f4 := Sat.pf (H.t.t.t.t) | have f4 := trivial); (first | have f5 := Sat.pf (H.t.t.t.t.t) | have f5 := trivial); (first | have f6 := Sat.pf (H.t.t.t.t.t.t) | have f6 := trivial); (first | have f7 := Sat.pf (H.t.t.t.t.t.t.t) | have f7 := trivial); (first | have f8 := Sat.pf (H.t.t.t.t.t.t.t.t) | have f8 := trivial); (first | have f9 := Sat.pf (H.t.t.t.t.t.t.t.t.t) | have f9 := trivial); (first | have f10 := Sat.pf (H.t.t.t.t.t.t.t.t.t.t) | have f10 := trivial); (first | have f11 := Sat.pf (H.t.t.t.t.t.t.t.t.t.t.t) | have f11 := trivial))
        | simp -implicitDefEqProofs (disch := first | omega | decide | exact rfl | assumption | exact Nat.le_of_ble_eq_true rfl | exact One.c | exact One.o) only [vsA, vsB, eq_self, if_true, if_false, implies_true, false_implies, evp, HX.ev, Nat.reduceAdd, HOp.looks, Nat.reduceEqDiff, overw, Nat.reduceBEq, vadd1, ub4, f0, f1, f2, f3, f4, f5, f6, f7, f8, f9, f10, f11]
        | (refine condK_cases (fun h => ?_) (fun h => ?_) <;> (try simp only [h]) <;> (try simp only [athA, ne_eq] at h) <;> (try (exfalso; omega)))
        | (refine guardK_cases (fun h => ?_) (fun h => ?_) <;> (try simp only [h]) <;> (try simp only [athA, ne_eq] at h) <;> (try (exfalso; omega)))
        | (refine dgK_cases (fun h => ?_) (fun h => ?_) <;> (try simp only [h]) <;> (try simp only [athA, ne_eq] at h) <;> (try (exfalso; omega)))
        | (clear H f0 f1 f2 f3 f4 f5 f6 f7 f8 f9 f10 f11; (with_reducible intro v2 hs H); (try simp only [setA, overw, Nat.reduceAdd] at H); refine need ?_)
        | refine opC_K ?_
        | refine opC_D ?_
        | ((with_reducible show opC (hbox _ _) _); refine sl_box1 H (by first | exact rfl | (simp only [f0, f1, f2, f3, f4, f5, f6, f7, f8, f9, f10, f11]; done) | (simp only [onA, *]; done)) (by first | exact rfl | (simp only [f0, f1, f2, f3, f4, f5, f6, f7, f8, f9, f10, f11]; done) | (simp only [onA, *]; done)) ?_)
        | ((with_reducible show opC (hbox _ _) _); refine sl_boxA H (by first | exact rfl | (simp only [f0, f1, f2, f3, f4, f5, f6, f7, f8, f9, f10, f11]; done) | (simp only [onA, *]; done)) ?_)
        | refine hwp_draw mixed rfl ?_
        | with_reducible intro hy

end Go.Proofs.Ytccfcegmaejlnaa
namespace Go.Proofs.Ytccfcegmaejlnaa
open Go Go.HL Go.ChangeShapes Go.WideShapes Go.ChangeAt Go.RowKit Go.Shelf
set_option maxRecDepth 100000
set_option linter.unusedSimpArgs false

theorem own : ownKnob Try.prog.godebug = none := by kernel_rfl
theorem laidOut : laidOutB Try.prog = true := by kernel_rfl

theorem bulk_len {H : Type} : ∀ ds : List (DataW H), ds.length ≤ Rows.uptoBulkAll ds
  | [] => by simp
  | d :: ds => by
    have h1 : 1 ≤ Rows.uptoBulk d := by
      cases d with
      | lit l => cases l <;> simp [Rows.uptoBulk]
      | _ => simp [Rows.uptoBulk]
    have := bulk_len ds
    simp only [List.length_cons, Rows.uptoBulkAll]; omega
theorem bulk_slice {H : Type} {d : DataW H} {n : Nat} (h : n = 0 ∨ ∃ el sp, d = .slice el sp ∧ el.length = n) : n ≤ Rows.uptoBulk d := by
  rcases h with rfl | ⟨el, sp, rfl, rfl⟩
  · exact Nat.zero_le _
  · have := bulk_len el
    simp only [Rows.uptoBulk]; omega
theorem cuts_reads (os : Os) {H : Type} (enc : TypeId × Value → H) : ∃ places, DataW.whole enc Try.prog ((World.laidAll Try.prog os Rows.intakeCutsUptoRow.laid).forCall (fun _ _ => 0) ⟨#[], #[.int .i64 0, .slice none 0 0, .slice none 0 0, .slice none 0 0], []⟩).memory
    Try.f4.params.toList (Rows.OpenSpec.upto Rows.intakeCutsSpec).vars false #[Value.int .i64 0, Value.slice none 0 0, Value.slice none 0 0, Value.slice none 0 0].toList 8 = some ([.lit (.int .i64 0), .nil, .nil, .nil], [], places) :=
  ⟨[], by kernel_rfl⟩
theorem cuts_lifted (os : Os) (started : os.Started) (H : Type) (enc : TypeId × Value → H) (F : Stop.Interp) :
    ReturnsInHanded {} Try.checked os 4 .any ((Rows.OpenSpec.upto Rows.intakeCutsSpec).preRow enc Try.prog Try.f4 Rows.intakeCutsUptoRow.domain false Rows.intakeCutsUptoRow.laid)
      (((Rows.OpenSpec.upto Rows.intakeCutsSpec).at F).post enc Try.prog Try.f4 false true false false) := by
  obtain ⟨places, hx⟩ := cuts_reads os enc
  refine returnsInHanded_of_row (C := Try.checked) (s := Rows.OpenSpec.upto Rows.intakeCutsSpec) own started (by kernel_rfl) Try.func4
    (witness_row_shaped (enc := enc) (C := Try.checked) false (World.laidAll Try.prog os Rows.intakeCutsUptoRow.laid) #[.int .i64 0, .slice none 0 0, .slice none 0 0, .slice none 0 0] (World.laidAll_os _ _ _)
      (World.shaped_of_ZipB (by kernel_rfl) (by kernel_rfl)) (by kernel_rfl)
      (OpenSpec.preRow_of_cond 8 hx (by kernel_rfl) (fun k hk => by cases hk; kernel_rfl) (by kernel_rfl)
        (by rw [MakeChecks.laidMetH_plain _ _ _ (by kernel_rfl)]; exact laidMet_laidAll _ (by kernel_rfl) (by kernel_rfl)))) ?_
  intro M base args ds gs before hval0 hW _ hcond _ hL hsh _
  have hval : ∀ (j : Nat) t v, Try.f4.params[j]? = some t → args[j]? = some v → Value.okWide Try.prog M .any base t v := hval0
  have hW' := hW
  obtain ⟨p, q, hA0, hV, rfl, hfz, hnd⟩ := hW
  have hA : DataW.TrodAll enc Try.prog M 0 (fun _ => true) true Try.f4.params.toList args.toList ds p := hA0
  rw [Try.params4] at hA hval
  obtain ⟨v0, v1, v2, v3, d0, d1, d2, d3, p0, p1, p2, p3, rfl, rfl, rfl, h0, h1, h2, h3⟩ := trodAll_four hA
  obtain ⟨rfl, rfl⟩ := trodVars_none hV
  have hk := of_decide_eq_true (hcond _ rfl)
  have hk2 : Rows.uptoBulk d0 + (Rows.uptoBulk d1 + (Rows.uptoBulk d2 + Rows.uptoBulk d3)) ≤ 1048576 := by
    simpa only [Rows.uptoBulkAll, List.cons_append, List.nil_append, List.append_nil, Nat.add_zero] using hk
  clear hk hcond
  obtain ⟨fu1, hf1⟩ := h1
  obtain ⟨fu2, hf2⟩ := h2
  obtain ⟨fu3, hf3⟩ := h3
  obtain ⟨mi, hm⟩ := Try.laysM185.s1_3 M hsh
  have hE : Emb [⟨0, 0, 1, 1⟩] [some (.gint 0)] M := emb_gint hm
  have hro0 : AllRo [some (.gint 0)] := fun i b h => by
    have hi : i = 0 := by have := lt_of_get h; simp at this; omega
    subst hi
    simp at h; subst h; rfl
  have c3 : Try.prog.cellsOf 3 = 1 := by kernel_rfl
  have c5 : Try.prog.cellsOf 5 = 1 := by kernel_rfl
  obtain ⟨β1, hs1, tv, text, x1, ⟨g1, x2⟩, x3, x4, x5, x6, x7⟩ := arg_bytesR Try.underlying30 Try.underlying5 c5 hf1 hE hro0 (by simp)
  obtain ⟨β2, hs2, cv, C, y1, ⟨g2, y2⟩, y3, y4, y5, y6, y7⟩ := arg_intsR Try.underlying42 Try.underlying3 c3 hf2 x3 x4 (by rw [x2]; simp)
  obtain ⟨β', hs', sv, S, z1, ⟨g3, z2⟩, z3, z4, z5, z6, z7⟩ := arg_intsR Try.underlying42 Try.underlying3 c3 hf3 y3 y4 (by rw [y2, x2]; simp)
  have b1 := bulk_slice (d := d1) (n := text.length) (x7.imp (fun h => by rw [h]; rfl) id)
  have b2 := bulk_slice (d := d2) (n := C.length) (y7.imp (fun h => by rw [h]; rfl) id)
  obtain ⟨k0, rfl⟩ : ∃ k, v0 = .int .i64 k := by
    obtain ⟨k, rfl, _⟩ := okWide_int Try.underlying3 (hval 0 3 v0 rfl rfl)
    exact ⟨k, rfl⟩
  obtain ⟨a1, l1, n1, rfl⟩ := okWide_slice Try.underlying30 (hval 1 30 v1 rfl rfl)
  obtain ⟨a2, l2, n2, rfl⟩ := okWide_slice Try.underlying42 (hval 2 42 v2 rfl rfl)
  obtain ⟨a3, l3, n3, rfl⟩ := okWide_slice Try.underlying42 (hval 3 42 v3 rfl rfl)
  have one : ∀ {β : List Ent} {v : HV} {a : Option Addr} {l c : Nat}, RelL β [v] (Value.slice a l c).cells.toList → Rel β v (.slice a l c) := by
    intro β v a l c h
    simp only [RelL] at h
    obtain ⟨u, us, e1, e2, _⟩ := h
    simp [Value.cells] at e1
    obtain ⟨rfl, rfl⟩ := e1
    exact e2
  have r1 : Rel β' tv (.slice a1 l1 n1) := (one x5).mono (y1.trans z1) _ _
  have r2 : Rel β' cv (.slice a2 l2 n2) := (one y5).mono z1 _ _
  have r3 : Rel β' sv (.slice a3 l3 n3) := one z5
  have hG : ∀ hs, Sat hs [HL.base hs'] → hs[0]? = some (some (HB.gint 0)) := fun hs h => h.base_get (by rw [z2, y2, x2]; rfl)
  have R1 : Rd hs' 1 tv text.length (bcells text) := by rw [z2, y2]; exact x6.more.more
  have R2 : Rd hs' 1 cv C.length (C.map (HV.int .i64)) := by rw [z2]; exact y6.more
  refine (HC.below (us := [.int .i64 k0, .slice a1 l1 n1, .slice a2 l2 n2, .slice a3 l3 n3]) z3 (by simp only [RelL]; exact ⟨_, _, rfl, rfl, _, _, rfl, r1, _, _, rfl, r2, _, _, rfl, r3, rfl⟩) z4
    (law4 (Sat.base_of hs') hG (fun hs h => R1.base h) (fun hs h => R2.base h) (fun hs h => z6.base h) (by omega) (by omega) k0)).mono fun e M' ⟨he, hb⟩ => ?_
  subst he
  exact ⟨_, rfl, law_post (s := Rows.intakeCutsSpec) (tb := 4) laidOut rfl Try.underlying4 (by kernel_rfl) (by kernel_rfl) hW' rfl hb⟩

theorem intakeCuts_holds : Rows.IntakeCutsUptoSaid :=
  OpenClaim.holds_of_cond 4 Try.f4 rfl rfl rfl rfl rfl rfl rfl ⟨rfl, rfl, rfl, rfl, rfl⟩ rfl rfl rfl rfl rfl (by kernel_rfl) Try.func4 (by kernel_rfl)
    (of_decide_eq_true (by kernel_rfl)) (by unfold Func.isWrapper; first | (rw [if_pos (by decide +kernel)]; kernel_rfl) | (rw [if_neg (by decide +kernel)]; exact ⟨rfl, rfl⟩))
    (fun os started H enc _ F => by rw [OpenClaim.pre_eq_preRow]; exact cuts_lifted os started H enc F)
#print axioms intakeCuts_holds
end Go.Proofs.Ytccfcegmaejlnaa
