/-
  answers: the cursor's names and bytes; bytes.Clone.
  answers.form: a reply of a kind, read from the beginning of bytes.
  answers: the reply with which bytes begin.
  answers.Reader: Feed.
  answers.Reader: New, Next, Held.
  stintlaw08.same, sameReply: what they answer.
  stintlaw08.same, sameReply: what they answer.
  Check, Put, sameReply, and how many bytes replies come to: in parts.
  answers, plainly: what is told of a beginning is the beginning of what is told.
-/
import Derived.Test.YthihchoccpnfeaaDoorKC1
import Derived.Test.YthihchoccpnfeaaDoorKCHLCopy
namespace Go.Proofs.YthihchoccpnfeaaDoor
open Go Go.HL Go.Shelf V
namespace A
set_option maxRecDepth 100000
set_option maxHeartbeats 40000000
set_option linter.unusedSimpArgs false
attribute [local irreducible] pt My Ex Vw Gr GrK each grp exs Sat takeCells happend hbuildSlice hstore hbox hslice hmakeSlice hs2b hcopy HL.unit opC
theorem rd_b2sK {hs : HS} {v : HV} {n : Nat} {b : List UInt8} (R : Rd hs 1 v n (bcells b)) : b2sK hs v = some (.str b, hs) := by
  have h := rd_b2s (fr := []) (x := .cst v) rfl R
  rw [vo_b2s] at h; exact h
theorem nameGo_step (r : List UInt8) (k : Nat) : nameGo r k = if k < r.length ∧ validL (r.take (k + 1)) = true then nameGo r (k + 1) else k := by
  conv => lhs; unfold nameGo
  split <;> simp_all
theorem name64 {hs : HS} {l : List SA} {p : Nat} {bv : HV} {b : List UInt8} {c : Nat × Bool} (H : Sat hs (CrP p bv c :: l)) (R : Rdl l bv b.length (bcells b)) (hc : c.1 ≤ b.length) (hb : b.length < 4611686018427387904) :
    HC Tryd.prog 64 [.ptr p 0] hs fun v hs' => v = .str (nameF b c).2 ∧ Sat hs' (CrP p bv (nameF b c).1 :: l) := by
  unfold CrP at H ⊢
  obtain ⟨at_, off⟩ := c
  simp only at H hc
  have lb := (R _ H.t).len
  refine HC.wp mixed Tryd.func64 c64 ?_
  first | have f0 := Sat.pf (H) | have f0 := trivial
  first | have f1 := Sat.pf (H.t) | have f1 := trivial
  first | have f2 := Sat.pf (H.t.t) | have f2 := trivial
  first | have f3 := Sat.pf (H.t.t.t) | have f3 := trivial
  first | have f4 := Sat.pf (H.t.t.t.t) | have f4 := trivial
  first | have f5 := Sat.pf (H.t.t.t.t.t) | have f5 := trivial
  repeat' first
    | ((with_reducible show Need _); refine need_of ?_; (first | have f0 := Sat.pf (H) | have f0 := trivial); (first | have f1 := Sat.pf (H.t) | have f1 := trivial); (first | have f2 := Sat.pf (H.t.t) | have f2 := trivial); (first | have f3 := Sat.pf (H.t.t.t) | have f3 := trivial); (first | have f4 := Sat.pf (H.t.t.t.t) | have f4 := trivial); (first | have f5 := Sat.pf (H.t.t.t.t.t) | have f5 := trivial))
    | simp -implicitDefEqProofs (disch := first | omega | decide | exact rfl | assumption | exact Nat.le_of_ble_eq_true rfl | exact One.c | exact One.o) only [vsA, vsB, eq_self, if_true, if_false, implies_true, false_implies, evp, HX.ev, Nat.reduceAdd, HOp.looks, Nat.reduceEqDiff, overw, Nat.reduceBEq, h64, lb, ub64, f0, f1, f2, f3, f4, f5, frame0, List.replicate, Nat.sub]
    | (refine condK_cases (fun h => ?_) (fun h => ?_) <;> (try simp only [h]) <;> (try simp only [athA, ne_eq] at h) <;> (try (exfalso; omega)))
    | (refine guardK_cases (fun h => ?_) (fun h => ?_) <;> (try simp only [h]) <;> (try simp only [athA, ne_eq] at h) <;> (try (exfalso; omega)))
    | (refine dgK_cases (fun h => ?_) (fun h => ?_) <;> (try simp only [h]) <;> (try simp only [athA, ne_eq] at h) <;> (try (exfalso; omega)))
    | (clear H f0 f1 f2 f3 f4 f5; (with_reducible intro v2 hs H); (try simp only [setA, overw, Nat.reduceAdd] at H); refine need ?_)
    | refine opC_K ?_
    | refine opC_D ?_
    | ((with_reducible show opC (unit (hstore _ _ _ _)) _); refine sl_store1 (by with_reducible first | exact H | exact H.p1 | exact H.p2 | exact H.p3 | exact H.p4 | exact H.p5) (Nat.le_of_ble_eq_true rfl) (by first | exact rfl | (simp only [f0, f1, f2, f3, f4, f5]; done) | (simp only [onA, *]; done)) (by first | exact rfl | (simp only [f0, f1, f2, f3, f4, f5]; done) | (simp only [onA, *]; done)) ?_)
    | ((with_reducible show opC (unit (hstore _ _ _ _)) _); refine sl_storeN (by with_reducible first | exact H | exact H.p1 | exact H.p2 | exact H.p3 | exact H.p4 | exact H.p5) rfl (Nat.le_of_ble_eq_true rfl) (by first | exact rfl | (simp only [f0, f1, f2, f3, f4, f5]; done) | (simp only [onA, *]; done)) ?_)
    | refine hwp_draw mixed rfl ?_
    | with_reducible intro hy

  cases off with
  | true =>
    have e : nameF b (at_, true) = ((at_, true), []) := by unfold nameF; rw [if_pos rfl]
    rw [e]
    obtain ⟨cv, hcv, rc⟩ := rd_cut (R _ H.t) rfl (lo := at_) (hi := at_) (Lo.some (k := .i64)) (Hi.some (k := .i64)) (by omega) hc
    have rb := (R _ H.t).sOk
    have rs := rd_b2sK rc
    refine HW.loopA mixed (fun _ : Nat => (.ptr p 0 :: .undef :: .undef :: .int .i64 (at_ : Nat) :: .undef :: .undef :: .undef :: .undef :: .undef :: .undef :: .undef :: .undef :: .undef :: .undef :: .undef :: .undef :: .undef :: .undef :: .undef :: .undef :: .undef :: .undef :: .undef :: .undef :: .undef :: .undef :: .undef :: .undef :: .undef :: .undef :: .undef :: .undef :: .undef :: .undef :: .undef :: .undef :: .undef :: .undef :: .undef :: .undef :: .undef :: .undef :: .undef :: .undef :: .undef :: .undef :: .undef :: .undef :: .undef :: .undef :: .undef :: .undef :: .undef :: .undef :: .undef :: .undef :: .undef :: .undef :: .undef :: .undef :: .undef :: .undef :: .undef :: .undef :: .undef :: .undef :: .undef :: .undef :: .undef :: .undef :: .undef :: .undef :: .undef :: [])) (fun _ => pt p (.cells 1 [bv, .int .i64 (at_ : Nat), .bool true] false false []) :: l) (fun i => i) (fun _ => True) 0 trivial (by (repeat first | exact Less.nil | refine Less.undef _ ?_ | refine Less.keep _ ?_)) H ?_
    clear H rb rs rc
    rintro i hs _ H
    have rb := (R _ H.t).sOk
    obtain ⟨cv2, hcv2, rc⟩ := rd_cut (R _ H.t) rfl (lo := at_) (hi := at_) (Lo.some (k := .i64)) (Hi.some (k := .i64)) (by omega) hc
    rw [hcv] at hcv2; cases hcv2
    have rs := rd_b2sK rc
    first | have f0 := Sat.pf (H) | have f0 := trivial
    first | have f1 := Sat.pf (H.t) | have f1 := trivial
    first | have f2 := Sat.pf (H.t.t) | have f2 := trivial
    first | have f3 := Sat.pf (H.t.t.t) | have f3 := trivial
    first | have f4 := Sat.pf (H.t.t.t.t) | have f4 := trivial
    first | have f5 := Sat.pf (H.t.t.t.t.t) | have f5 := trivial
    repeat' first
      | ((with_reducible show Need _); refine need_of ?_; (first | have f0 := Sat.pf (H) | have f0 := trivial); (first | have f1 := Sat.pf (H.t) | have f1 := trivial); (first | have f2 := Sat.pf (H.t.t) | have f2 := trivial); (first | have f3 := Sat.pf (H.t.t.t) | have f3 := trivial); (first | have f4 := Sat.pf (H.t.t.t.t) | have f4 := trivial); (first | have f5 := Sat.pf (H.t.t.t.t.t) | have f5 := trivial); (first | have rb := (R _ H.t).sOk | skip); (first | (obtain ⟨cv2, hcv2, rc⟩ := rd_cut (R _ H.t) rfl (lo := at_) (hi := at_) (Lo.some (k := .i64)) (Hi.some (k := .i64)) (by omega) hc; rw [hcv] at hcv2; cases hcv2; have rs := rd_b2sK rc) | skip))
      | simp -implicitDefEqProofs (disch := first | omega | decide | exact rfl | assumption | exact Nat.le_of_ble_eq_true rfl | exact One.c | exact One.o) only [vsA, vsB, eq_self, if_true, if_false, implies_true, false_implies, evp, HX.ev, Nat.reduceAdd, HOp.looks, Nat.reduceEqDiff, overw, Nat.reduceBEq, vadd1, rb, rs, hcv, ub64, f0, f1, f2, f3, f4, f5]
      | (refine condK_cases (fun h => ?_) (fun h => ?_) <;> (try simp only [h]) <;> (try simp only [athA, ne_eq] at h) <;> (try (exfalso; omega)))
      | (refine guardK_cases (fun h => ?_) (fun h => ?_) <;> (try simp only [h]) <;> (try simp only [athA, ne_eq] at h) <;> (try (exfalso; omega)))
      | (refine dgK_cases (fun h => ?_) (fun h => ?_) <;> (try simp only [h]) <;> (try simp only [athA, ne_eq] at h) <;> (try (exfalso; omega)))
      | (clear H f0 f1 f2 f3 f4 f5; (with_reducible intro v2 hs H); (try simp only [setA, overw, Nat.reduceAdd] at H); refine need ?_)
      | refine opC_K ?_
      | refine opC_D ?_
      | ((with_reducible show opC (unit (hstore _ _ _ _)) _); refine sl_store1 (by with_reducible first | exact H | exact H.p1 | exact H.p2 | exact H.p3 | exact H.p4 | exact H.p5) (Nat.le_of_ble_eq_true rfl) (by first | exact rfl | (simp only [f0, f1, f2, f3, f4, f5]; done) | (simp only [onA, *]; done)) (by first | exact rfl | (simp only [f0, f1, f2, f3, f4, f5]; done) | (simp only [onA, *]; done)) ?_)
      | ((with_reducible show opC (unit (hstore _ _ _ _)) _); refine sl_storeN (by with_reducible first | exact H | exact H.p1 | exact H.p2 | exact H.p3 | exact H.p4 | exact H.p5) rfl (Nat.le_of_ble_eq_true rfl) (by first | exact rfl | (simp only [f0, f1, f2, f3, f4, f5]; done) | (simp only [onA, *]; done)) ?_)
      | refine hwp_draw mixed rfl ?_
      | with_reducible intro hy

    exact ⟨by simp, H⟩
  | false =>
    refine HW.loopA mixed (fun i : Nat => (.ptr p 0 :: .undef :: .undef :: .int .i64 (at_ : Nat) :: .undef :: .undef :: .undef :: .undef :: .undef :: .undef :: .undef :: .undef :: .undef :: .undef :: .undef :: .undef :: .undef :: .undef :: .undef :: .undef :: .undef :: .undef :: .undef :: .undef :: .undef :: .undef :: .undef :: .undef :: .undef :: .undef :: .undef :: .undef :: .undef :: .undef :: .undef :: .undef :: .undef :: .undef :: .undef :: .undef :: .undef :: .undef :: .undef :: .undef :: .undef :: .undef :: .undef :: .undef :: .undef :: .undef :: .undef :: .undef :: .undef :: .undef :: .undef :: .undef :: .undef :: .undef :: .undef :: .undef :: .undef :: .undef :: .undef :: .undef :: .undef :: .undef :: .undef :: .undef :: .undef :: .undef :: .undef :: .undef :: .undef :: [])) (fun i => pt p (.cells 1 [bv, .int .i64 ((at_ + i : Nat) : Int), .bool false] false false []) :: l) (fun i => b.length - i)
      (fun i => at_ + i ≤ b.length ∧ nameGo (b.drop at_) 0 = nameGo (b.drop at_) i) 0 ⟨by omega, rfl⟩ (by (repeat first | exact Less.nil | refine Less.undef _ ?_ | refine Less.keep _ ?_)) H ?_
    clear H
    rintro i hs ⟨ha, he⟩ H
    have fin : nameF b (at_, false) = ((at_ + nameGo (b.drop at_) 0, nameGo (b.drop at_) 0 == 0), (b.drop at_).take (nameGo (b.drop at_) 0)) := by unfold nameF; rw [if_neg (by simp)]
    have hst := nameGo_step (b.drop at_) i
    rw [List.length_drop] at hst
    obtain ⟨cv, hcv, rc⟩ := rd_cut (R _ H.t) rfl (lo := at_) (hi := at_ + i) (Lo.some (k := .i64)) (Hi.some (k := .i64)) (by omega) ha
    have rb := (R _ H.t).sOk
    have rs := rd_b2sK rc
    rw [Nat.add_sub_cancel_left] at rs
    have eb : decide (((at_ + i : Nat) : Int) = (at_ : Nat)) = (i == 0) := by
      rw [Bool.eq_iff_iff]; simp; omega
    by_cases h2 : at_ + i < b.length
    · obtain ⟨dv, hdv, rd⟩ := rd_cut (R _ H.t) rfl (lo := at_) (hi := at_ + i + 1) (Lo.some (k := .i64)) (Hi.some (k := .i64)) (by omega) (by omega)
      have rt := rd_b2sK rd
      rw [show at_ + i + 1 - at_ = i + 1 by omega] at rt
      cases hv : validL ((b.drop at_).take (i + 1)) with
      | true =>
        first | have f0 := Sat.pf (H) | have f0 := trivial
        first | have f1 := Sat.pf (H.t) | have f1 := trivial
        first | have f2 := Sat.pf (H.t.t) | have f2 := trivial
        first | have f3 := Sat.pf (H.t.t.t) | have f3 := trivial
        first | have f4 := Sat.pf (H.t.t.t.t) | have f4 := trivial
        first | have f5 := Sat.pf (H.t.t.t.t.t) | have f5 := trivial
        repeat' first
          | ((with_reducible show Need _); refine need_of ?_; (first | have f0 := Sat.pf (H) | have f0 := trivial); (first | have f1 := Sat.pf (H.t) | have f1 := trivial); (first | have f2 := Sat.pf (H.t.t) | have f2 := trivial); (first | have f3 := Sat.pf (H.t.t.t) | have f3 := trivial); (first | have f4 := Sat.pf (H.t.t.t.t) | have f4 := trivial); (first | have f5 := Sat.pf (H.t.t.t.t.t) | have f5 := trivial))
          | simp -implicitDefEqProofs (disch := first | omega | decide | exact rfl | assumption | exact Nat.le_of_ble_eq_true rfl | exact One.c | exact One.o) only [vsA, vsB, eq_self, if_true, if_false, implies_true, false_implies, evp, HX.ev, Nat.reduceAdd, HOp.looks, Nat.reduceEqDiff, overw, Nat.reduceBEq, lb, rb, hcv, hdv, rt, hv, vadd1, ub64, f0, f1, f2, f3, f4, f5]
          | (refine condK_cases (fun h => ?_) (fun h => ?_) <;> (try simp only [h]) <;> (try simp only [athA, ne_eq] at h) <;> (try (exfalso; omega)))
          | (refine guardK_cases (fun h => ?_) (fun h => ?_) <;> (try simp only [h]) <;> (try simp only [athA, ne_eq] at h) <;> (try (exfalso; omega)))
          | (refine dgK_cases (fun h => ?_) (fun h => ?_) <;> (try simp only [h]) <;> (try simp only [athA, ne_eq] at h) <;> (try (exfalso; omega)))
          | (clear H f0 f1 f2 f3 f4 f5; (with_reducible intro v2 hs H); (try simp only [setA, overw, Nat.reduceAdd] at H); refine need ?_)
          | ((with_reducible show actK _ (HAct.call (HX.cst (HV.func (Fn.func 37) _ _)) _) _ _ _ _ _); refine vcall_of ok37 rfl (valid37 _ _) ?_; rintro _ _ ⟨rfl, rfl⟩)
          | ((with_reducible show drK _ _ _ _ _ _ _ _ _ (some ⟨_, HAct.call (HX.cst (HV.func (Fn.func 37) _ _)) _, none⟩)); refine vdr_call ok37 rfl (valid37 _ _) ?_; rintro _ _ ⟨rfl, rfl⟩)
          | refine opC_K ?_
          | refine opC_D ?_
          | ((with_reducible show opC (unit (hstore _ _ _ _)) _); refine sl_store1 (by with_reducible first | exact H | exact H.p1 | exact H.p2 | exact H.p3 | exact H.p4 | exact H.p5) (Nat.le_of_ble_eq_true rfl) (by first | exact rfl | (simp only [f0, f1, f2, f3, f4, f5]; done) | (simp only [onA, *]; done)) (by first | exact rfl | (simp only [f0, f1, f2, f3, f4, f5]; done) | (simp only [onA, *]; done)) ?_)
          | ((with_reducible show opC (unit (hstore _ _ _ _)) _); refine sl_storeN (by with_reducible first | exact H | exact H.p1 | exact H.p2 | exact H.p3 | exact H.p4 | exact H.p5) rfl (Nat.le_of_ble_eq_true rfl) (by first | exact rfl | (simp only [f0, f1, f2, f3, f4, f5]; done) | (simp only [onA, *]; done)) ?_)
          | refine hwp_draw mixed rfl ?_
          | with_reducible intro hy

        rw [if_pos ⟨by omega, hv⟩] at hst
        exact ⟨i + 1, _, by omega, ⟨by omega, by rw [he, hst]⟩, (by (repeat first | exact Less.nil | refine Less.undef _ ?_ | refine Less.keep _ ?_)), Weak.refl _, H⟩
      | false =>
        first | have f0 := Sat.pf (H) | have f0 := trivial
        first | have f1 := Sat.pf (H.t) | have f1 := trivial
        first | have f2 := Sat.pf (H.t.t) | have f2 := trivial
        first | have f3 := Sat.pf (H.t.t.t) | have f3 := trivial
        first | have f4 := Sat.pf (H.t.t.t.t) | have f4 := trivial
        first | have f5 := Sat.pf (H.t.t.t.t.t) | have f5 := trivial
        repeat' first
          | ((with_reducible show Need _); refine need_of ?_; (first | have f0 := Sat.pf (H) | have f0 := trivial); (first | have f1 := Sat.pf (H.t) | have f1 := trivial); (first | have f2 := Sat.pf (H.t.t) | have f2 := trivial); (first | have f3 := Sat.pf (H.t.t.t) | have f3 := trivial); (first | have f4 := Sat.pf (H.t.t.t.t) | have f4 := trivial); (first | have f5 := Sat.pf (H.t.t.t.t.t) | have f5 := trivial); (first | have rb := (R _ H.t).sOk | skip); (first | (obtain ⟨cv2, hcv2, rc⟩ := rd_cut (R _ H.t) rfl (lo := at_) (hi := at_ + i) (Lo.some (k := .i64)) (Hi.some (k := .i64)) (by omega) ha; rw [hcv] at hcv2; cases hcv2; have rs := rd_b2sK rc; rw [Nat.add_sub_cancel_left] at rs) | skip))
          | simp -implicitDefEqProofs (disch := first | omega | decide | exact rfl | assumption | exact Nat.le_of_ble_eq_true rfl | exact One.c | exact One.o) only [vsA, vsB, eq_self, if_true, if_false, implies_true, false_implies, evp, HX.ev, Nat.reduceAdd, HOp.looks, Nat.reduceEqDiff, overw, Nat.reduceBEq, lb, rb, hcv, hdv, rs, rt, hv, vadd1, ub64, f0, f1, f2, f3, f4, f5]
          | (refine condK_cases (fun h => ?_) (fun h => ?_) <;> (try simp only [h]) <;> (try simp only [athA, ne_eq] at h) <;> (try (exfalso; omega)))
          | (refine guardK_cases (fun h => ?_) (fun h => ?_) <;> (try simp only [h]) <;> (try simp only [athA, ne_eq] at h) <;> (try (exfalso; omega)))
          | (refine dgK_cases (fun h => ?_) (fun h => ?_) <;> (try simp only [h]) <;> (try simp only [athA, ne_eq] at h) <;> (try (exfalso; omega)))
          | (clear H f0 f1 f2 f3 f4 f5; (with_reducible intro v2 hs H); (try simp only [setA, overw, Nat.reduceAdd] at H); refine need ?_)
          | ((with_reducible show actK _ (HAct.call (HX.cst (HV.func (Fn.func 37) _ _)) _) _ _ _ _ _); refine vcall_of ok37 rfl (valid37 _ _) ?_; rintro _ _ ⟨rfl, rfl⟩)
          | ((with_reducible show drK _ _ _ _ _ _ _ _ _ (some ⟨_, HAct.call (HX.cst (HV.func (Fn.func 37) _ _)) _, none⟩)); refine vdr_call ok37 rfl (valid37 _ _) ?_; rintro _ _ ⟨rfl, rfl⟩)
          | refine opC_K ?_
          | refine opC_D ?_
          | ((with_reducible show opC (unit (hstore _ _ _ _)) _); refine sl_store1 (by with_reducible first | exact H | exact H.p1 | exact H.p2 | exact H.p3 | exact H.p4 | exact H.p5) (Nat.le_of_ble_eq_true rfl) (by first | exact rfl | (simp only [f0, f1, f2, f3, f4, f5]; done) | (simp only [onA, *]; done)) (by first | exact rfl | (simp only [f0, f1, f2, f3, f4, f5]; done) | (simp only [onA, *]; done)) ?_)
          | ((with_reducible show opC (unit (hstore _ _ _ _)) _); refine sl_storeN (by with_reducible first | exact H | exact H.p1 | exact H.p2 | exact H.p3 | exact H.p4 | exact H.p5) rfl (Nat.le_of_ble_eq_true rfl) (by first | exact rfl | (simp only [f0, f1, f2, f3, f4, f5]; done) | (simp only [onA, *]; done)) ?_)
          | refine hwp_draw mixed rfl ?_
          | with_reducible intro hy

        rw [if_neg (by rw [hv]; simp)] at hst
        rw [fin, he, hst]
        rw [eb] at H
        exact ⟨rfl, H⟩
    · skip
      first | have f0 := Sat.pf (H) | have f0 := trivial
      first | have f1 := Sat.pf (H.t) | have f1 := trivial
      first | have f2 := Sat.pf (H.t.t) | have f2 := trivial
      first | have f3 := Sat.pf (H.t.t.t) | have f3 := trivial
      first | have f4 := Sat.pf (H.t.t.t.t) | have f4 := trivial
      first | have f5 := Sat.pf (H.t.t.t.t.t) | have f5 := trivial
      repeat' first
        | ((with_reducible show Need _); refine need_of ?_; (first | have f0 := Sat.pf (H) | have f0 := trivial); (first | have f1 := Sat.pf (H.t) | have f1 := trivial); (first | have f2 := Sat.pf (H.t.t) | have f2 := trivial); (first | have f3 := Sat.pf (H.t.t.t) | have f3 := trivial); (first | have f4 := Sat.pf (H.t.t.t.t) | have f4 := trivial); (first | have f5 := Sat.pf (H.t.t.t.t.t) | have f5 := trivial); (first | have rb := (R _ H.t).sOk | skip); (first | (obtain ⟨cv2, hcv2, rc⟩ := rd_cut (R _ H.t) rfl (lo := at_) (hi := at_ + i) (Lo.some (k := .i64)) (Hi.some (k := .i64)) (by omega) ha; rw [hcv] at hcv2; cases hcv2; have rs := rd_b2sK rc; rw [Nat.add_sub_cancel_left] at rs) | skip))
        | simp -implicitDefEqProofs (disch := first | omega | decide | exact rfl | assumption | exact Nat.le_of_ble_eq_true rfl | exact One.c | exact One.o) only [vsA, vsB, eq_self, if_true, if_false, implies_true, false_implies, evp, HX.ev, Nat.reduceAdd, HOp.looks, Nat.reduceEqDiff, overw, Nat.reduceBEq, lb, rb, hcv, rs, vadd1, ub64, f0, f1, f2, f3, f4, f5]
        | (refine condK_cases (fun h => ?_) (fun h => ?_) <;> (try simp only [h]) <;> (try simp only [athA, ne_eq] at h) <;> (try (exfalso; omega)))
        | (refine guardK_cases (fun h => ?_) (fun h => ?_) <;> (try simp only [h]) <;> (try simp only [athA, ne_eq] at h) <;> (try (exfalso; omega)))
        | (refine dgK_cases (fun h => ?_) (fun h => ?_) <;> (try simp only [h]) <;> (try simp only [athA, ne_eq] at h) <;> (try (exfalso; omega)))
        | (clear H f0 f1 f2 f3 f4 f5; (with_reducible intro v2 hs H); (try simp only [setA, overw, Nat.reduceAdd] at H); refine need ?_)
        | refine opC_K ?_
        | refine opC_D ?_
        | ((with_reducible show opC (unit (hstore _ _ _ _)) _); refine sl_store1 (by with_reducible first | exact H | exact H.p1 | exact H.p2 | exact H.p3 | exact H.p4 | exact H.p5) (Nat.le_of_ble_eq_true rfl) (by first | exact rfl | (simp only [f0, f1, f2, f3, f4, f5]; done) | (simp only [onA, *]; done)) (by first | exact rfl | (simp only [f0, f1, f2, f3, f4, f5]; done) | (simp only [onA, *]; done)) ?_)
        | ((with_reducible show opC (unit (hstore _ _ _ _)) _); refine sl_storeN (by with_reducible first | exact H | exact H.p1 | exact H.p2 | exact H.p3 | exact H.p4 | exact H.p5) rfl (Nat.le_of_ble_eq_true rfl) (by first | exact rfl | (simp only [f0, f1, f2, f3, f4, f5]; done) | (simp only [onA, *]; done)) ?_)
        | refine hwp_draw mixed rfl ?_
        | with_reducible intro hy

      rw [if_neg (by omega)] at hst
      rw [fin, he, hst]
      rw [eb] at H
      exact ⟨rfl, H⟩
theorem bytes63 {hs : HS} {l : List SA} {p n : Nat} {bv : HV} {b : List UInt8} {c : Nat × Bool} (H : Sat hs (CrP p bv c :: l)) (R : Rdl l bv b.length (bcells b)) (hc : c.1 ≤ b.length) (hb : b.length < 140737488351232) :
    HC Tryd.prog 63 [.ptr p 0, .int .i64 (n : Nat)] hs fun v hs' => Sat hs' (My 1 v (bytesF b n c).2.length (bcells (bytesF b n c).2) :: CrP p bv (bytesF b n c).1 :: l) := by
  unfold CrP at H ⊢
  obtain ⟨at_, off⟩ := c
  simp only at H hc
  have lb := (R _ H.t).len
  refine HC.wp mixed Tryd.func63 c63 ?_
  cases off with
  | true =>
    have e : bytesF b n (at_, true) = ((at_, true), []) := by unfold bytesF; rw [if_pos rfl]
    rw [e]
    first | have f0 := Sat.pf (H) | have f0 := trivial
    first | have f1 := Sat.pf (H.t) | have f1 := trivial
    first | have f2 := Sat.pf (H.t.t) | have f2 := trivial
    first | have f3 := Sat.pf (H.t.t.t) | have f3 := trivial
    first | have f4 := Sat.pf (H.t.t.t.t) | have f4 := trivial
    first | have f5 := Sat.pf (H.t.t.t.t.t) | have f5 := trivial
    repeat' first
      | ((with_reducible show Need _); refine need_of ?_; (first | have f0 := Sat.pf (H) | have f0 := trivial); (first | have f1 := Sat.pf (H.t) | have f1 := trivial); (first | have f2 := Sat.pf (H.t.t) | have f2 := trivial); (first | have f3 := Sat.pf (H.t.t.t) | have f3 := trivial); (first | have f4 := Sat.pf (H.t.t.t.t) | have f4 := trivial); (first | have f5 := Sat.pf (H.t.t.t.t.t) | have f5 := trivial))
      | simp -implicitDefEqProofs (disch := first | omega | decide | exact rfl | assumption | exact Nat.le_of_ble_eq_true rfl | exact One.c | exact One.o) only [vsA, vsB, eq_self, if_true, if_false, implies_true, false_implies, evp, HX.ev, Nat.reduceAdd, HOp.looks, Nat.reduceEqDiff, overw, Nat.reduceBEq, h63, lb, ub63, f0, f1, f2, f3, f4, f5, frame0, List.replicate, Nat.sub]
      | (refine condK_cases (fun h => ?_) (fun h => ?_) <;> (try simp only [h]) <;> (try simp only [athA, ne_eq] at h) <;> (try (exfalso; omega)))
      | (refine guardK_cases (fun h => ?_) (fun h => ?_) <;> (try simp only [h]) <;> (try simp only [athA, ne_eq] at h) <;> (try (exfalso; omega)))
      | (refine dgK_cases (fun h => ?_) (fun h => ?_) <;> (try simp only [h]) <;> (try simp only [athA, ne_eq] at h) <;> (try (exfalso; omega)))
      | (clear H f0 f1 f2 f3 f4 f5; (with_reducible intro v2 hs H); (try simp only [setA, overw, Nat.reduceAdd] at H); refine need ?_)
      | refine opC_K ?_
      | refine opC_D ?_
      | ((with_reducible show opC (unit (hstore _ _ _ _)) _); refine sl_store1 (by with_reducible first | exact H | exact H.p1 | exact H.p2 | exact H.p3 | exact H.p4 | exact H.p5) (Nat.le_of_ble_eq_true rfl) (by first | exact rfl | (simp only [f0, f1, f2, f3, f4, f5]; done) | (simp only [onA, *]; done)) (by first | exact rfl | (simp only [f0, f1, f2, f3, f4, f5]; done) | (simp only [onA, *]; done)) ?_)
      | ((with_reducible show opC (unit (hstore _ _ _ _)) _); refine sl_storeN (by with_reducible first | exact H | exact H.p1 | exact H.p2 | exact H.p3 | exact H.p4 | exact H.p5) rfl (Nat.le_of_ble_eq_true rfl) (by first | exact rfl | (simp only [f0, f1, f2, f3, f4, f5]; done) | (simp only [onA, *]; done)) ?_)
      | refine hwp_draw mixed rfl ?_
      | with_reducible intro hy

    exact Sat.own0 H
  | false =>
    have hs1 : hbin .sub none (.int .i64 (b.length : Nat)) (.int .i64 (at_ : Nat)) = some (.int .i64 ((b.length - at_ : Nat) : Int)) := vsubn (by omega)
    by_cases hn : b.length - at_ < n
    · have e : bytesF b n (at_, false) = ((b.length, true), []) := by unfold bytesF; rw [if_neg (by simp), if_pos hn]
      rw [e]
      first | have f0 := Sat.pf (H) | have f0 := trivial
      first | have f1 := Sat.pf (H.t) | have f1 := trivial
      first | have f2 := Sat.pf (H.t.t) | have f2 := trivial
      first | have f3 := Sat.pf (H.t.t.t) | have f3 := trivial
      first | have f4 := Sat.pf (H.t.t.t.t) | have f4 := trivial
      first | have f5 := Sat.pf (H.t.t.t.t.t) | have f5 := trivial
      repeat' first
        | ((with_reducible show Need _); refine need_of ?_; (first | have f0 := Sat.pf (H) | have f0 := trivial); (first | have f1 := Sat.pf (H.t) | have f1 := trivial); (first | have f2 := Sat.pf (H.t.t) | have f2 := trivial); (first | have f3 := Sat.pf (H.t.t.t) | have f3 := trivial); (first | have f4 := Sat.pf (H.t.t.t.t) | have f4 := trivial); (first | have f5 := Sat.pf (H.t.t.t.t.t) | have f5 := trivial))
        | simp -implicitDefEqProofs (disch := first | omega | decide | exact rfl | assumption | exact Nat.le_of_ble_eq_true rfl | exact One.c | exact One.o) only [vsA, vsB, eq_self, if_true, if_false, implies_true, false_implies, evp, HX.ev, Nat.reduceAdd, HOp.looks, Nat.reduceEqDiff, overw, Nat.reduceBEq, h63, lb, hs1, ub63, f0, f1, f2, f3, f4, f5, frame0, List.replicate, Nat.sub]
        | (refine condK_cases (fun h => ?_) (fun h => ?_) <;> (try simp only [h]) <;> (try simp only [athA, ne_eq] at h) <;> (try (exfalso; omega)))
        | (refine guardK_cases (fun h => ?_) (fun h => ?_) <;> (try simp only [h]) <;> (try simp only [athA, ne_eq] at h) <;> (try (exfalso; omega)))
        | (refine dgK_cases (fun h => ?_) (fun h => ?_) <;> (try simp only [h]) <;> (try simp only [athA, ne_eq] at h) <;> (try (exfalso; omega)))
        | (clear H f0 f1 f2 f3 f4 f5; (with_reducible intro v2 hs H); (try simp only [setA, overw, Nat.reduceAdd] at H); refine need ?_)
        | refine opC_K ?_
        | refine opC_D ?_
        | ((with_reducible show opC (unit (hstore _ _ _ _)) _); refine sl_store1 (by with_reducible first | exact H | exact H.p1 | exact H.p2 | exact H.p3 | exact H.p4 | exact H.p5) (Nat.le_of_ble_eq_true rfl) (by first | exact rfl | (simp only [f0, f1, f2, f3, f4, f5]; done) | (simp only [onA, *]; done)) (by first | exact rfl | (simp only [f0, f1, f2, f3, f4, f5]; done) | (simp only [onA, *]; done)) ?_)
        | ((with_reducible show opC (unit (hstore _ _ _ _)) _); refine sl_storeN (by with_reducible first | exact H | exact H.p1 | exact H.p2 | exact H.p3 | exact H.p4 | exact H.p5) rfl (Nat.le_of_ble_eq_true rfl) (by first | exact rfl | (simp only [f0, f1, f2, f3, f4, f5]; done) | (simp only [onA, *]; done)) ?_)
        | refine hwp_draw mixed rfl ?_
        | with_reducible intro hy

      exact Sat.own0 H
    · have e : bytesF b n (at_, false) = ((at_ + n, false), (b.drop at_).take n) := by unfold bytesF; rw [if_neg (by simp), if_neg hn]
      rw [e]
      obtain ⟨cv, hcv, rc⟩ := rd_cut (R _ H.t) rfl (lo := at_) (hi := b.length) (Lo.some (k := .i64)) Hi.none (by omega) (by omega)
      have rb := (R _ H.t).sOk
      have hsum : hbin .add none (.int .i64 (at_ : Nat)) (.int .i64 (n : Nat)) = some (.int .i64 ((at_ + n : Nat) : Int)) := vaddn (by omega)
      first | have f0 := Sat.pf (H) | have f0 := trivial
      first | have f1 := Sat.pf (H.t) | have f1 := trivial
      first | have f2 := Sat.pf (H.t.t) | have f2 := trivial
      first | have f3 := Sat.pf (H.t.t.t) | have f3 := trivial
      first | have f4 := Sat.pf (H.t.t.t.t) | have f4 := trivial
      first | have f5 := Sat.pf (H.t.t.t.t.t) | have f5 := trivial
      repeat' first
        | ((with_reducible show Need _); refine need_of ?_; (first | have f0 := Sat.pf (H) | have f0 := trivial); (first | have f1 := Sat.pf (H.t) | have f1 := trivial); (first | have f2 := Sat.pf (H.t.t) | have f2 := trivial); (first | have f3 := Sat.pf (H.t.t.t) | have f3 := trivial); (first | have f4 := Sat.pf (H.t.t.t.t) | have f4 := trivial); (first | have f5 := Sat.pf (H.t.t.t.t.t) | have f5 := trivial); (first | have rb := (R _ (by with_reducible first | exact H.t | exact H.t.t)).sOk | skip); (first | (obtain ⟨cv2, hcv2, rc⟩ := rd_cut (R _ (by with_reducible first | exact H.t | exact H.t.t)) rfl (lo := at_) (hi := b.length) (Lo.some (k := .i64)) Hi.none (by omega) (by omega); rw [hcv] at hcv2; cases hcv2) | skip))
        | simp -implicitDefEqProofs (disch := first | omega | decide | exact rfl | assumption | exact Nat.le_of_ble_eq_true rfl | exact One.c | exact One.o) only [vsA, vsB, eq_self, if_true, if_false, implies_true, false_implies, evp, HX.ev, Nat.reduceAdd, HOp.looks, Nat.reduceEqDiff, overw, Nat.reduceBEq, h63, lb, hs1, hcv, rb, hsum, ub63, f0, f1, f2, f3, f4, f5, frame0, List.replicate, Nat.sub]
        | (refine condK_cases (fun h => ?_) (fun h => ?_) <;> (try simp only [h]) <;> (try simp only [athA, ne_eq] at h) <;> (try (exfalso; omega)))
        | (refine guardK_cases (fun h => ?_) (fun h => ?_) <;> (try simp only [h]) <;> (try simp only [athA, ne_eq] at h) <;> (try (exfalso; omega)))
        | (refine dgK_cases (fun h => ?_) (fun h => ?_) <;> (try simp only [h]) <;> (try simp only [athA, ne_eq] at h) <;> (try (exfalso; omega)))
        | (clear H f0 f1 f2 f3 f4 f5; (with_reducible intro v2 hs H); (try simp only [setA, overw, Nat.reduceAdd] at H); refine need ?_)
        | refine opC_K ?_
        | refine opC_D ?_
        | (refine sl_make H on_int (by omega) (Nat.le_refl _) (by omega) ?_; clear H f0 f1 f2 f3 f4 f5; intro w hs H; refine need ?_)
        | (refine sl_copy (n := n) (by with_reducible first | exact H | exact H.p1 | exact H.p2 | exact H.p3 | exact H.p4 | exact H.p5) rc ?_; clear H f0 f1 f2 f3 f4 f5; intro hs H; refine need ?_)
        | ((with_reducible show opC (unit (hstore _ _ _ _)) _); refine sl_store1 (by with_reducible first | exact H | exact H.p1 | exact H.p2 | exact H.p3 | exact H.p4 | exact H.p5) (Nat.le_of_ble_eq_true rfl) (by first | exact rfl | (simp only [f0, f1, f2, f3, f4, f5]; done) | (simp only [onA, *]; done)) (by first | exact rfl | (simp only [f0, f1, f2, f3, f4, f5]; done) | (simp only [onA, *]; done)) ?_)
        | ((with_reducible show opC (unit (hstore _ _ _ _)) _); refine sl_storeN (by with_reducible first | exact H | exact H.p1 | exact H.p2 | exact H.p3 | exact H.p4 | exact H.p5) rfl (Nat.le_of_ble_eq_true rfl) (by first | exact rfl | (simp only [f0, f1, f2, f3, f4, f5]; done) | (simp only [onA, *]; done)) ?_)
        | refine hwp_draw mixed rfl ?_
        | with_reducible intro hy

      have ln : ((b.drop at_).take n).length = n := by simp; omega
      have hz : (List.replicate n (HV.int .u8 0)).drop n = [] := List.drop_eq_nil_of_le (by simp)
      rw [Nat.min_eq_right (by omega), hz, List.append_nil, bc_take, List.take_take, Nat.min_eq_left (by omega)] at H
      rw [ln]
      exact H.p1
/-- bytes, copied. -/
theorem clone47 {hs : HS} {l : List SA} {bv : HV} {b : List UInt8} (H : Sat hs l) (R : Rdl l bv b.length (bcells b)) (hb : b.length < 140737488351232) :
    HC Tryd.prog 47 [bv] hs fun v hs' => Sat hs' (My 1 v b.length (bcells b) :: l) := by
  have hmax : maxLen = 9223372036854775807 := rfl
  have nil_or : (bv = .nilSlice ∧ b.length = 0) ∨ ∃ h o c, bv = .slice h o b.length c := by
    obtain ⟨_, h | ⟨h, o, h1, h2⟩ | ⟨h, o, cap, cs, ro, opn, olds, h1, _⟩⟩ := R _ H
    · exact .inl h
    · exact .inr ⟨h, o, some 0, by rw [h1, h2]⟩
    · exact .inr ⟨h, o, cap, h1⟩
  refine HC.wp mixed Tryd.func47 c47 ?_
  rcases nil_or with ⟨rfl, hn⟩ | ⟨h, o, c, rfl⟩
  · have e : b = [] := List.eq_nil_of_length_eq_zero hn
    subst e
    first | have f0 := Sat.pf (H) | have f0 := trivial
    first | have f1 := Sat.pf (H.t) | have f1 := trivial
    first | have f2 := Sat.pf (H.t.t) | have f2 := trivial
    first | have f3 := Sat.pf (H.t.t.t) | have f3 := trivial
    first | have f4 := Sat.pf (H.t.t.t.t) | have f4 := trivial
    first | have f5 := Sat.pf (H.t.t.t.t.t) | have f5 := trivial
    repeat' first
      | ((with_reducible show Need _); refine need_of ?_; (first | have f0 := Sat.pf (H) | have f0 := trivial); (first | have f1 := Sat.pf (H.t) | have f1 := trivial); (first | have f2 := Sat.pf (H.t.t) | have f2 := trivial); (first | have f3 := Sat.pf (H.t.t.t) | have f3 := trivial); (first | have f4 := Sat.pf (H.t.t.t.t) | have f4 := trivial); (first | have f5 := Sat.pf (H.t.t.t.t.t) | have f5 := trivial))
      | simp -implicitDefEqProofs (disch := first | omega | decide | exact rfl | assumption | exact Nat.le_of_ble_eq_true rfl | exact One.c | exact One.o) only [vsA, vsB, eq_self, if_true, if_false, implies_true, false_implies, evp, HX.ev, Nat.reduceAdd, HOp.looks, Nat.reduceEqDiff, overw, Nat.reduceBEq, h47, vse_0, f0, f1, f2, f3, f4, f5, frame0, List.replicate, Nat.sub]
      | (refine condK_cases (fun h => ?_) (fun h => ?_) <;> (try simp only [h]) <;> (try simp only [athA, ne_eq] at h) <;> (try (exfalso; omega)))
      | (refine guardK_cases (fun h => ?_) (fun h => ?_) <;> (try simp only [h]) <;> (try simp only [athA, ne_eq] at h) <;> (try (exfalso; omega)))
      | (clear H f0 f1 f2 f3 f4 f5; (with_reducible intro v2 hs H); (try simp only [setA, overw, Nat.reduceAdd] at H); refine need ?_)
      | refine opC_K ?_
      | ((with_reducible show opC (happend _ _ _ _ _) _); refine sl_append (by with_reducible first | exact H | exact H.p1 | exact H.p2 | exact H.p3 | exact H.p4 | exact H.p5) (by first | assumption | with_reducible first | exact f0.2.1 | exact f1.2.1 | exact f2.2.1 | exact f3.2.1 | exact f4.2.1 | exact f5.2.1 | exact va_takeS) (by first | exact roomFor_of (by omega) | exact roomFor_wide (by omega)) (by omega) ?_)
      | ((with_reducible show opC (happend _ _ _ _ _) _); refine sl_append0X H (by first | assumption | with_reducible first | exact f0.2.1 | exact f1.2.1 | exact f2.2.1 | exact f3.2.1 | exact f4.2.1 | exact f5.2.1 | exact va_takeS) (by first | exact roomFor_of (by omega) | exact roomFor_wide (by omega)) (by omega) ?_)
      | ((with_reducible show opC (happend _ _ _ _ _) _); refine sl_appendX (by with_reducible first | exact H | exact H.p1 | exact H.p2 | exact H.p3 | exact H.p4 | exact H.p5) (by first | assumption | with_reducible first | exact f0.2.1 | exact f1.2.1 | exact f2.2.1 | exact f3.2.1 | exact f4.2.1 | exact f5.2.1 | exact va_takeS) (by first | exact roomFor_of (by omega) | exact roomFor_wide (by omega)) (by omega) ?_)
      | ((with_reducible show opC (hbuildSlice _ _ _ _ _) _); refine sl_bslice1 H rfl (by first | exact rfl | (simp only [f0, f1, f2, f3, f4, f5]; done) | (simp only [onA, *]; done)) (by first | exact rfl | (simp only [f0, f1, f2, f3, f4, f5]; done) | (simp only [onA, *]; done)) ?_)
      | with_reducible intro hy

    exact Sat.own0 H
  · have T := (R _ H).take
    first | have f0 := Sat.pf (H) | have f0 := trivial
    first | have f1 := Sat.pf (H.t) | have f1 := trivial
    first | have f2 := Sat.pf (H.t.t) | have f2 := trivial
    first | have f3 := Sat.pf (H.t.t.t) | have f3 := trivial
    first | have f4 := Sat.pf (H.t.t.t.t) | have f4 := trivial
    first | have f5 := Sat.pf (H.t.t.t.t.t) | have f5 := trivial
    repeat' first
      | ((with_reducible show Need _); refine need_of ?_; (first | have f0 := Sat.pf (H) | have f0 := trivial); (first | have f1 := Sat.pf (H.t) | have f1 := trivial); (first | have f2 := Sat.pf (H.t.t) | have f2 := trivial); (first | have f3 := Sat.pf (H.t.t.t) | have f3 := trivial); (first | have f4 := Sat.pf (H.t.t.t.t) | have f4 := trivial); (first | have f5 := Sat.pf (H.t.t.t.t.t) | have f5 := trivial))
      | simp -implicitDefEqProofs (disch := first | omega | decide | exact rfl | assumption | exact Nat.le_of_ble_eq_true rfl | exact One.c | exact One.o) only [vsA, vsB, eq_self, if_true, if_false, implies_true, false_implies, evp, HX.ev, Nat.reduceAdd, HOp.looks, Nat.reduceEqDiff, overw, Nat.reduceBEq, h47, vse_1, f0, f1, f2, f3, f4, f5, frame0, List.replicate, Nat.sub]
      | (refine condK_cases (fun h => ?_) (fun h => ?_) <;> (try simp only [h]) <;> (try simp only [athA, ne_eq] at h) <;> (try (exfalso; omega)))
      | (refine guardK_cases (fun h => ?_) (fun h => ?_) <;> (try simp only [h]) <;> (try simp only [athA, ne_eq] at h) <;> (try (exfalso; omega)))
      | (clear H f0 f1 f2 f3 f4 f5; (with_reducible intro v2 hs H); (try simp only [setA, overw, Nat.reduceAdd] at H); refine need ?_)
      | refine opC_K ?_
      | ((with_reducible show opC (hbuildSlice _ _ _ _ _) _); refine sl_bslice0 H ?_; clear H f0 f1 f2 f3 f4 f5; intro v hs H; have T := (R _ H.t).take; refine need ?_)
      | ((with_reducible show opC (happend _ _ _ _ _) _); refine sl_append (by with_reducible first | exact H | exact H.p1 | exact H.p2 | exact H.p3 | exact H.p4 | exact H.p5) (by first | assumption | with_reducible first | exact f0.2.1 | exact f1.2.1 | exact f2.2.1 | exact f3.2.1 | exact f4.2.1 | exact f5.2.1 | exact va_takeS) (by first | exact roomFor_of (by omega) | exact roomFor_wide (by omega)) (by omega) ?_)
      | ((with_reducible show opC (happend _ _ _ _ _) _); refine sl_append0X H (by first | assumption | with_reducible first | exact f0.2.1 | exact f1.2.1 | exact f2.2.1 | exact f3.2.1 | exact f4.2.1 | exact f5.2.1 | exact va_takeS) (by first | exact roomFor_of (by omega) | exact roomFor_wide (by omega)) (by omega) ?_)
      | ((with_reducible show opC (happend _ _ _ _ _) _); refine sl_appendX (by with_reducible first | exact H | exact H.p1 | exact H.p2 | exact H.p3 | exact H.p4 | exact H.p5) (by first | assumption | with_reducible first | exact f0.2.1 | exact f1.2.1 | exact f2.2.1 | exact f3.2.1 | exact f4.2.1 | exact f5.2.1 | exact va_takeS) (by first | exact roomFor_of (by omega) | exact roomFor_wide (by omega)) (by omega) ?_)
      | ((with_reducible show opC (hbuildSlice _ _ _ _ _) _); refine sl_bslice1 H rfl (by first | exact rfl | (simp only [f0, f1, f2, f3, f4, f5]; done) | (simp only [onA, *]; done)) (by first | exact rfl | (simp only [f0, f1, f2, f3, f4, f5]; done) | (simp only [onA, *]; done)) ?_)
      | with_reducible intro hy

    exact H
end A
end Go.Proofs.YthihchoccpnfeaaDoor
namespace Go.Proofs.YthihchoccpnfeaaDoor
open Go Go.HL Go.Shelf V
namespace A
set_option maxRecDepth 100000
set_option maxHeartbeats 40000000
set_option linter.unusedSimpArgs false
attribute [local irreducible] pt My Ex Vw Gr GrK each grp exs Sat takeCells happend hbuildSlice hstore hbox hslice hmakeSlice hs2b hcopy HL.unit opC
theorem form57 {hs : HS} {l : List SA} {bv : HV} {b : List UInt8} (k : Int) (H : Sat hs l) (R : Rdl l bv b.length (bcells b)) (hb : b.length < 140737488351232) :
    HC Tryd.prog 57 [.int .i64 k, bv] hs fun v hs' => ∃ p w, v = .tup [.agg [.int .i64 k, .int .i64 ((formF k b).id : Nat), .int .i64 ((formF k b).num : Nat), .str (formF k b).tube, w], .ptr p 0] ∧
      Sat hs' (CrP p bv (formF k b).c :: My 1 w (formF k b).body.length (bcells (formF k b).body) :: l) := by
  have bone := (R _ H).one
  have bcel := (R _ H).cells
  have wl := word_len k
  have l0 := (op_txt (wordL k)).le b (0, false) (Nat.zero_le _)
  try simp only at l0
  have hmn : mostN k ≤ 1099511627776 := by unfold mostN; split <;> omega
  have o1 := True.intro
  have o2 := True.intro
  refine HC.wp mixed Tryd.func57 c57 ?_
  unfold formF
  simp only
  have l1 := (op_txt [32]).le b _ l0
  have l2 := (op_number 1 1099511627776).le b _ l0
  have l3 := (op_txt [32]).le b _ l2
  have l4 := (op_number 0 (mostN k)).le b _ l2
  have l5 := (op_txt [13, 10]).le b _ l4
  have l6 := (op_fields k).le b _ l0
  have l7 := (op_number 0 (mostN k)).le b _ l0
  have l8 := (op_txt [13, 10]).le b _ l7
  try simp only at l1 l2 l3 l4 l5 l6 l7 l8
  by_cases c1 : k = 3 ∨ k = 12
  · unfold fieldsF at l6 ⊢
    simp only [if_pos c1] at l6 ⊢
    unfold sizedF numberF at *
    first | have f0 := Sat.pf (H) | have f0 := trivial
    first | have f1 := Sat.pf (H.t) | have f1 := trivial
    first | have f2 := Sat.pf (H.t.t) | have f2 := trivial
    first | have f3 := Sat.pf (H.t.t.t) | have f3 := trivial
    first | have f4 := Sat.pf (H.t.t.t.t) | have f4 := trivial
    first | have f5 := Sat.pf (H.t.t.t.t.t) | have f5 := trivial
    repeat' first
      | ((with_reducible show Need _); refine need_of ?_; (first | have f0 := Sat.pf (H) | have f0 := trivial); (first | have f1 := Sat.pf (H.t) | have f1 := trivial); (first | have f2 := Sat.pf (H.t.t) | have f2 := trivial); (first | have f3 := Sat.pf (H.t.t.t) | have f3 := trivial); (first | have f4 := Sat.pf (H.t.t.t.t) | have f4 := trivial); (first | have f5 := Sat.pf (H.t.t.t.t.t) | have f5 := trivial))
      | simp -implicitDefEqProofs (disch := first | omega | decide | exact rfl | assumption | exact Nat.le_of_ble_eq_true rfl | exact One.c | exact One.o) only [vsA, vsB, eq_self, if_true, if_false, implies_true, false_implies, evp, HX.ev, Nat.reduceAdd, HOp.looks, Nat.reduceEqDiff, overw, Nat.reduceBEq, h57, bone, bcel, o1, o2, ub57, f0, f1, f2, f3, f4, f5, frame0, List.replicate, Nat.sub]
      | (refine condK_cases (fun h => ?_) (fun h => ?_) <;> (try simp only [h]) <;> (try simp only [athA, ne_eq] at h) <;> (try (exfalso; omega)))
      | (refine guardK_cases (fun h => ?_) (fun h => ?_) <;> (try simp only [h]) <;> (try simp only [athA, ne_eq] at h) <;> (try (exfalso; omega)))
      | (clear H f0 f1 f2 f3 f4 f5; (with_reducible intro v2 hs H); (try simp only [setA, overw, Nat.reduceAdd] at H); refine need ?_)
      | ((with_reducible show actK _ (HAct.call (HX.cst (HV.func (Fn.func 35) _ _)) _) _ _ _ _ _); refine vcall_of ok35 rfl (word35 k _) ?_; rintro _ _ ⟨rfl, rfl⟩)
      | ((with_reducible show actK _ (HAct.call (HX.cst (HV.func (Fn.func 36) _ _)) _) _ _ _ _ _); refine vcall_of ok36 rfl (most36 k _) ?_;  rw [mostN_eq]; rintro _ _ ⟨rfl, rfl⟩)
      | ((with_reducible show actK _ (HAct.call (HX.cst (HV.func (Fn.func 61) _ _)) _) _ _ _ _ _); refine vcall_of ok61 rfl (text61 (p := p) (bv := bv) (b := b) (by with_reducible first | exact H | exact H.p1 | exact H.p2 | exact H.p3 | exact H.p4 | exact H.p5) (fun _ h => R _ (by with_reducible first | exact h.t | exact h.t.t | exact h.t.t.t | exact h.t.t.t.t | exact h.t.t.t.t.t)) (by first | exact Nat.zero_le _ | assumption) (by omega) (by first | decide | omega)) ?_;  clear H f0 f1 f2 f3 f4 f5; rintro _ hs H; refine need ?_)
      | ((with_reducible show actK _ (HAct.call (HX.cst (HV.func (Fn.func 62) _ _)) _) _ _ _ _ _); refine vcall_of ok62 rfl (number62 (p := p) (bv := bv) (b := b) (least := 1) (most := 1099511627776) (by with_reducible first | exact H | exact H.p1 | exact H.p2 | exact H.p3 | exact H.p4 | exact H.p5) (fun _ h => R _ (by with_reducible first | exact h.t | exact h.t.t | exact h.t.t.t | exact h.t.t.t.t | exact h.t.t.t.t.t)) (by first | exact Nat.zero_le _ | assumption) (by omega) (by omega) (by omega)) ?_;  clear H f0 f1 f2 f3 f4 f5; rintro v hs ⟨rfl, H⟩; refine need ?_)
      | ((with_reducible show actK _ (HAct.call (HX.cst (HV.func (Fn.func 62) _ _)) _) _ _ _ _ _); refine vcall_of ok62 rfl (number62 (p := p) (bv := bv) (b := b) (least := 0) (most := 4294967295) (by with_reducible first | exact H | exact H.p1 | exact H.p2 | exact H.p3 | exact H.p4 | exact H.p5) (fun _ h => R _ (by with_reducible first | exact h.t | exact h.t.t | exact h.t.t.t | exact h.t.t.t.t | exact h.t.t.t.t.t)) (by first | exact Nat.zero_le _ | assumption) (by omega) (by omega) (by omega)) ?_;  clear H f0 f1 f2 f3 f4 f5; rintro v hs ⟨rfl, H⟩; refine need ?_)
      | ((with_reducible show actK _ (HAct.call (HX.cst (HV.func (Fn.func 62) _ _)) _) _ _ _ _ _); refine vcall_of ok62 rfl (number62 (p := p) (bv := bv) (b := b) (least := 0) (most := mostN k) (by with_reducible first | exact H | exact H.p1 | exact H.p2 | exact H.p3 | exact H.p4 | exact H.p5) (fun _ h => R _ (by with_reducible first | exact h.t | exact h.t.t | exact h.t.t.t | exact h.t.t.t.t | exact h.t.t.t.t.t)) (by first | exact Nat.zero_le _ | assumption) (by omega) (by omega) (by omega)) ?_;  clear H f0 f1 f2 f3 f4 f5; rintro v hs ⟨rfl, H⟩; refine need ?_)
      | ((with_reducible show actK _ (HAct.call (HX.cst (HV.func (Fn.func 64) _ _)) _) _ _ _ _ _); refine vcall_of ok64 rfl (name64 (p := p) (bv := bv) (b := b) (by with_reducible first | exact H | exact H.p1 | exact H.p2 | exact H.p3 | exact H.p4 | exact H.p5) (fun _ h => R _ (by with_reducible first | exact h.t | exact h.t.t | exact h.t.t.t | exact h.t.t.t.t | exact h.t.t.t.t.t)) (by first | exact Nat.zero_le _ | assumption) (by omega)) ?_;  clear H f0 f1 f2 f3 f4 f5; rintro v hs ⟨rfl, H⟩; refine need ?_)
      | ((with_reducible show actK _ (HAct.call (HX.cst (HV.func (Fn.func 63) _ _)) _) _ _ _ _ _); refine vcall_of ok63 rfl (bytes63 (p := p) (bv := bv) (b := b) (by with_reducible first | exact H | exact H.p1 | exact H.p2 | exact H.p3 | exact H.p4 | exact H.p5) (fun _ h => R _ (by with_reducible first | exact h.t | exact h.t.t | exact h.t.t.t | exact h.t.t.t.t | exact h.t.t.t.t.t)) (by first | exact Nat.zero_le _ | assumption) (by omega)) ?_;  clear H f0 f1 f2 f3 f4 f5; rintro w hs H; have o1 := H.rd.one; have o2 := H.rd.cells; refine need ?_)
      | refine opC_K ?_
      | ((with_reducible show opC (hbox _ _) _); refine sl_boxA (cells := [bv, .int .i64 0, .bool false]) H (by first | exact rfl | (simp only [f0, f1, f2, f3, f4, f5]; done) | (simp only [onA, *]; done)) ?_; clear H f0 f1 f2 f3 f4 f5; intro p hs H; have H : Sat hs (CrP p bv (0, false) :: _) := H; refine need ?_)
      | ((with_reducible show opC (unit (hstore _ _ _ _)) _); refine sl_store1 (by with_reducible first | exact H | exact H.p1 | exact H.p2 | exact H.p3 | exact H.p4 | exact H.p5) (Nat.le_of_ble_eq_true rfl) (by first | exact rfl | (simp only [f0, f1, f2, f3, f4, f5]; done) | (simp only [onA, *]; done)) (by first | exact rfl | (simp only [f0, f1, f2, f3, f4, f5]; done) | (simp only [onA, *]; done)) ?_)
      | ((with_reducible show opC (unit (hstore _ _ _ _)) _); refine sl_storeN (by with_reducible first | exact H | exact H.p1 | exact H.p2 | exact H.p3 | exact H.p4 | exact H.p5) rfl (Nat.le_of_ble_eq_true rfl) (by first | exact rfl | (simp only [f0, f1, f2, f3, f4, f5]; done) | (simp only [onA, *]; done)) ?_)
      | ((with_reducible show opC (hbox _ _) _); refine sl_box1 H (by first | exact rfl | (simp only [f0, f1, f2, f3, f4, f5]; done) | (simp only [onA, *]; done)) (by first | exact rfl | (simp only [f0, f1, f2, f3, f4, f5]; done) | (simp only [onA, *]; done)) ?_)
      | ((with_reducible show opC (hbox _ _) _); refine sl_boxA H (by first | exact rfl | (simp only [f0, f1, f2, f3, f4, f5]; done) | (simp only [onA, *]; done)) ?_)
      | with_reducible intro hy

    all_goals exact ⟨p, w, rfl, H.t.p1.t⟩
  · by_cases c2 : k = 16
    · unfold fieldsF at l6 ⊢
      simp only [if_neg c1, if_pos c2] at l6 ⊢
      unfold sizedF numberF at *
      first | have f0 := Sat.pf (H) | have f0 := trivial
      first | have f1 := Sat.pf (H.t) | have f1 := trivial
      first | have f2 := Sat.pf (H.t.t) | have f2 := trivial
      first | have f3 := Sat.pf (H.t.t.t) | have f3 := trivial
      first | have f4 := Sat.pf (H.t.t.t.t) | have f4 := trivial
      first | have f5 := Sat.pf (H.t.t.t.t.t) | have f5 := trivial
      repeat' first
        | ((with_reducible show Need _); refine need_of ?_; (first | have f0 := Sat.pf (H) | have f0 := trivial); (first | have f1 := Sat.pf (H.t) | have f1 := trivial); (first | have f2 := Sat.pf (H.t.t) | have f2 := trivial); (first | have f3 := Sat.pf (H.t.t.t) | have f3 := trivial); (first | have f4 := Sat.pf (H.t.t.t.t) | have f4 := trivial); (first | have f5 := Sat.pf (H.t.t.t.t.t) | have f5 := trivial))
        | simp -implicitDefEqProofs (disch := first | omega | decide | exact rfl | assumption | exact Nat.le_of_ble_eq_true rfl | exact One.c | exact One.o) only [vsA, vsB, eq_self, if_true, if_false, implies_true, false_implies, evp, HX.ev, Nat.reduceAdd, HOp.looks, Nat.reduceEqDiff, overw, Nat.reduceBEq, h57, bone, bcel, o1, o2, ub57, f0, f1, f2, f3, f4, f5, frame0, List.replicate, Nat.sub]
        | (refine condK_cases (fun h => ?_) (fun h => ?_) <;> (try simp only [h]) <;> (try simp only [athA, ne_eq] at h) <;> (try (exfalso; omega)))
        | (refine guardK_cases (fun h => ?_) (fun h => ?_) <;> (try simp only [h]) <;> (try simp only [athA, ne_eq] at h) <;> (try (exfalso; omega)))
        | (clear H f0 f1 f2 f3 f4 f5; (with_reducible intro v2 hs H); (try simp only [setA, overw, Nat.reduceAdd] at H); refine need ?_)
        | ((with_reducible show actK _ (HAct.call (HX.cst (HV.func (Fn.func 35) _ _)) _) _ _ _ _ _); refine vcall_of ok35 rfl (word35 k _) ?_; rintro _ _ ⟨rfl, rfl⟩)
        | ((with_reducible show actK _ (HAct.call (HX.cst (HV.func (Fn.func 36) _ _)) _) _ _ _ _ _); refine vcall_of ok36 rfl (most36 k _) ?_;  rw [mostN_eq]; rintro _ _ ⟨rfl, rfl⟩)
        | ((with_reducible show actK _ (HAct.call (HX.cst (HV.func (Fn.func 61) _ _)) _) _ _ _ _ _); refine vcall_of ok61 rfl (text61 (p := p) (bv := bv) (b := b) (by with_reducible first | exact H | exact H.p1 | exact H.p2 | exact H.p3 | exact H.p4 | exact H.p5) (fun _ h => R _ (by with_reducible first | exact h.t | exact h.t.t | exact h.t.t.t | exact h.t.t.t.t | exact h.t.t.t.t.t)) (by first | exact Nat.zero_le _ | assumption) (by omega) (by first | decide | omega)) ?_;  clear H f0 f1 f2 f3 f4 f5; rintro _ hs H; refine need ?_)
        | ((with_reducible show actK _ (HAct.call (HX.cst (HV.func (Fn.func 62) _ _)) _) _ _ _ _ _); refine vcall_of ok62 rfl (number62 (p := p) (bv := bv) (b := b) (least := 1) (most := 1099511627776) (by with_reducible first | exact H | exact H.p1 | exact H.p2 | exact H.p3 | exact H.p4 | exact H.p5) (fun _ h => R _ (by with_reducible first | exact h.t | exact h.t.t | exact h.t.t.t | exact h.t.t.t.t | exact h.t.t.t.t.t)) (by first | exact Nat.zero_le _ | assumption) (by omega) (by omega) (by omega)) ?_;  clear H f0 f1 f2 f3 f4 f5; rintro v hs ⟨rfl, H⟩; refine need ?_)
        | ((with_reducible show actK _ (HAct.call (HX.cst (HV.func (Fn.func 62) _ _)) _) _ _ _ _ _); refine vcall_of ok62 rfl (number62 (p := p) (bv := bv) (b := b) (least := 0) (most := 4294967295) (by with_reducible first | exact H | exact H.p1 | exact H.p2 | exact H.p3 | exact H.p4 | exact H.p5) (fun _ h => R _ (by with_reducible first | exact h.t | exact h.t.t | exact h.t.t.t | exact h.t.t.t.t | exact h.t.t.t.t.t)) (by first | exact Nat.zero_le _ | assumption) (by omega) (by omega) (by omega)) ?_;  clear H f0 f1 f2 f3 f4 f5; rintro v hs ⟨rfl, H⟩; refine need ?_)
        | ((with_reducible show actK _ (HAct.call (HX.cst (HV.func (Fn.func 62) _ _)) _) _ _ _ _ _); refine vcall_of ok62 rfl (number62 (p := p) (bv := bv) (b := b) (least := 0) (most := mostN k) (by with_reducible first | exact H | exact H.p1 | exact H.p2 | exact H.p3 | exact H.p4 | exact H.p5) (fun _ h => R _ (by with_reducible first | exact h.t | exact h.t.t | exact h.t.t.t | exact h.t.t.t.t | exact h.t.t.t.t.t)) (by first | exact Nat.zero_le _ | assumption) (by omega) (by omega) (by omega)) ?_;  clear H f0 f1 f2 f3 f4 f5; rintro v hs ⟨rfl, H⟩; refine need ?_)
        | ((with_reducible show actK _ (HAct.call (HX.cst (HV.func (Fn.func 64) _ _)) _) _ _ _ _ _); refine vcall_of ok64 rfl (name64 (p := p) (bv := bv) (b := b) (by with_reducible first | exact H | exact H.p1 | exact H.p2 | exact H.p3 | exact H.p4 | exact H.p5) (fun _ h => R _ (by with_reducible first | exact h.t | exact h.t.t | exact h.t.t.t | exact h.t.t.t.t | exact h.t.t.t.t.t)) (by first | exact Nat.zero_le _ | assumption) (by omega)) ?_;  clear H f0 f1 f2 f3 f4 f5; rintro v hs ⟨rfl, H⟩; refine need ?_)
        | ((with_reducible show actK _ (HAct.call (HX.cst (HV.func (Fn.func 63) _ _)) _) _ _ _ _ _); refine vcall_of ok63 rfl (bytes63 (p := p) (bv := bv) (b := b) (by with_reducible first | exact H | exact H.p1 | exact H.p2 | exact H.p3 | exact H.p4 | exact H.p5) (fun _ h => R _ (by with_reducible first | exact h.t | exact h.t.t | exact h.t.t.t | exact h.t.t.t.t | exact h.t.t.t.t.t)) (by first | exact Nat.zero_le _ | assumption) (by omega)) ?_;  clear H f0 f1 f2 f3 f4 f5; rintro w hs H; have o1 := H.rd.one; have o2 := H.rd.cells; refine need ?_)
        | refine opC_K ?_
        | ((with_reducible show opC (hbox _ _) _); refine sl_boxA (cells := [bv, .int .i64 0, .bool false]) H (by first | exact rfl | (simp only [f0, f1, f2, f3, f4, f5]; done) | (simp only [onA, *]; done)) ?_; clear H f0 f1 f2 f3 f4 f5; intro p hs H; have H : Sat hs (CrP p bv (0, false) :: _) := H; refine need ?_)
        | ((with_reducible show opC (unit (hstore _ _ _ _)) _); refine sl_store1 (by with_reducible first | exact H | exact H.p1 | exact H.p2 | exact H.p3 | exact H.p4 | exact H.p5) (Nat.le_of_ble_eq_true rfl) (by first | exact rfl | (simp only [f0, f1, f2, f3, f4, f5]; done) | (simp only [onA, *]; done)) (by first | exact rfl | (simp only [f0, f1, f2, f3, f4, f5]; done) | (simp only [onA, *]; done)) ?_)
        | ((with_reducible show opC (unit (hstore _ _ _ _)) _); refine sl_storeN (by with_reducible first | exact H | exact H.p1 | exact H.p2 | exact H.p3 | exact H.p4 | exact H.p5) rfl (Nat.le_of_ble_eq_true rfl) (by first | exact rfl | (simp only [f0, f1, f2, f3, f4, f5]; done) | (simp only [onA, *]; done)) ?_)
        | ((with_reducible show opC (hbox _ _) _); refine sl_box1 H (by first | exact rfl | (simp only [f0, f1, f2, f3, f4, f5]; done) | (simp only [onA, *]; done)) (by first | exact rfl | (simp only [f0, f1, f2, f3, f4, f5]; done) | (simp only [onA, *]; done)) ?_)
        | ((with_reducible show opC (hbox _ _) _); refine sl_boxA H (by first | exact rfl | (simp only [f0, f1, f2, f3, f4, f5]; done) | (simp only [onA, *]; done)) ?_)
        | with_reducible intro hy

      all_goals exact ⟨p, w, rfl, H.t.p1.t⟩
    · by_cases c3 : k = 1
      · unfold fieldsF at l6 ⊢
        simp only [if_neg c1, if_neg c2, if_pos c3] at l6 ⊢
        unfold numberF at *
        first | have f0 := Sat.pf (H) | have f0 := trivial
        first | have f1 := Sat.pf (H.t) | have f1 := trivial
        first | have f2 := Sat.pf (H.t.t) | have f2 := trivial
        first | have f3 := Sat.pf (H.t.t.t) | have f3 := trivial
        first | have f4 := Sat.pf (H.t.t.t.t) | have f4 := trivial
        first | have f5 := Sat.pf (H.t.t.t.t.t) | have f5 := trivial
        repeat' first
          | ((with_reducible show Need _); refine need_of ?_; (first | have f0 := Sat.pf (H) | have f0 := trivial); (first | have f1 := Sat.pf (H.t) | have f1 := trivial); (first | have f2 := Sat.pf (H.t.t) | have f2 := trivial); (first | have f3 := Sat.pf (H.t.t.t) | have f3 := trivial); (first | have f4 := Sat.pf (H.t.t.t.t) | have f4 := trivial); (first | have f5 := Sat.pf (H.t.t.t.t.t) | have f5 := trivial))
          | simp -implicitDefEqProofs (disch := first | omega | decide | exact rfl | assumption | exact Nat.le_of_ble_eq_true rfl | exact One.c | exact One.o) only [vsA, vsB, eq_self, if_true, if_false, implies_true, false_implies, evp, HX.ev, Nat.reduceAdd, HOp.looks, Nat.reduceEqDiff, overw, Nat.reduceBEq, h57, bone, bcel, o1, o2, ub57, f0, f1, f2, f3, f4, f5, frame0, List.replicate, Nat.sub]
          | (refine condK_cases (fun h => ?_) (fun h => ?_) <;> (try simp only [h]) <;> (try simp only [athA, ne_eq] at h) <;> (try (exfalso; omega)))
          | (refine guardK_cases (fun h => ?_) (fun h => ?_) <;> (try simp only [h]) <;> (try simp only [athA, ne_eq] at h) <;> (try (exfalso; omega)))
          | (clear H f0 f1 f2 f3 f4 f5; (with_reducible intro v2 hs H); (try simp only [setA, overw, Nat.reduceAdd] at H); refine need ?_)
          | ((with_reducible show actK _ (HAct.call (HX.cst (HV.func (Fn.func 35) _ _)) _) _ _ _ _ _); refine vcall_of ok35 rfl (word35 k _) ?_; rintro _ _ ⟨rfl, rfl⟩)
          | ((with_reducible show actK _ (HAct.call (HX.cst (HV.func (Fn.func 36) _ _)) _) _ _ _ _ _); refine vcall_of ok36 rfl (most36 k _) ?_;  rw [mostN_eq]; rintro _ _ ⟨rfl, rfl⟩)
          | ((with_reducible show actK _ (HAct.call (HX.cst (HV.func (Fn.func 61) _ _)) _) _ _ _ _ _); refine vcall_of ok61 rfl (text61 (p := p) (bv := bv) (b := b) (by with_reducible first | exact H | exact H.p1 | exact H.p2 | exact H.p3 | exact H.p4 | exact H.p5) (fun _ h => R _ (by with_reducible first | exact h.t | exact h.t.t | exact h.t.t.t | exact h.t.t.t.t | exact h.t.t.t.t.t)) (by first | exact Nat.zero_le _ | assumption) (by omega) (by first | decide | omega)) ?_;  clear H f0 f1 f2 f3 f4 f5; rintro _ hs H; refine need ?_)
          | ((with_reducible show actK _ (HAct.call (HX.cst (HV.func (Fn.func 62) _ _)) _) _ _ _ _ _); refine vcall_of ok62 rfl (number62 (p := p) (bv := bv) (b := b) (least := 1) (most := 1099511627776) (by with_reducible first | exact H | exact H.p1 | exact H.p2 | exact H.p3 | exact H.p4 | exact H.p5) (fun _ h => R _ (by with_reducible first | exact h.t | exact h.t.t | exact h.t.t.t | exact h.t.t.t.t | exact h.t.t.t.t.t)) (by first | exact Nat.zero_le _ | assumption) (by omega) (by omega) (by omega)) ?_;  clear H f0 f1 f2 f3 f4 f5; rintro v hs ⟨rfl, H⟩; refine need ?_)
          | ((with_reducible show actK _ (HAct.call (HX.cst (HV.func (Fn.func 62) _ _)) _) _ _ _ _ _); refine vcall_of ok62 rfl (number62 (p := p) (bv := bv) (b := b) (least := 0) (most := 4294967295) (by with_reducible first | exact H | exact H.p1 | exact H.p2 | exact H.p3 | exact H.p4 | exact H.p5) (fun _ h => R _ (by with_reducible first | exact h.t | exact h.t.t | exact h.t.t.t | exact h.t.t.t.t | exact h.t.t.t.t.t)) (by first | exact Nat.zero_le _ | assumption) (by omega) (by omega) (by omega)) ?_;  clear H f0 f1 f2 f3 f4 f5; rintro v hs ⟨rfl, H⟩; refine need ?_)
          | ((with_reducible show actK _ (HAct.call (HX.cst (HV.func (Fn.func 62) _ _)) _) _ _ _ _ _); refine vcall_of ok62 rfl (number62 (p := p) (bv := bv) (b := b) (least := 0) (most := mostN k) (by with_reducible first | exact H | exact H.p1 | exact H.p2 | exact H.p3 | exact H.p4 | exact H.p5) (fun _ h => R _ (by with_reducible first | exact h.t | exact h.t.t | exact h.t.t.t | exact h.t.t.t.t | exact h.t.t.t.t.t)) (by first | exact Nat.zero_le _ | assumption) (by omega) (by omega) (by omega)) ?_;  clear H f0 f1 f2 f3 f4 f5; rintro v hs ⟨rfl, H⟩; refine need ?_)
          | ((with_reducible show actK _ (HAct.call (HX.cst (HV.func (Fn.func 64) _ _)) _) _ _ _ _ _); refine vcall_of ok64 rfl (name64 (p := p) (bv := bv) (b := b) (by with_reducible first | exact H | exact H.p1 | exact H.p2 | exact H.p3 | exact H.p4 | exact H.p5) (fun _ h => R _ (by with_reducible first | exact h.t | exact h.t.t | exact h.t.t.t | exact h.t.t.t.t | exact h.t.t.t.t.t)) (by first | exact Nat.zero_le _ | assumption) (by omega)) ?_;  clear H f0 f1 f2 f3 f4 f5; rintro v hs ⟨rfl, H⟩; refine need ?_)
          | ((with_reducible show actK _ (HAct.call (HX.cst (HV.func (Fn.func 63) _ _)) _) _ _ _ _ _); refine vcall_of ok63 rfl (bytes63 (p := p) (bv := bv) (b := b) (by with_reducible first | exact H | exact H.p1 | exact H.p2 | exact H.p3 | exact H.p4 | exact H.p5) (fun _ h => R _ (by with_reducible first | exact h.t | exact h.t.t | exact h.t.t.t | exact h.t.t.t.t | exact h.t.t.t.t.t)) (by first | exact Nat.zero_le _ | assumption) (by omega)) ?_;  clear H f0 f1 f2 f3 f4 f5; rintro w hs H; have o1 := H.rd.one; have o2 := H.rd.cells; refine need ?_)
          | refine opC_K ?_
          | ((with_reducible show opC (hbox _ _) _); refine sl_boxA (cells := [bv, .int .i64 0, .bool false]) H (by first | exact rfl | (simp only [f0, f1, f2, f3, f4, f5]; done) | (simp only [onA, *]; done)) ?_; clear H f0 f1 f2 f3 f4 f5; intro p hs H; have H : Sat hs (CrP p bv (0, false) :: _) := H; refine need ?_)
          | ((with_reducible show opC (unit (hstore _ _ _ _)) _); refine sl_store1 (by with_reducible first | exact H | exact H.p1 | exact H.p2 | exact H.p3 | exact H.p4 | exact H.p5) (Nat.le_of_ble_eq_true rfl) (by first | exact rfl | (simp only [f0, f1, f2, f3, f4, f5]; done) | (simp only [onA, *]; done)) (by first | exact rfl | (simp only [f0, f1, f2, f3, f4, f5]; done) | (simp only [onA, *]; done)) ?_)
          | ((with_reducible show opC (unit (hstore _ _ _ _)) _); refine sl_storeN (by with_reducible first | exact H | exact H.p1 | exact H.p2 | exact H.p3 | exact H.p4 | exact H.p5) rfl (Nat.le_of_ble_eq_true rfl) (by first | exact rfl | (simp only [f0, f1, f2, f3, f4, f5]; done) | (simp only [onA, *]; done)) ?_)
          | ((with_reducible show opC (hbox _ _) _); refine sl_box1 H (by first | exact rfl | (simp only [f0, f1, f2, f3, f4, f5]; done) | (simp only [onA, *]; done)) (by first | exact rfl | (simp only [f0, f1, f2, f3, f4, f5]; done) | (simp only [onA, *]; done)) ?_)
          | ((with_reducible show opC (hbox _ _) _); refine sl_boxA H (by first | exact rfl | (simp only [f0, f1, f2, f3, f4, f5]; done) | (simp only [onA, *]; done)) ?_)
          | with_reducible intro hy

        all_goals exact ⟨p, .nilSlice, rfl, (Sat.own0 H.t.p1.t).p1⟩
      · by_cases c4 : k = 2
        · unfold fieldsF at l6 ⊢
          simp only [if_neg c1, if_neg c2, if_neg c3, if_pos c4] at l6 ⊢
          first | have f0 := Sat.pf (H) | have f0 := trivial
          first | have f1 := Sat.pf (H.t) | have f1 := trivial
          first | have f2 := Sat.pf (H.t.t) | have f2 := trivial
          first | have f3 := Sat.pf (H.t.t.t) | have f3 := trivial
          first | have f4 := Sat.pf (H.t.t.t.t) | have f4 := trivial
          first | have f5 := Sat.pf (H.t.t.t.t.t) | have f5 := trivial
          repeat' first
            | ((with_reducible show Need _); refine need_of ?_; (first | have f0 := Sat.pf (H) | have f0 := trivial); (first | have f1 := Sat.pf (H.t) | have f1 := trivial); (first | have f2 := Sat.pf (H.t.t) | have f2 := trivial); (first | have f3 := Sat.pf (H.t.t.t) | have f3 := trivial); (first | have f4 := Sat.pf (H.t.t.t.t) | have f4 := trivial); (first | have f5 := Sat.pf (H.t.t.t.t.t) | have f5 := trivial))
            | simp -implicitDefEqProofs (disch := first | omega | decide | exact rfl | assumption | exact Nat.le_of_ble_eq_true rfl | exact One.c | exact One.o) only [vsA, vsB, eq_self, if_true, if_false, implies_true, false_implies, evp, HX.ev, Nat.reduceAdd, HOp.looks, Nat.reduceEqDiff, overw, Nat.reduceBEq, h57, bone, bcel, o1, o2, ub57, f0, f1, f2, f3, f4, f5, frame0, List.replicate, Nat.sub]
            | (refine condK_cases (fun h => ?_) (fun h => ?_) <;> (try simp only [h]) <;> (try simp only [athA, ne_eq] at h) <;> (try (exfalso; omega)))
            | (refine guardK_cases (fun h => ?_) (fun h => ?_) <;> (try simp only [h]) <;> (try simp only [athA, ne_eq] at h) <;> (try (exfalso; omega)))
            | (clear H f0 f1 f2 f3 f4 f5; (with_reducible intro v2 hs H); (try simp only [setA, overw, Nat.reduceAdd] at H); refine need ?_)
            | ((with_reducible show actK _ (HAct.call (HX.cst (HV.func (Fn.func 35) _ _)) _) _ _ _ _ _); refine vcall_of ok35 rfl (word35 k _) ?_; rintro _ _ ⟨rfl, rfl⟩)
            | ((with_reducible show actK _ (HAct.call (HX.cst (HV.func (Fn.func 36) _ _)) _) _ _ _ _ _); refine vcall_of ok36 rfl (most36 k _) ?_;  rw [mostN_eq]; rintro _ _ ⟨rfl, rfl⟩)
            | ((with_reducible show actK _ (HAct.call (HX.cst (HV.func (Fn.func 61) _ _)) _) _ _ _ _ _); refine vcall_of ok61 rfl (text61 (p := p) (bv := bv) (b := b) (by with_reducible first | exact H | exact H.p1 | exact H.p2 | exact H.p3 | exact H.p4 | exact H.p5) (fun _ h => R _ (by with_reducible first | exact h.t | exact h.t.t | exact h.t.t.t | exact h.t.t.t.t | exact h.t.t.t.t.t)) (by first | exact Nat.zero_le _ | assumption) (by omega) (by first | decide | omega)) ?_;  clear H f0 f1 f2 f3 f4 f5; rintro _ hs H; refine need ?_)
            | ((with_reducible show actK _ (HAct.call (HX.cst (HV.func (Fn.func 62) _ _)) _) _ _ _ _ _); refine vcall_of ok62 rfl (number62 (p := p) (bv := bv) (b := b) (least := 1) (most := 1099511627776) (by with_reducible first | exact H | exact H.p1 | exact H.p2 | exact H.p3 | exact H.p4 | exact H.p5) (fun _ h => R _ (by with_reducible first | exact h.t | exact h.t.t | exact h.t.t.t | exact h.t.t.t.t | exact h.t.t.t.t.t)) (by first | exact Nat.zero_le _ | assumption) (by omega) (by omega) (by omega)) ?_;  clear H f0 f1 f2 f3 f4 f5; rintro v hs ⟨rfl, H⟩; refine need ?_)
            | ((with_reducible show actK _ (HAct.call (HX.cst (HV.func (Fn.func 62) _ _)) _) _ _ _ _ _); refine vcall_of ok62 rfl (number62 (p := p) (bv := bv) (b := b) (least := 0) (most := 4294967295) (by with_reducible first | exact H | exact H.p1 | exact H.p2 | exact H.p3 | exact H.p4 | exact H.p5) (fun _ h => R _ (by with_reducible first | exact h.t | exact h.t.t | exact h.t.t.t | exact h.t.t.t.t | exact h.t.t.t.t.t)) (by first | exact Nat.zero_le _ | assumption) (by omega) (by omega) (by omega)) ?_;  clear H f0 f1 f2 f3 f4 f5; rintro v hs ⟨rfl, H⟩; refine need ?_)
            | ((with_reducible show actK _ (HAct.call (HX.cst (HV.func (Fn.func 62) _ _)) _) _ _ _ _ _); refine vcall_of ok62 rfl (number62 (p := p) (bv := bv) (b := b) (least := 0) (most := mostN k) (by with_reducible first | exact H | exact H.p1 | exact H.p2 | exact H.p3 | exact H.p4 | exact H.p5) (fun _ h => R _ (by with_reducible first | exact h.t | exact h.t.t | exact h.t.t.t | exact h.t.t.t.t | exact h.t.t.t.t.t)) (by first | exact Nat.zero_le _ | assumption) (by omega) (by omega) (by omega)) ?_;  clear H f0 f1 f2 f3 f4 f5; rintro v hs ⟨rfl, H⟩; refine need ?_)
            | ((with_reducible show actK _ (HAct.call (HX.cst (HV.func (Fn.func 64) _ _)) _) _ _ _ _ _); refine vcall_of ok64 rfl (name64 (p := p) (bv := bv) (b := b) (by with_reducible first | exact H | exact H.p1 | exact H.p2 | exact H.p3 | exact H.p4 | exact H.p5) (fun _ h => R _ (by with_reducible first | exact h.t | exact h.t.t | exact h.t.t.t | exact h.t.t.t.t | exact h.t.t.t.t.t)) (by first | exact Nat.zero_le _ | assumption) (by omega)) ?_;  clear H f0 f1 f2 f3 f4 f5; rintro v hs ⟨rfl, H⟩; refine need ?_)
            | ((with_reducible show actK _ (HAct.call (HX.cst (HV.func (Fn.func 63) _ _)) _) _ _ _ _ _); refine vcall_of ok63 rfl (bytes63 (p := p) (bv := bv) (b := b) (by with_reducible first | exact H | exact H.p1 | exact H.p2 | exact H.p3 | exact H.p4 | exact H.p5) (fun _ h => R _ (by with_reducible first | exact h.t | exact h.t.t | exact h.t.t.t | exact h.t.t.t.t | exact h.t.t.t.t.t)) (by first | exact Nat.zero_le _ | assumption) (by omega)) ?_;  clear H f0 f1 f2 f3 f4 f5; rintro w hs H; have o1 := H.rd.one; have o2 := H.rd.cells; refine need ?_)
            | refine opC_K ?_
            | ((with_reducible show opC (hbox _ _) _); refine sl_boxA (cells := [bv, .int .i64 0, .bool false]) H (by first | exact rfl | (simp only [f0, f1, f2, f3, f4, f5]; done) | (simp only [onA, *]; done)) ?_; clear H f0 f1 f2 f3 f4 f5; intro p hs H; have H : Sat hs (CrP p bv (0, false) :: _) := H; refine need ?_)
            | ((with_reducible show opC (unit (hstore _ _ _ _)) _); refine sl_store1 (by with_reducible first | exact H | exact H.p1 | exact H.p2 | exact H.p3 | exact H.p4 | exact H.p5) (Nat.le_of_ble_eq_true rfl) (by first | exact rfl | (simp only [f0, f1, f2, f3, f4, f5]; done) | (simp only [onA, *]; done)) (by first | exact rfl | (simp only [f0, f1, f2, f3, f4, f5]; done) | (simp only [onA, *]; done)) ?_)
            | ((with_reducible show opC (unit (hstore _ _ _ _)) _); refine sl_storeN (by with_reducible first | exact H | exact H.p1 | exact H.p2 | exact H.p3 | exact H.p4 | exact H.p5) rfl (Nat.le_of_ble_eq_true rfl) (by first | exact rfl | (simp only [f0, f1, f2, f3, f4, f5]; done) | (simp only [onA, *]; done)) ?_)
            | ((with_reducible show opC (hbox _ _) _); refine sl_box1 H (by first | exact rfl | (simp only [f0, f1, f2, f3, f4, f5]; done) | (simp only [onA, *]; done)) (by first | exact rfl | (simp only [f0, f1, f2, f3, f4, f5]; done) | (simp only [onA, *]; done)) ?_)
            | ((with_reducible show opC (hbox _ _) _); refine sl_boxA H (by first | exact rfl | (simp only [f0, f1, f2, f3, f4, f5]; done) | (simp only [onA, *]; done)) ?_)
            | with_reducible intro hy

          all_goals exact ⟨p, .nilSlice, rfl, (Sat.own0 H.t.p1.t).p1⟩
        · by_cases c5 : k = 10 ∨ k = 13
          · unfold fieldsF at l6 ⊢
            simp only [if_neg c1, if_neg c2, if_neg c3, if_neg c4, if_pos c5] at l6 ⊢
            unfold numberF at *
            first | have f0 := Sat.pf (H) | have f0 := trivial
            first | have f1 := Sat.pf (H.t) | have f1 := trivial
            first | have f2 := Sat.pf (H.t.t) | have f2 := trivial
            first | have f3 := Sat.pf (H.t.t.t) | have f3 := trivial
            first | have f4 := Sat.pf (H.t.t.t.t) | have f4 := trivial
            first | have f5 := Sat.pf (H.t.t.t.t.t) | have f5 := trivial
            repeat' first
              | ((with_reducible show Need _); refine need_of ?_; (first | have f0 := Sat.pf (H) | have f0 := trivial); (first | have f1 := Sat.pf (H.t) | have f1 := trivial); (first | have f2 := Sat.pf (H.t.t) | have f2 := trivial); (first | have f3 := Sat.pf (H.t.t.t) | have f3 := trivial); (first | have f4 := Sat.pf (H.t.t.t.t) | have f4 := trivial); (first | have f5 := Sat.pf (H.t.t.t.t.t) | have f5 := trivial))
              | simp -implicitDefEqProofs (disch := first | omega | decide | exact rfl | assumption | exact Nat.le_of_ble_eq_true rfl | exact One.c | exact One.o) only [vsA, vsB, eq_self, if_true, if_false, implies_true, false_implies, evp, HX.ev, Nat.reduceAdd, HOp.looks, Nat.reduceEqDiff, overw, Nat.reduceBEq, h57, bone, bcel, o1, o2, ub57, f0, f1, f2, f3, f4, f5, frame0, List.replicate, Nat.sub]
              | (refine condK_cases (fun h => ?_) (fun h => ?_) <;> (try simp only [h]) <;> (try simp only [athA, ne_eq] at h) <;> (try (exfalso; omega)))
              | (refine guardK_cases (fun h => ?_) (fun h => ?_) <;> (try simp only [h]) <;> (try simp only [athA, ne_eq] at h) <;> (try (exfalso; omega)))
              | (clear H f0 f1 f2 f3 f4 f5; (with_reducible intro v2 hs H); (try simp only [setA, overw, Nat.reduceAdd] at H); refine need ?_)
              | ((with_reducible show actK _ (HAct.call (HX.cst (HV.func (Fn.func 35) _ _)) _) _ _ _ _ _); refine vcall_of ok35 rfl (word35 k _) ?_; rintro _ _ ⟨rfl, rfl⟩)
              | ((with_reducible show actK _ (HAct.call (HX.cst (HV.func (Fn.func 36) _ _)) _) _ _ _ _ _); refine vcall_of ok36 rfl (most36 k _) ?_;  rw [mostN_eq]; rintro _ _ ⟨rfl, rfl⟩)
              | ((with_reducible show actK _ (HAct.call (HX.cst (HV.func (Fn.func 61) _ _)) _) _ _ _ _ _); refine vcall_of ok61 rfl (text61 (p := p) (bv := bv) (b := b) (by with_reducible first | exact H | exact H.p1 | exact H.p2 | exact H.p3 | exact H.p4 | exact H.p5) (fun _ h => R _ (by with_reducible first | exact h.t | exact h.t.t | exact h.t.t.t | exact h.t.t.t.t | exact h.t.t.t.t.t)) (by first | exact Nat.zero_le _ | assumption) (by omega) (by first | decide | omega)) ?_;  clear H f0 f1 f2 f3 f4 f5; rintro _ hs H; refine need ?_)
              | ((with_reducible show actK _ (HAct.call (HX.cst (HV.func (Fn.func 62) _ _)) _) _ _ _ _ _); refine vcall_of ok62 rfl (number62 (p := p) (bv := bv) (b := b) (least := 1) (most := 1099511627776) (by with_reducible first | exact H | exact H.p1 | exact H.p2 | exact H.p3 | exact H.p4 | exact H.p5) (fun _ h => R _ (by with_reducible first | exact h.t | exact h.t.t | exact h.t.t.t | exact h.t.t.t.t | exact h.t.t.t.t.t)) (by first | exact Nat.zero_le _ | assumption) (by omega) (by omega) (by omega)) ?_;  clear H f0 f1 f2 f3 f4 f5; rintro v hs ⟨rfl, H⟩; refine need ?_)
              | ((with_reducible show actK _ (HAct.call (HX.cst (HV.func (Fn.func 62) _ _)) _) _ _ _ _ _); refine vcall_of ok62 rfl (number62 (p := p) (bv := bv) (b := b) (least := 0) (most := 4294967295) (by with_reducible first | exact H | exact H.p1 | exact H.p2 | exact H.p3 | exact H.p4 | exact H.p5) (fun _ h => R _ (by with_reducible first | exact h.t | exact h.t.t | exact h.t.t.t | exact h.t.t.t.t | exact h.t.t.t.t.t)) (by first | exact Nat.zero_le _ | assumption) (by omega) (by omega) (by omega)) ?_;  clear H f0 f1 f2 f3 f4 f5; rintro v hs ⟨rfl, H⟩; refine need ?_)
              | ((with_reducible show actK _ (HAct.call (HX.cst (HV.func (Fn.func 62) _ _)) _) _ _ _ _ _); refine vcall_of ok62 rfl (number62 (p := p) (bv := bv) (b := b) (least := 0) (most := mostN k) (by with_reducible first | exact H | exact H.p1 | exact H.p2 | exact H.p3 | exact H.p4 | exact H.p5) (fun _ h => R _ (by with_reducible first | exact h.t | exact h.t.t | exact h.t.t.t | exact h.t.t.t.t | exact h.t.t.t.t.t)) (by first | exact Nat.zero_le _ | assumption) (by omega) (by omega) (by omega)) ?_;  clear H f0 f1 f2 f3 f4 f5; rintro v hs ⟨rfl, H⟩; refine need ?_)
              | ((with_reducible show actK _ (HAct.call (HX.cst (HV.func (Fn.func 64) _ _)) _) _ _ _ _ _); refine vcall_of ok64 rfl (name64 (p := p) (bv := bv) (b := b) (by with_reducible first | exact H | exact H.p1 | exact H.p2 | exact H.p3 | exact H.p4 | exact H.p5) (fun _ h => R _ (by with_reducible first | exact h.t | exact h.t.t | exact h.t.t.t | exact h.t.t.t.t | exact h.t.t.t.t.t)) (by first | exact Nat.zero_le _ | assumption) (by omega)) ?_;  clear H f0 f1 f2 f3 f4 f5; rintro v hs ⟨rfl, H⟩; refine need ?_)
              | ((with_reducible show actK _ (HAct.call (HX.cst (HV.func (Fn.func 63) _ _)) _) _ _ _ _ _); refine vcall_of ok63 rfl (bytes63 (p := p) (bv := bv) (b := b) (by with_reducible first | exact H | exact H.p1 | exact H.p2 | exact H.p3 | exact H.p4 | exact H.p5) (fun _ h => R _ (by with_reducible first | exact h.t | exact h.t.t | exact h.t.t.t | exact h.t.t.t.t | exact h.t.t.t.t.t)) (by first | exact Nat.zero_le _ | assumption) (by omega)) ?_;  clear H f0 f1 f2 f3 f4 f5; rintro w hs H; have o1 := H.rd.one; have o2 := H.rd.cells; refine need ?_)
              | refine opC_K ?_
              | ((with_reducible show opC (hbox _ _) _); refine sl_boxA (cells := [bv, .int .i64 0, .bool false]) H (by first | exact rfl | (simp only [f0, f1, f2, f3, f4, f5]; done) | (simp only [onA, *]; done)) ?_; clear H f0 f1 f2 f3 f4 f5; intro p hs H; have H : Sat hs (CrP p bv (0, false) :: _) := H; refine need ?_)
              | ((with_reducible show opC (unit (hstore _ _ _ _)) _); refine sl_store1 (by with_reducible first | exact H | exact H.p1 | exact H.p2 | exact H.p3 | exact H.p4 | exact H.p5) (Nat.le_of_ble_eq_true rfl) (by first | exact rfl | (simp only [f0, f1, f2, f3, f4, f5]; done) | (simp only [onA, *]; done)) (by first | exact rfl | (simp only [f0, f1, f2, f3, f4, f5]; done) | (simp only [onA, *]; done)) ?_)
              | ((with_reducible show opC (unit (hstore _ _ _ _)) _); refine sl_storeN (by with_reducible first | exact H | exact H.p1 | exact H.p2 | exact H.p3 | exact H.p4 | exact H.p5) rfl (Nat.le_of_ble_eq_true rfl) (by first | exact rfl | (simp only [f0, f1, f2, f3, f4, f5]; done) | (simp only [onA, *]; done)) ?_)
              | ((with_reducible show opC (hbox _ _) _); refine sl_box1 H (by first | exact rfl | (simp only [f0, f1, f2, f3, f4, f5]; done) | (simp only [onA, *]; done)) (by first | exact rfl | (simp only [f0, f1, f2, f3, f4, f5]; done) | (simp only [onA, *]; done)) ?_)
              | ((with_reducible show opC (hbox _ _) _); refine sl_boxA H (by first | exact rfl | (simp only [f0, f1, f2, f3, f4, f5]; done) | (simp only [onA, *]; done)) ?_)
              | with_reducible intro hy

            all_goals exact ⟨p, .nilSlice, rfl, (Sat.own0 H.t.p1.t).p1⟩
          · unfold fieldsF at l6 ⊢
            simp only [if_neg c1, if_neg c2, if_neg c3, if_neg c4, if_neg c5] at l6 ⊢
            first | have f0 := Sat.pf (H) | have f0 := trivial
            first | have f1 := Sat.pf (H.t) | have f1 := trivial
            first | have f2 := Sat.pf (H.t.t) | have f2 := trivial
            first | have f3 := Sat.pf (H.t.t.t) | have f3 := trivial
            first | have f4 := Sat.pf (H.t.t.t.t) | have f4 := trivial
            first | have f5 := Sat.pf (H.t.t.t.t.t) | have f5 := trivial
            repeat' first
              | ((with_reducible show Need _); refine need_of ?_; (first | have f0 := Sat.pf (H) | have f0 := trivial); (first | have f1 := Sat.pf (H.t) | have f1 := trivial); (first | have f2 := Sat.pf (H.t.t) | have f2 := trivial); (first | have f3 := Sat.pf (H.t.t.t) | have f3 := trivial); (first | have f4 := Sat.pf (H.t.t.t.t) | have f4 := trivial); (first | have f5 := Sat.pf (H.t.t.t.t.t) | have f5 := trivial))
              | simp -implicitDefEqProofs (disch := first | omega | decide | exact rfl | assumption | exact Nat.le_of_ble_eq_true rfl | exact One.c | exact One.o) only [vsA, vsB, eq_self, if_true, if_false, implies_true, false_implies, evp, HX.ev, Nat.reduceAdd, HOp.looks, Nat.reduceEqDiff, overw, Nat.reduceBEq, h57, bone, bcel, o1, o2, ub57, f0, f1, f2, f3, f4, f5, frame0, List.replicate, Nat.sub]
              | (refine condK_cases (fun h => ?_) (fun h => ?_) <;> (try simp only [h]) <;> (try simp only [athA, ne_eq] at h) <;> (try (exfalso; omega)))
              | (refine guardK_cases (fun h => ?_) (fun h => ?_) <;> (try simp only [h]) <;> (try simp only [athA, ne_eq] at h) <;> (try (exfalso; omega)))
              | (clear H f0 f1 f2 f3 f4 f5; (with_reducible intro v2 hs H); (try simp only [setA, overw, Nat.reduceAdd] at H); refine need ?_)
              | ((with_reducible show actK _ (HAct.call (HX.cst (HV.func (Fn.func 35) _ _)) _) _ _ _ _ _); refine vcall_of ok35 rfl (word35 k _) ?_; rintro _ _ ⟨rfl, rfl⟩)
              | ((with_reducible show actK _ (HAct.call (HX.cst (HV.func (Fn.func 36) _ _)) _) _ _ _ _ _); refine vcall_of ok36 rfl (most36 k _) ?_;  rw [mostN_eq]; rintro _ _ ⟨rfl, rfl⟩)
              | ((with_reducible show actK _ (HAct.call (HX.cst (HV.func (Fn.func 61) _ _)) _) _ _ _ _ _); refine vcall_of ok61 rfl (text61 (p := p) (bv := bv) (b := b) (by with_reducible first | exact H | exact H.p1 | exact H.p2 | exact H.p3 | exact H.p4 | exact H.p5) (fun _ h => R _ (by with_reducible first | exact h.t | exact h.t.t | exact h.t.t.t | exact h.t.t.t.t | exact h.t.t.t.t.t)) (by first | exact Nat.zero_le _ | assumption) (by omega) (by first | decide | omega)) ?_;  clear H f0 f1 f2 f3 f4 f5; rintro _ hs H; refine need ?_)
              | ((with_reducible show actK _ (HAct.call (HX.cst (HV.func (Fn.func 62) _ _)) _) _ _ _ _ _); refine vcall_of ok62 rfl (number62 (p := p) (bv := bv) (b := b) (least := 1) (most := 1099511627776) (by with_reducible first | exact H | exact H.p1 | exact H.p2 | exact H.p3 | exact H.p4 | exact H.p5) (fun _ h => R _ (by with_reducible first | exact h.t | exact h.t.t | exact h.t.t.t | exact h.t.t.t.t | exact h.t.t.t.t.t)) (by first | exact Nat.zero_le _ | assumption) (by omega) (by omega) (by omega)) ?_;  clear H f0 f1 f2 f3 f4 f5; rintro v hs ⟨rfl, H⟩; refine need ?_)
              | ((with_reducible show actK _ (HAct.call (HX.cst (HV.func (Fn.func 62) _ _)) _) _ _ _ _ _); refine vcall_of ok62 rfl (number62 (p := p) (bv := bv) (b := b) (least := 0) (most := 4294967295) (by with_reducible first | exact H | exact H.p1 | exact H.p2 | exact H.p3 | exact H.p4 | exact H.p5) (fun _ h => R _ (by with_reducible first | exact h.t | exact h.t.t | exact h.t.t.t | exact h.t.t.t.t | exact h.t.t.t.t.t)) (by first | exact Nat.zero_le _ | assumption) (by omega) (by omega) (by omega)) ?_;  clear H f0 f1 f2 f3 f4 f5; rintro v hs ⟨rfl, H⟩; refine need ?_)
              | ((with_reducible show actK _ (HAct.call (HX.cst (HV.func (Fn.func 62) _ _)) _) _ _ _ _ _); refine vcall_of ok62 rfl (number62 (p := p) (bv := bv) (b := b) (least := 0) (most := mostN k) (by with_reducible first | exact H | exact H.p1 | exact H.p2 | exact H.p3 | exact H.p4 | exact H.p5) (fun _ h => R _ (by with_reducible first | exact h.t | exact h.t.t | exact h.t.t.t | exact h.t.t.t.t | exact h.t.t.t.t.t)) (by first | exact Nat.zero_le _ | assumption) (by omega) (by omega) (by omega)) ?_;  clear H f0 f1 f2 f3 f4 f5; rintro v hs ⟨rfl, H⟩; refine need ?_)
              | ((with_reducible show actK _ (HAct.call (HX.cst (HV.func (Fn.func 64) _ _)) _) _ _ _ _ _); refine vcall_of ok64 rfl (name64 (p := p) (bv := bv) (b := b) (by with_reducible first | exact H | exact H.p1 | exact H.p2 | exact H.p3 | exact H.p4 | exact H.p5) (fun _ h => R _ (by with_reducible first | exact h.t | exact h.t.t | exact h.t.t.t | exact h.t.t.t.t | exact h.t.t.t.t.t)) (by first | exact Nat.zero_le _ | assumption) (by omega)) ?_;  clear H f0 f1 f2 f3 f4 f5; rintro v hs ⟨rfl, H⟩; refine need ?_)
              | ((with_reducible show actK _ (HAct.call (HX.cst (HV.func (Fn.func 63) _ _)) _) _ _ _ _ _); refine vcall_of ok63 rfl (bytes63 (p := p) (bv := bv) (b := b) (by with_reducible first | exact H | exact H.p1 | exact H.p2 | exact H.p3 | exact H.p4 | exact H.p5) (fun _ h => R _ (by with_reducible first | exact h.t | exact h.t.t | exact h.t.t.t | exact h.t.t.t.t | exact h.t.t.t.t.t)) (by first | exact Nat.zero_le _ | assumption) (by omega)) ?_;  clear H f0 f1 f2 f3 f4 f5; rintro w hs H; have o1 := H.rd.one; have o2 := H.rd.cells; refine need ?_)
              | refine opC_K ?_
              | ((with_reducible show opC (hbox _ _) _); refine sl_boxA (cells := [bv, .int .i64 0, .bool false]) H (by first | exact rfl | (simp only [f0, f1, f2, f3, f4, f5]; done) | (simp only [onA, *]; done)) ?_; clear H f0 f1 f2 f3 f4 f5; intro p hs H; have H : Sat hs (CrP p bv (0, false) :: _) := H; refine need ?_)
              | ((with_reducible show opC (unit (hstore _ _ _ _)) _); refine sl_store1 (by with_reducible first | exact H | exact H.p1 | exact H.p2 | exact H.p3 | exact H.p4 | exact H.p5) (Nat.le_of_ble_eq_true rfl) (by first | exact rfl | (simp only [f0, f1, f2, f3, f4, f5]; done) | (simp only [onA, *]; done)) (by first | exact rfl | (simp only [f0, f1, f2, f3, f4, f5]; done) | (simp only [onA, *]; done)) ?_)
              | ((with_reducible show opC (unit (hstore _ _ _ _)) _); refine sl_storeN (by with_reducible first | exact H | exact H.p1 | exact H.p2 | exact H.p3 | exact H.p4 | exact H.p5) rfl (Nat.le_of_ble_eq_true rfl) (by first | exact rfl | (simp only [f0, f1, f2, f3, f4, f5]; done) | (simp only [onA, *]; done)) ?_)
              | ((with_reducible show opC (hbox _ _) _); refine sl_box1 H (by first | exact rfl | (simp only [f0, f1, f2, f3, f4, f5]; done) | (simp only [onA, *]; done)) (by first | exact rfl | (simp only [f0, f1, f2, f3, f4, f5]; done) | (simp only [onA, *]; done)) ?_)
              | ((with_reducible show opC (hbox _ _) _); refine sl_boxA H (by first | exact rfl | (simp only [f0, f1, f2, f3, f4, f5]; done) | (simp only [onA, *]; done)) ?_)
              | with_reducible intro hy

            all_goals exact ⟨p, .nilSlice, rfl, (Sat.own0 H.t.p1.t).p1⟩
end A
end Go.Proofs.YthihchoccpnfeaaDoor
namespace Go.Proofs.YthihchoccpnfeaaDoor
open Go Go.HL Go.Shelf V
namespace A
set_option maxRecDepth 100000
set_option maxHeartbeats 40000000
set_option linter.unusedSimpArgs false
attribute [local irreducible] pt My Ex Vw Gr GrK each grp exs Sat takeCells happend hbuildSlice hstore hbox hslice hmakeSlice hs2b hcopy HL.unit opC
/-- what first tells: the reply (none: none), how many bytes. -/
def repV (o : Option Int) (b : List UInt8) (w : HV) : HV := match o with
  | some k => .tup [.agg [.int .i64 k, .int .i64 ((formF k b).id : Nat), .int .i64 ((formF k b).num : Nat), .str (formF k b).tube, w], .int .i64 ((formF k b).c.1 : Nat), .bool true]
  | none => .tup [.agg [.int .i64 0, .int .i64 0, .int .i64 0, .str [], .nilSlice], .int .i64 (farF b 23 : Nat), .bool false]
def repB (o : Option Int) (b : List UInt8) : List UInt8 := match o with
  | some k => (formF k b).body
  | none => []
theorem vres_cell3 {fr : List HV} {hs : HS} {t u x : Nat} {n : Option Nat} : hres [.cell t n, .tmp u, .tmp x] fr hs = (hload n hs (fr[t]?.getD .undef)).map fun v => .tup [v, fr[u]?.getD .undef, fr[x]?.getD .undef] := by
  simp only [hres, hresL, hres1]
  cases hload n hs (fr[t]?.getD .undef) <;> rfl
theorem first46 {hs : HS} {l : List SA} {bv : HV} {b : List UInt8} (H : Sat hs l) (R : Rdl l bv b.length (bcells b)) (hb : b.length < 140737488351232) :
    HC Tryd.prog 46 [bv] hs fun v hs' => ∃ w, v = repV (firstK b) b w ∧ Sat hs' (My 1 w (repB (firstK b) b).length (bcells (repB (firstK b) b)) :: l) := by
  have bone := (R _ H).one
  have bcel := (R _ H).cells
  have o1 := True.intro
  have o2 := True.intro
  refine HC.wp mixed Tryd.func46 c46 ?_
  first | have f0 := Sat.pf (H) | have f0 := trivial
  first | have f1 := Sat.pf (H.t) | have f1 := trivial
  first | have f2 := Sat.pf (H.t.t) | have f2 := trivial
  first | have f3 := Sat.pf (H.t.t.t) | have f3 := trivial
  first | have f4 := Sat.pf (H.t.t.t.t) | have f4 := trivial
  first | have f5 := Sat.pf (H.t.t.t.t.t) | have f5 := trivial
  first | have f6 := Sat.pf (H.t.t.t.t.t.t) | have f6 := trivial
  first | have f7 := Sat.pf (H.t.t.t.t.t.t.t) | have f7 := trivial
  repeat' first
    | ((with_reducible show Need _); refine need_of ?_; (first | have f0 := Sat.pf (H) | have f0 := trivial); (first | have f1 := Sat.pf (H.t) | have f1 := trivial); (first | have f2 := Sat.pf (H.t.t) | have f2 := trivial); (first | have f3 := Sat.pf (H.t.t.t) | have f3 := trivial); (first | have f4 := Sat.pf (H.t.t.t.t) | have f4 := trivial); (first | have f5 := Sat.pf (H.t.t.t.t.t) | have f5 := trivial); (first | have f6 := Sat.pf (H.t.t.t.t.t.t) | have f6 := trivial); (first | have f7 := Sat.pf (H.t.t.t.t.t.t.t) | have f7 := trivial))
    | simp -implicitDefEqProofs (disch := first | omega | decide | exact rfl | assumption | exact Nat.le_of_ble_eq_true rfl | exact One.c | exact One.o) only [vsA, vsB, eq_self, if_true, if_false, implies_true, false_implies, evp, HX.ev, Nat.reduceAdd, HOp.looks, Nat.reduceEqDiff, overw, Nat.reduceBEq, h46, bone, bcel, ub46, f0, f1, f2, f3, f4, f5, f6, f7, frame0, List.replicate, Nat.sub]
    | (refine condK_cases (fun h => ?_) (fun h => ?_) <;> (try simp only [h]) <;> (try simp only [athA, ne_eq] at h) <;> (try (exfalso; omega)))
    | (refine guardK_cases (fun h => ?_) (fun h => ?_) <;> (try simp only [h]) <;> (try simp only [athA, ne_eq] at h) <;> (try (exfalso; omega)))
    | (refine dgK_cases (fun h => ?_) (fun h => ?_) <;> (try simp only [h]) <;> (try simp only [athA, ne_eq] at h) <;> (try (exfalso; omega)))
    | (clear H f0 f1 f2 f3 f4 f5 f6 f7; (with_reducible intro v2 hs H); (try simp only [setA, overw, Nat.reduceAdd] at H); refine need ?_)
    | refine opC_K ?_
    | refine opC_D ?_
    | ((with_reducible show opC (unit (hstore _ _ _ _)) _); refine sl_store1 (by with_reducible first | exact H | exact H.p1 | exact H.p2 | exact H.p3 | exact H.p4 | exact H.p5 | exact H.p6 | exact H.p7) (Nat.le_of_ble_eq_true rfl) (by first | exact rfl | (simp only [f0, f1, f2, f3, f4, f5, f6, f7]; done) | (simp only [onA, *]; done)) (by first | exact rfl | (simp only [f0, f1, f2, f3, f4, f5, f6, f7]; done) | (simp only [onA, *]; done)) ?_)
    | ((with_reducible show opC (unit (hstore _ _ _ _)) _); refine sl_storeN (by with_reducible first | exact H | exact H.p1 | exact H.p2 | exact H.p3 | exact H.p4 | exact H.p5 | exact H.p6 | exact H.p7) rfl (Nat.le_of_ble_eq_true rfl) (by first | exact rfl | (simp only [f0, f1, f2, f3, f4, f5, f6, f7]; done) | (simp only [onA, *]; done)) ?_)
    | ((with_reducible show opC (hbox _ _) _); refine sl_box1 H (by first | exact rfl | (simp only [f0, f1, f2, f3, f4, f5, f6, f7]; done) | (simp only [onA, *]; done)) (by first | exact rfl | (simp only [f0, f1, f2, f3, f4, f5, f6, f7]; done) | (simp only [onA, *]; done)) ?_)
    | ((with_reducible show opC (hbox _ _) _); refine sl_boxA H (by first | exact rfl | (simp only [f0, f1, f2, f3, f4, f5, f6, f7]; done) | (simp only [onA, *]; done)) ?_)
    | refine hwp_draw mixed rfl ?_
    | with_reducible intro hy

  refine HW.loopA mixed (fun i : Nat => (bv :: .undef :: .ptr v2 0 :: .undef :: .undef :: .int .i64 (farF b i : Nat) :: .int .i64 ((i + 1 : Nat) : Int) :: .undef :: .undef :: .undef :: .undef :: .undef :: .undef :: .undef :: .undef :: .undef :: .undef :: .undef :: .undef :: .undef :: .undef :: .undef :: .undef :: .undef :: .undef :: .undef :: .undef :: .undef :: .undef :: .undef :: .undef :: .undef :: .undef :: .undef :: .undef :: .undef :: .undef :: []))
    (fun _ => pt v2 (.cells 1 [.int .i64 0, .int .i64 0, .int .i64 0, .str [], .nilSlice] false false []) :: l) (fun i => 23 - i) (fun i => i ≤ 23 ∧ ∀ k : Int, 1 ≤ k → k ≤ (i : Nat) → (formF k b).c.2 = true) 0 ⟨by omega, fun k h1 h2 => by omega⟩ (by (repeat first | exact Less.nil | refine Less.undef _ ?_ | refine Less.keep _ ?_)) H ?_
  clear H
  rintro i hs ⟨hi, ho⟩ H
  by_cases h : i < 23
  · have ek : ((i + 1 : Nat) : Int) = ((i : Nat) : Int) + 1 := by omega
    have hfar : farF b (i + 1) = max (farF b i) (formF ((i + 1 : Nat) : Int) b).c.1 := by rw [ek]; rfl
    cases hoff : (formF ((i + 1 : Nat) : Int) b).c.2 with
    | false =>
      have hk := first_of (b := b) (k := ((i + 1 : Nat) : Int)) (by omega) hoff
      rw [hk]
      first | have f0 := Sat.pf (H) | have f0 := trivial
      first | have f1 := Sat.pf (H.t) | have f1 := trivial
      first | have f2 := Sat.pf (H.t.t) | have f2 := trivial
      first | have f3 := Sat.pf (H.t.t.t) | have f3 := trivial
      first | have f4 := Sat.pf (H.t.t.t.t) | have f4 := trivial
      first | have f5 := Sat.pf (H.t.t.t.t.t) | have f5 := trivial
      first | have f6 := Sat.pf (H.t.t.t.t.t.t) | have f6 := trivial
      first | have f7 := Sat.pf (H.t.t.t.t.t.t.t) | have f7 := trivial
      repeat' first
        | ((with_reducible show Need _); refine need_of ?_; (first | have f0 := Sat.pf (H) | have f0 := trivial); (first | have f1 := Sat.pf (H.t) | have f1 := trivial); (first | have f2 := Sat.pf (H.t.t) | have f2 := trivial); (first | have f3 := Sat.pf (H.t.t.t) | have f3 := trivial); (first | have f4 := Sat.pf (H.t.t.t.t) | have f4 := trivial); (first | have f5 := Sat.pf (H.t.t.t.t.t) | have f5 := trivial); (first | have f6 := Sat.pf (H.t.t.t.t.t.t) | have f6 := trivial); (first | have f7 := Sat.pf (H.t.t.t.t.t.t.t) | have f7 := trivial))
        | simp -implicitDefEqProofs (disch := first | omega | decide | exact rfl | assumption | exact Nat.le_of_ble_eq_true rfl | exact One.c | exact One.o) only [vsA, vsB, eq_self, if_true, if_false, implies_true, false_implies, evp, HX.ev, Nat.reduceAdd, HOp.looks, Nat.reduceEqDiff, overw, Nat.reduceBEq, bone, bcel, o1, o2, hoff, vadd1, vres_cell3, va_loadA, va_ldA, ub46, f0, f1, f2, f3, f4, f5, f6, f7]
        | (refine condK_cases (fun h => ?_) (fun h => ?_) <;> (try simp only [h]) <;> (try simp only [athA, ne_eq] at h) <;> (try (exfalso; omega)))
        | (refine guardK_cases (fun h => ?_) (fun h => ?_) <;> (try simp only [h]) <;> (try simp only [athA, ne_eq] at h) <;> (try (exfalso; omega)))
        | (refine dgK_cases (fun h => ?_) (fun h => ?_) <;> (try simp only [h]) <;> (try simp only [athA, ne_eq] at h) <;> (try (exfalso; omega)))
        | (clear H f0 f1 f2 f3 f4 f5 f6 f7; (with_reducible intro v2 hs H); (try simp only [setA, overw, Nat.reduceAdd] at H); refine need ?_)
        | ((with_reducible show actK _ (HAct.call (HX.cst (HV.func (Fn.func 57) _ _)) _) _ _ _ _ _); refine vcall_of ok57 rfl (form57 ((i + 1 : Nat) : Int) H (fun _ h => R _ h.t) hb) ?_;  clear H f0 f1 f2 f3 f4 f5 f6 f7; rintro v hs ⟨p, w, rfl, H⟩; have o1 := (Sat.rd H.p1).one; have o2 := (Sat.rd H.p1).cells; unfold CrP at H; rw [hoff] at H; refine need ?_)
        | ((with_reducible show drK _ _ _ _ _ _ _ _ _ (some ⟨_, HAct.call (HX.cst (HV.func (Fn.func 57) _ _)) _, none⟩)); refine vdr_call ok57 rfl (form57 ((i + 1 : Nat) : Int) H (fun _ h => R _ h.t) hb) ?_;  clear H f0 f1 f2 f3 f4 f5 f6 f7; rintro v hs ⟨p, w, rfl, H⟩; have o1 := (Sat.rd H.p1).one; have o2 := (Sat.rd H.p1).cells; unfold CrP at H; rw [hoff] at H; refine need ?_)
        | refine opC_K ?_
        | refine opC_D ?_
        | ((with_reducible show opC (unit (hstore _ _ _ _)) _); refine sl_store1 (by with_reducible first | exact H | exact H.p1 | exact H.p2 | exact H.p3 | exact H.p4 | exact H.p5 | exact H.p6 | exact H.p7) (Nat.le_of_ble_eq_true rfl) (by first | exact rfl | (simp only [f0, f1, f2, f3, f4, f5, f6, f7]; done) | (simp only [onA, *]; done)) (by first | exact rfl | (simp only [f0, f1, f2, f3, f4, f5, f6, f7]; done) | (simp only [onA, *]; done)) ?_)
        | ((with_reducible show opC (unit (hstore _ _ _ _)) _); refine sl_storeN (by with_reducible first | exact H | exact H.p1 | exact H.p2 | exact H.p3 | exact H.p4 | exact H.p5 | exact H.p6 | exact H.p7) rfl (Nat.le_of_ble_eq_true rfl) (by first | exact rfl | (simp only [f0, f1, f2, f3, f4, f5, f6, f7]; done) | (simp only [onA, *]; done)) ?_)
        | ((with_reducible show opC (hbox _ _) _); refine sl_box1 H (by first | exact rfl | (simp only [f0, f1, f2, f3, f4, f5, f6, f7]; done) | (simp only [onA, *]; done)) (by first | exact rfl | (simp only [f0, f1, f2, f3, f4, f5, f6, f7]; done) | (simp only [onA, *]; done)) ?_)
        | ((with_reducible show opC (hbox _ _) _); refine sl_boxA H (by first | exact rfl | (simp only [f0, f1, f2, f3, f4, f5, f6, f7]; done) | (simp only [onA, *]; done)) ?_)
        | refine hwp_draw mixed rfl ?_
        | with_reducible intro hy

      exact ⟨w, rfl, H.t.t.t⟩
    | true =>
      first | have f0 := Sat.pf (H) | have f0 := trivial
      first | have f1 := Sat.pf (H.t) | have f1 := trivial
      first | have f2 := Sat.pf (H.t.t) | have f2 := trivial
      first | have f3 := Sat.pf (H.t.t.t) | have f3 := trivial
      first | have f4 := Sat.pf (H.t.t.t.t) | have f4 := trivial
      first | have f5 := Sat.pf (H.t.t.t.t.t) | have f5 := trivial
      first | have f6 := Sat.pf (H.t.t.t.t.t.t) | have f6 := trivial
      first | have f7 := Sat.pf (H.t.t.t.t.t.t.t) | have f7 := trivial
      repeat' first
        | ((with_reducible show Need _); refine need_of ?_; (first | have f0 := Sat.pf (H) | have f0 := trivial); (first | have f1 := Sat.pf (H.t) | have f1 := trivial); (first | have f2 := Sat.pf (H.t.t) | have f2 := trivial); (first | have f3 := Sat.pf (H.t.t.t) | have f3 := trivial); (first | have f4 := Sat.pf (H.t.t.t.t) | have f4 := trivial); (first | have f5 := Sat.pf (H.t.t.t.t.t) | have f5 := trivial); (first | have f6 := Sat.pf (H.t.t.t.t.t.t) | have f6 := trivial); (first | have f7 := Sat.pf (H.t.t.t.t.t.t.t) | have f7 := trivial))
        | simp -implicitDefEqProofs (disch := first | omega | decide | exact rfl | assumption | exact Nat.le_of_ble_eq_true rfl | exact One.c | exact One.o) only [vsA, vsB, eq_self, if_true, if_false, implies_true, false_implies, evp, HX.ev, Nat.reduceAdd, HOp.looks, Nat.reduceEqDiff, overw, Nat.reduceBEq, bone, bcel, o1, o2, hoff, vadd1, vres_cell3, va_loadA, va_ldA, ub46, f0, f1, f2, f3, f4, f5, f6, f7]
        | (refine condK_cases (fun h => ?_) (fun h => ?_) <;> (try simp only [h]) <;> (try simp only [athA, ne_eq] at h) <;> (try (exfalso; omega)))
        | (refine guardK_cases (fun h => ?_) (fun h => ?_) <;> (try simp only [h]) <;> (try simp only [athA, ne_eq] at h) <;> (try (exfalso; omega)))
        | (refine dgK_cases (fun h => ?_) (fun h => ?_) <;> (try simp only [h]) <;> (try simp only [athA, ne_eq] at h) <;> (try (exfalso; omega)))
        | (clear H f0 f1 f2 f3 f4 f5 f6 f7; (with_reducible intro v2 hs H); (try simp only [setA, overw, Nat.reduceAdd] at H); refine need ?_)
        | ((with_reducible show actK _ (HAct.call (HX.cst (HV.func (Fn.func 57) _ _)) _) _ _ _ _ _); refine vcall_of ok57 rfl (form57 ((i + 1 : Nat) : Int) H (fun _ h => R _ h.t) hb) ?_;  clear H f0 f1 f2 f3 f4 f5 f6 f7; rintro v hs ⟨p, w, rfl, H⟩; have o1 := (Sat.rd H.p1).one; have o2 := (Sat.rd H.p1).cells; unfold CrP at H; rw [hoff] at H; refine need ?_)
        | ((with_reducible show drK _ _ _ _ _ _ _ _ _ (some ⟨_, HAct.call (HX.cst (HV.func (Fn.func 57) _ _)) _, none⟩)); refine vdr_call ok57 rfl (form57 ((i + 1 : Nat) : Int) H (fun _ h => R _ h.t) hb) ?_;  clear H f0 f1 f2 f3 f4 f5 f6 f7; rintro v hs ⟨p, w, rfl, H⟩; have o1 := (Sat.rd H.p1).one; have o2 := (Sat.rd H.p1).cells; unfold CrP at H; rw [hoff] at H; refine need ?_)
        | refine opC_K ?_
        | refine opC_D ?_
        | ((with_reducible show opC (unit (hstore _ _ _ _)) _); refine sl_store1 (by with_reducible first | exact H | exact H.p1 | exact H.p2 | exact H.p3 | exact H.p4 | exact H.p5 | exact H.p6 | exact H.p7) (Nat.le_of_ble_eq_true rfl) (by first | exact rfl | (simp only [f0, f1, f2, f3, f4, f5, f6, f7]; done) | (simp only [onA, *]; done)) (by first | exact rfl | (simp only [f0, f1, f2, f3, f4, f5, f6, f7]; done) | (simp only [onA, *]; done)) ?_)
        | ((with_reducible show opC (unit (hstore _ _ _ _)) _); refine sl_storeN (by with_reducible first | exact H | exact H.p1 | exact H.p2 | exact H.p3 | exact H.p4 | exact H.p5 | exact H.p6 | exact H.p7) rfl (Nat.le_of_ble_eq_true rfl) (by first | exact rfl | (simp only [f0, f1, f2, f3, f4, f5, f6, f7]; done) | (simp only [onA, *]; done)) ?_)
        | ((with_reducible show opC (hbox _ _) _); refine sl_box1 H (by first | exact rfl | (simp only [f0, f1, f2, f3, f4, f5, f6, f7]; done) | (simp only [onA, *]; done)) (by first | exact rfl | (simp only [f0, f1, f2, f3, f4, f5, f6, f7]; done) | (simp only [onA, *]; done)) ?_)
        | ((with_reducible show opC (hbox _ _) _); refine sl_boxA H (by first | exact rfl | (simp only [f0, f1, f2, f3, f4, f5, f6, f7]; done) | (simp only [onA, *]; done)) ?_)
        | refine hwp_draw mixed rfl ?_
        | with_reducible intro hy

      exact ⟨i + 1, _, by omega, ⟨by omega, fun k h1 h2 => by
        by_cases e : k = ((i + 1 : Nat) : Int)
        · rw [e]; exact hoff
        · exact ho k h1 (by omega)⟩, (by rw [hfar]; (repeat first | exact Less.nil | refine Less.undef _ ?_ | refine Less.keep _ ?_)), Weak.refl _, H.t.t.t⟩
  · obtain rfl : i = 23 := by omega
    have hn : firstK b = none := none_of fun k hk => ho k hk.1 (by omega)
    rw [hn]
    first | have f0 := Sat.pf (H) | have f0 := trivial
    first | have f1 := Sat.pf (H.t) | have f1 := trivial
    first | have f2 := Sat.pf (H.t.t) | have f2 := trivial
    first | have f3 := Sat.pf (H.t.t.t) | have f3 := trivial
    first | have f4 := Sat.pf (H.t.t.t.t) | have f4 := trivial
    first | have f5 := Sat.pf (H.t.t.t.t.t) | have f5 := trivial
    first | have f6 := Sat.pf (H.t.t.t.t.t.t) | have f6 := trivial
    first | have f7 := Sat.pf (H.t.t.t.t.t.t.t) | have f7 := trivial
    repeat' first
      | ((with_reducible show Need _); refine need_of ?_; (first | have f0 := Sat.pf (H) | have f0 := trivial); (first | have f1 := Sat.pf (H.t) | have f1 := trivial); (first | have f2 := Sat.pf (H.t.t) | have f2 := trivial); (first | have f3 := Sat.pf (H.t.t.t) | have f3 := trivial); (first | have f4 := Sat.pf (H.t.t.t.t) | have f4 := trivial); (first | have f5 := Sat.pf (H.t.t.t.t.t) | have f5 := trivial); (first | have f6 := Sat.pf (H.t.t.t.t.t.t) | have f6 := trivial); (first | have f7 := Sat.pf (H.t.t.t.t.t.t.t) | have f7 := trivial))
      | simp -implicitDefEqProofs (disch := first | omega | decide | exact rfl | assumption | exact Nat.le_of_ble_eq_true rfl | exact One.c | exact One.o) only [vsA, vsB, eq_self, if_true, if_false, implies_true, false_implies, evp, HX.ev, Nat.reduceAdd, HOp.looks, Nat.reduceEqDiff, overw, Nat.reduceBEq, vadd1, vres_cell3, va_loadA, va_ldA, ub46, f0, f1, f2, f3, f4, f5, f6, f7]
      | (refine condK_cases (fun h => ?_) (fun h => ?_) <;> (try simp only [h]) <;> (try simp only [athA, ne_eq] at h) <;> (try (exfalso; omega)))
      | (refine guardK_cases (fun h => ?_) (fun h => ?_) <;> (try simp only [h]) <;> (try simp only [athA, ne_eq] at h) <;> (try (exfalso; omega)))
      | (refine dgK_cases (fun h => ?_) (fun h => ?_) <;> (try simp only [h]) <;> (try simp only [athA, ne_eq] at h) <;> (try (exfalso; omega)))
      | (clear H f0 f1 f2 f3 f4 f5 f6 f7; (with_reducible intro v2 hs H); (try simp only [setA, overw, Nat.reduceAdd] at H); refine need ?_)
      | refine opC_K ?_
      | refine opC_D ?_
      | ((with_reducible show opC (unit (hstore _ _ _ _)) _); refine sl_store1 (by with_reducible first | exact H | exact H.p1 | exact H.p2 | exact H.p3 | exact H.p4 | exact H.p5 | exact H.p6 | exact H.p7) (Nat.le_of_ble_eq_true rfl) (by first | exact rfl | (simp only [f0, f1, f2, f3, f4, f5, f6, f7]; done) | (simp only [onA, *]; done)) (by first | exact rfl | (simp only [f0, f1, f2, f3, f4, f5, f6, f7]; done) | (simp only [onA, *]; done)) ?_)
      | ((with_reducible show opC (unit (hstore _ _ _ _)) _); refine sl_storeN (by with_reducible first | exact H | exact H.p1 | exact H.p2 | exact H.p3 | exact H.p4 | exact H.p5 | exact H.p6 | exact H.p7) rfl (Nat.le_of_ble_eq_true rfl) (by first | exact rfl | (simp only [f0, f1, f2, f3, f4, f5, f6, f7]; done) | (simp only [onA, *]; done)) ?_)
      | ((with_reducible show opC (hbox _ _) _); refine sl_box1 H (by first | exact rfl | (simp only [f0, f1, f2, f3, f4, f5, f6, f7]; done) | (simp only [onA, *]; done)) (by first | exact rfl | (simp only [f0, f1, f2, f3, f4, f5, f6, f7]; done) | (simp only [onA, *]; done)) ?_)
      | ((with_reducible show opC (hbox _ _) _); refine sl_boxA H (by first | exact rfl | (simp only [f0, f1, f2, f3, f4, f5, f6, f7]; done) | (simp only [onA, *]; done)) ?_)
      | refine hwp_draw mixed rfl ?_
      | with_reducible intro hy

    exact ⟨.nilSlice, rfl, Sat.own0 H.t⟩
end A
end Go.Proofs.YthihchoccpnfeaaDoor
namespace Go.Proofs.YthihchoccpnfeaaDoor
open Go Go.HL Go.Shelf V
namespace A
set_option maxRecDepth 100000
set_option maxHeartbeats 40000000
set_option linter.unusedSimpArgs false
attribute [local irreducible] pt My Ex Vw Gr GrK each grp exs Sat takeCells happend hbuildSlice hstore hbox hslice hmakeSlice hs2b hcopy HL.unit opC
/-- a reply that came. -/
structure RE where
  w : HV
  x : Int × Fm
def RE.cells (e : RE) : List HV := [.int .i64 e.x.1, .int .i64 (e.x.2.id : Nat), .int .i64 (e.x.2.num : Nat), .str e.x.2.tube, e.w, .int .i64 (e.x.2.c.1 : Nat)]
def RE.P (e : RE) : SA := My 1 e.w e.x.2.body.length (bcells e.x.2.body)
def ReadP (p : Nat) (L : List RE) (bad : Bool) (r : List UInt8) : SA := exs fun (q : HV × HV) =>
  grp [pt p (.cells 1 [q.1, q.2, .bool bad] false false []), My 6 q.1 L.length (L.flatMap RE.cells), My 1 q.2 r.length (bcells r), each RE.P L]
theorem read_open {hs : HS} {l : List SA} {p : Nat} {L : List RE} {bad : Bool} {r : List UInt8} : Sat hs (ReadP p L bad r :: l) ↔ ∃ vc vr, Sat hs (pt p (.cells 1 [vc, vr, .bool bad] false false []) :: My 6 vc L.length (L.flatMap RE.cells) :: My 1 vr r.length (bcells r) :: each RE.P L :: l) := by
  unfold ReadP
  rw [Sat.exs_iff]
  constructor
  · rintro ⟨⟨vc, vr⟩, h⟩
    exact ⟨vc, vr, Sat.grp_iff.1 h⟩
  · rintro ⟨vc, vr, h⟩
    exact ⟨⟨vc, vr⟩, Sat.grp_iff.2 h⟩
theorem my_tail {hs : HS} {l : List SA} {w : HV} {bs : List UInt8} {k : Nat} (H : Sat hs (My 1 w bs.length (bcells bs) :: l)) (hk : k ≤ bs.length) : ∃ x, hslice w (some (.int .i64 (k : Nat))) none none = some x ∧
    ∀ hs l, Sat hs (My 1 w bs.length (bcells bs) :: l) → Rd hs 1 x (bs.drop k).length (bcells (bs.drop k)) := by
  obtain ⟨x, hx, _⟩ := rd_cut (H.rd) rfl (lo := k) (hi := bs.length) (Lo.some (k := .i64)) Hi.none hk (Nat.le_refl _)
  refine ⟨x, hx, fun hs l H => ?_⟩
  obtain ⟨x2, hx2, r2⟩ := rd_cut H.rd rfl (lo := k) (hi := bs.length) (Lo.some (k := .i64)) Hi.none hk (Nat.le_refl _)
  rw [hx] at hx2; cases hx2
  rw [List.length_drop]
  rwa [List.take_of_length_le (by rw [List.length_drop]; omega)] at r2
theorem my_mid {hs : HS} {l : List SA} {w : HV} {bs : List UInt8} {a j : Nat} (H : Sat hs (My 1 w bs.length (bcells bs) :: l)) (ha : a ≤ j) (hk : j ≤ bs.length) : ∃ y z, hslice w none (some (.int .i64 (j : Nat))) none = some y ∧ hslice y (some (.int .i64 (a : Nat))) none none = some z ∧ (y.one = true ∧ y.cells = [y] ∧ z.one = true ∧ z.cells = [z]) ∧
    ∀ hs l, Sat hs (My 1 w bs.length (bcells bs) :: l) → Rd hs 1 z ((bs.take j).drop a).length (bcells ((bs.take j).drop a)) ∧ Sat hs (My 1 y (bs.take j).length (bcells (bs.take j)) :: l) := by
  obtain ⟨y, hy, ry⟩ := rd_cut (H.rd) rfl (lo := 0) (hi := j) Lo.none (Hi.some (k := .i64)) (Nat.zero_le _) hk
  have key : ∀ hs l, Sat hs (My 1 w bs.length (bcells bs) :: l) → Sat hs (My 1 y (bs.take j).length (bcells (bs.take j)) :: l) := fun hs l H => by
    have h := H.cut (lo := 0) (hi := j) Lo.none (Hi.some (k := .i64)) (Nat.zero_le _) hk hy
    rw [Nat.zero_mul, List.drop_zero, Nat.sub_zero, Nat.mul_one, bc_take] at h
    rwa [List.length_take, Nat.min_eq_left hk]
  obtain ⟨z, hz, rz⟩ := my_tail (k := a) (key _ _ H) (by rw [List.length_take]; omega)
  exact ⟨y, z, hy, hz, ⟨ry.one, ry.cells, (rz _ _ (key _ _ H)).one, (rz _ _ (key _ _ H)).cells⟩, fun hs l H => ⟨rz _ _ (key _ _ H), key _ _ H⟩⟩
theorem reply_fill {k a b c : Int} {t : List UInt8} {w : HV} (h : w.one = true) : hfill [.int .i64 0, .int .i64 0, .int .i64 0, .str [], .nilSlice, .int .i64 0] [(0, 6, .agg [.int .i64 k, .int .i64 a, .int .i64 b, .str t, w, .int .i64 c])] = some [.int .i64 k, .int .i64 a, .int .i64 b, .str t, w, .int .i64 c] := by
  rw [hf_agg (n := 6) (by simp only [List.all_cons, List.all_nil, on_int, on_str, h, Bool.and_self]) rfl (by decide)]; rfl
theorem reply_build {k a b c : Int} {t : List UInt8} {w : HV} (h : w.one = true) : hfill [.int .i64 0, .int .i64 0, .int .i64 0, .str [], .nilSlice, .int .i64 0] [(0, 5, .agg [.int .i64 k, .int .i64 a, .int .i64 b, .str t, w]), (5, 1, .int .i64 c)] = some [.int .i64 k, .int .i64 a, .int .i64 b, .str t, w, .int .i64 c] := by
  rw [hf_agg (n := 5) (by simp only [List.all_cons, List.all_nil, on_int, on_str, h, Bool.and_self]) rfl (by decide)]; rfl
theorem read_snoc {hs : HS} {l : List SA} {vc : HV} {L : List RE} {e : RE} (H : Sat hs (My 6 vc (L.length + 1) (L.flatMap RE.cells ++ e.cells) :: My 1 e.w e.x.2.body.length (bcells e.x.2.body) :: each RE.P L :: l)) :
    Sat hs (My 6 vc (L ++ [e]).length ((L ++ [e]).flatMap RE.cells) :: each RE.P (L ++ [e]) :: l) := by
  have h : Sat hs (each RE.P (L ++ [e]) :: _) := Sat.each_snoc.2 H.p2.p2
  rw [List.length_append, List.length_singleton, List.flatMap_append, List.flatMap_singleton]
  exact h.p1
theorem feed22 {hs : HS} {l : List SA} {p : Nat} {L : List RE} {r b : List UInt8} {bv : HV} (H : Sat hs (ReadP p L false r :: l)) (R : Rdl l bv b.length (bcells b)) (hb : L.length + r.length + b.length < 1099511627776) :
    HC Tryd.prog 22 [.ptr p 0, bv] hs fun _ hs' => ∃ L' bad r', Dec (r ++ b) (L'.map RE.x) bad r' ∧ Sat hs' (ReadP p (L ++ L') bad r' :: l) := by
  have hmax : maxLen = 9223372036854775807 := rfl
  obtain ⟨vc, vr, H1⟩ := read_open.1 H
  clear H
  have H := H1
  clear H1
  have T := (R _ H.t.t.t.t).take
  refine HC.wp mixed Tryd.func22 c22 ?_
  first | have f0 := Sat.pf (H) | have f0 := trivial
  first | have f1 := Sat.pf (H.t) | have f1 := trivial
  first | have f2 := Sat.pf (H.t.t) | have f2 := trivial
  first | have f3 := Sat.pf (H.t.t.t) | have f3 := trivial
  first | have f4 := Sat.pf (H.t.t.t.t) | have f4 := trivial
  first | have f5 := Sat.pf (H.t.t.t.t.t) | have f5 := trivial
  first | have f6 := Sat.pf (H.t.t.t.t.t.t) | have f6 := trivial
  first | have f7 := Sat.pf (H.t.t.t.t.t.t.t) | have f7 := trivial
  first | have f8 := Sat.pf (H.t.t.t.t.t.t.t.t) | have f8 := trivial
  first | have f9 := Sat.pf (H.t.t.t.t.t.t.t.t.t) | have f9 := trivial
  repeat' first
    | ((with_reducible show Need _); refine need_of ?_; (first | have f0 := Sat.pf (H) | have f0 := trivial); (first | have f1 := Sat.pf (H.t) | have f1 := trivial); (first | have f2 := Sat.pf (H.t.t) | have f2 := trivial); (first | have f3 := Sat.pf (H.t.t.t) | have f3 := trivial); (first | have f4 := Sat.pf (H.t.t.t.t) | have f4 := trivial); (first | have f5 := Sat.pf (H.t.t.t.t.t) | have f5 := trivial); (first | have f6 := Sat.pf (H.t.t.t.t.t.t) | have f6 := trivial); (first | have f7 := Sat.pf (H.t.t.t.t.t.t.t) | have f7 := trivial); (first | have f8 := Sat.pf (H.t.t.t.t.t.t.t.t) | have f8 := trivial); (first | have f9 := Sat.pf (H.t.t.t.t.t.t.t.t.t) | have f9 := trivial); (first | have T := (R _ (by with_reducible exact H.t.t.t.t)).take | skip))
    | simp -implicitDefEqProofs (disch := first | omega | decide | exact rfl | assumption | exact Nat.le_of_ble_eq_true rfl | exact One.c | exact One.o) only [vsA, vsB, eq_self, if_true, if_false, implies_true, false_implies, evp, HX.ev, Nat.reduceAdd, HOp.looks, Nat.reduceEqDiff, overw, Nat.reduceBEq, h22, ub22, f0, f1, f2, f3, f4, f5, f6, f7, f8, f9, frame0, List.replicate, Nat.sub]
    | (refine condK_cases (fun h => ?_) (fun h => ?_) <;> (try simp only [h]) <;> (try simp only [athA, ne_eq] at h) <;> (try (exfalso; omega)))
    | (refine guardK_cases (fun h => ?_) (fun h => ?_) <;> (try simp only [h]) <;> (try simp only [athA, ne_eq] at h) <;> (try (exfalso; omega)))
    | (refine dgK_cases (fun h => ?_) (fun h => ?_) <;> (try simp only [h]) <;> (try simp only [athA, ne_eq] at h) <;> (try (exfalso; omega)))
    | (clear H f0 f1 f2 f3 f4 f5 f6 f7 f8 f9; (with_reducible intro v2 hs H); (try simp only [setA, overw, Nat.reduceAdd] at H); refine need ?_)
    | refine opC_K ?_
    | refine opC_D ?_
    | ((with_reducible show opC (happend _ _ _ _ _) _); refine sl_append (n := r.length) (xs := bcells r) (by with_reducible first | exact H | exact H.p1 | exact H.p2 | exact H.p3 | exact H.p4 | exact H.p5 | exact H.p6 | exact H.p7 | exact H.p8 | exact H.p9) T (by first | exact roomFor_of (by omega) | exact roomFor_wide (by omega)) (by omega) ?_; clear H f0 f1 f2 f3 f4 f5 f6 f7 f8 f9; intro vr hs H; refine need ?_)
    | ((with_reducible show opC (unit (hstore _ _ _ _)) _); refine sl_store1 (by with_reducible first | exact H | exact H.p1 | exact H.p2 | exact H.p3 | exact H.p4 | exact H.p5 | exact H.p6 | exact H.p7 | exact H.p8 | exact H.p9) (Nat.le_of_ble_eq_true rfl) (by first | exact rfl | (simp only [f0, f1, f2, f3, f4, f5, f6, f7, f8, f9]; done) | (simp only [onA, *]; done)) (by first | exact rfl | (simp only [f0, f1, f2, f3, f4, f5, f6, f7, f8, f9]; done) | (simp only [onA, *]; done)) ?_)
    | ((with_reducible show opC (unit (hstore _ _ _ _)) _); refine sl_storeN (by with_reducible first | exact H | exact H.p1 | exact H.p2 | exact H.p3 | exact H.p4 | exact H.p5 | exact H.p6 | exact H.p7 | exact H.p8 | exact H.p9) rfl (Nat.le_of_ble_eq_true rfl) (by first | exact rfl | (simp only [f0, f1, f2, f3, f4, f5, f6, f7, f8, f9]; done) | (simp only [onA, *]; done)) ?_)
    | ((with_reducible show opC (happend _ _ _ _ _) _); refine sl_append (by with_reducible first | exact H | exact H.p1 | exact H.p2 | exact H.p3 | exact H.p4 | exact H.p5 | exact H.p6 | exact H.p7 | exact H.p8 | exact H.p9) (by first | assumption | with_reducible first | exact f0.2.1 | exact f1.2.1 | exact f2.2.1 | exact f3.2.1 | exact f4.2.1 | exact f5.2.1 | exact f6.2.1 | exact f7.2.1 | exact f8.2.1 | exact f9.2.1 | exact va_takeS) (by first | exact roomFor_of (by omega) | exact roomFor_wide (by omega)) (by omega) ?_)
    | ((with_reducible show opC (happend _ _ _ _ _) _); refine sl_append0X H (by first | assumption | with_reducible first | exact f0.2.1 | exact f1.2.1 | exact f2.2.1 | exact f3.2.1 | exact f4.2.1 | exact f5.2.1 | exact f6.2.1 | exact f7.2.1 | exact f8.2.1 | exact f9.2.1 | exact va_takeS) (by first | exact roomFor_of (by omega) | exact roomFor_wide (by omega)) (by omega) ?_)
    | ((with_reducible show opC (happend _ _ _ _ _) _); refine sl_appendX (by with_reducible first | exact H | exact H.p1 | exact H.p2 | exact H.p3 | exact H.p4 | exact H.p5 | exact H.p6 | exact H.p7 | exact H.p8 | exact H.p9) (by first | assumption | with_reducible first | exact f0.2.1 | exact f1.2.1 | exact f2.2.1 | exact f3.2.1 | exact f4.2.1 | exact f5.2.1 | exact f6.2.1 | exact f7.2.1 | exact f8.2.1 | exact f9.2.1 | exact va_takeS) (by first | exact roomFor_of (by omega) | exact roomFor_wide (by omega)) (by omega) ?_)
    | ((with_reducible show opC (hbuildSlice _ _ _ _ _) _); refine sl_bslice1 H rfl (by first | exact rfl | (simp only [f0, f1, f2, f3, f4, f5, f6, f7, f8, f9]; done) | (simp only [onA, *]; done)) (by first | exact rfl | (simp only [f0, f1, f2, f3, f4, f5, f6, f7, f8, f9]; done) | (simp only [onA, *]; done)) ?_)
    | ((with_reducible show opC (hbox _ _) _); refine sl_box1 H (by first | exact rfl | (simp only [f0, f1, f2, f3, f4, f5, f6, f7, f8, f9]; done) | (simp only [onA, *]; done)) (by first | exact rfl | (simp only [f0, f1, f2, f3, f4, f5, f6, f7, f8, f9]; done) | (simp only [onA, *]; done)) ?_)
    | ((with_reducible show opC (hbox _ _) _); refine sl_boxA H (by first | exact rfl | (simp only [f0, f1, f2, f3, f4, f5, f6, f7, f8, f9]; done) | (simp only [onA, *]; done)) ?_)
    | refine hwp_draw mixed rfl ?_
    | with_reducible intro hy

  obtain ⟨full, hfull⟩ : ∃ full, full = r ++ b := ⟨_, rfl⟩
  have hfl : full.length = r.length + b.length := by rw [hfull, List.length_append]
  rw [show bcells r ++ bcells b = bcells full by rw [hfull]; simp [bcells]] at H
  rw [← hfl] at H
  rw [← hfull]
  have Hn : Sat hs (pt p (.cells 1 [vc, vr, .bool false] false false []) :: My 1 vr full.length (bcells full) :: My 6 vc (L ++ []).length ((L ++ []).flatMap RE.cells) :: each RE.P (L ++ []) :: l) := by simp only [List.append_nil]; exact H
  refine HW.loopA mixed (fun t : Nat × List RE => (.ptr p 0 :: .undef :: .undef :: .undef :: .int .i64 (t.1 : Nat) :: .undef :: .undef :: .undef :: .undef :: .undef :: .undef :: .undef :: .undef :: .undef :: .undef :: .undef :: .undef :: .undef :: .undef :: .undef :: .undef :: .undef :: .undef :: .undef :: .undef :: .undef :: .undef :: .undef :: .undef :: .undef :: .undef :: .undef :: .undef :: .undef :: .undef :: .undef :: .undef :: .undef :: .undef :: .undef :: .undef :: .undef :: .undef :: .undef :: .undef :: .undef :: .undef :: .undef :: .undef :: .undef :: .undef :: .undef :: .undef :: .undef :: .undef :: .undef :: .undef :: .undef :: .undef :: .undef :: .undef :: .undef :: .undef :: .undef :: .undef :: .undef :: .undef :: .undef :: .undef :: .undef :: .undef :: .undef :: .undef :: .undef :: .undef :: .undef :: .undef :: .undef :: .undef :: .undef :: .undef :: .undef :: .undef :: .undef :: .undef :: []))
    (fun t => (exs fun vc => grp [pt p (.cells 1 [vc, vr, .bool false] false false []), My 1 vr full.length (bcells full), My 6 vc (L ++ t.2).length ((L ++ t.2).flatMap RE.cells), each RE.P (L ++ t.2)]) :: l) (fun t => full.length - t.1)
    (fun t => (∀ l' bad r', Dec (full.drop t.1) l' bad r' → Dec full (t.2.map RE.x ++ l') bad r') ∧ t.1 ≤ full.length ∧ t.2.length ≤ t.1)
    (0, []) ⟨fun _ _ _ h => h, Nat.zero_le _, Nat.le_refl _⟩ (by (repeat first | exact Less.nil | refine Less.undef _ ?_ | refine Less.keep _ ?_)) (Sat.exs_iff.2 ⟨vc, Sat.grp_iff.2 Hn⟩) ?_
  clear H Hn
  rintro ⟨a, L'⟩ hs ⟨hD, ha, hl⟩ H
  simp only at hD ha hl H
  obtain ⟨vc, H1⟩ := Sat.exs_iff.1 H
  clear H
  have H := Sat.grp_iff.1 H1
  clear H1
  simp only [List.cons_append, List.nil_append] at H
  have hle : (L ++ L').length = L.length + L'.length := by simp
  obtain ⟨x, hx, hrd⟩ := my_tail (k := a) H.p1 ha
  obtain ⟨b2, hb2⟩ : ∃ b2, b2 = full.drop a := ⟨_, rfl⟩
  rw [← hb2] at hrd hD
  have lb : b2.length = full.length - a := by rw [hb2, List.length_drop]
  have fl := far_le b2 23
  have o1 := True.intro
  have o2 := True.intro
  cases hf : firstK b2 with
  | none =>
    have va : hbin .add none (.int .i64 (a : Nat)) (.int .i64 (farF b2 23 : Nat)) = some (.int .i64 ((a + farF b2 23 : Nat) : Int)) := vaddn (by omega)
    by_cases hlt : farF b2 23 < b2.length
    · have d1 : decide (((a + farF b2 23 : Nat) : Int) < ((full.length : Nat) : Int)) = true := by simp; omega
      have va2 : hbin .add none (.int .i64 ((a + farF b2 23 : Nat) : Int)) (.int .i64 1) = some (.int .i64 ((a + farF b2 23 + 1 : Nat) : Int)) := vadd1 (by omega)
      obtain ⟨y, z, hy, hz, ⟨oy1, oy2, oz1, oz2⟩, hyz⟩ := my_mid (a := a) (j := a + farF b2 23 + 1) H.p1 (by omega) (by omega)
      first | have f0 := Sat.pf (H) | have f0 := trivial
      first | have f1 := Sat.pf (H.t) | have f1 := trivial
      first | have f2 := Sat.pf (H.t.t) | have f2 := trivial
      first | have f3 := Sat.pf (H.t.t.t) | have f3 := trivial
      first | have f4 := Sat.pf (H.t.t.t.t) | have f4 := trivial
      first | have f5 := Sat.pf (H.t.t.t.t.t) | have f5 := trivial
      first | have f6 := Sat.pf (H.t.t.t.t.t.t) | have f6 := trivial
      first | have f7 := Sat.pf (H.t.t.t.t.t.t.t) | have f7 := trivial
      first | have f8 := Sat.pf (H.t.t.t.t.t.t.t.t) | have f8 := trivial
      first | have f9 := Sat.pf (H.t.t.t.t.t.t.t.t.t) | have f9 := trivial
      have lz : ((full.take (a + farF b2 23 + 1)).drop a).length < 140737488351232 := by rw [List.length_drop, List.length_take]; omega
      have so := True.intro
      repeat' first
        | ((with_reducible show Need _); refine need_of ?_; (first | have f0 := Sat.pf (H) | have f0 := trivial); (first | have f1 := Sat.pf (H.t) | have f1 := trivial); (first | have f2 := Sat.pf (H.t.t) | have f2 := trivial); (first | have f3 := Sat.pf (H.t.t.t) | have f3 := trivial); (first | have f4 := Sat.pf (H.t.t.t.t) | have f4 := trivial); (first | have f5 := Sat.pf (H.t.t.t.t.t) | have f5 := trivial); (first | have f6 := Sat.pf (H.t.t.t.t.t.t) | have f6 := trivial); (first | have f7 := Sat.pf (H.t.t.t.t.t.t.t) | have f7 := trivial); (first | have f8 := Sat.pf (H.t.t.t.t.t.t.t.t) | have f8 := trivial); (first | have f9 := Sat.pf (H.t.t.t.t.t.t.t.t.t) | have f9 := trivial); (first | have so := (hyz _ _ (by with_reducible first | exact H | exact H.p1 | exact H.p2 | exact H.p3 | exact H.p4 | exact H.p5 | exact H.p6 | exact H.p7 | exact H.p8 | exact H.p9)).2.rd.sOk | skip))
        | simp -implicitDefEqProofs (disch := first | omega | decide | exact rfl | assumption | exact Nat.le_of_ble_eq_true rfl | exact One.c | exact One.o) only [vsA, vsB, eq_self, if_true, if_false, implies_true, false_implies, evp, HX.ev, Nat.reduceAdd, HOp.looks, Nat.reduceEqDiff, overw, Nat.reduceBEq, hx, o1, o2, va, va2, d1, hy, hz, oy1, oy2, oz1, oz2, so, vadd1, va_loadA, va_ldA, ub22, f0, f1, f2, f3, f4, f5, f6, f7, f8, f9]
        | (refine condK_cases (fun h => ?_) (fun h => ?_) <;> (try simp only [h]) <;> (try simp only [athA, ne_eq] at h) <;> (try (exfalso; omega)))
        | (refine guardK_cases (fun h => ?_) (fun h => ?_) <;> (try simp only [h]) <;> (try simp only [athA, ne_eq] at h) <;> (try (exfalso; omega)))
        | (refine dgK_cases (fun h => ?_) (fun h => ?_) <;> (try simp only [h]) <;> (try simp only [athA, ne_eq] at h) <;> (try (exfalso; omega)))
        | (clear H f0 f1 f2 f3 f4 f5 f6 f7 f8 f9; (with_reducible intro v2 hs H); (try simp only [setA, overw, Nat.reduceAdd] at H); refine need ?_)
        | ((with_reducible show actK _ (HAct.call (HX.cst (HV.func (Fn.func 46) _ _)) _) _ _ _ _ _); refine vcall_of ok46 rfl (first46 H (fun _ h => hrd _ _ h.p1) (by omega)) ?_;  clear H f0 f1 f2 f3 f4 f5 f6 f7 f8 f9; rintro v hs ⟨w, rfl, H⟩; have o1 := H.rd.one; have o2 := H.rd.cells; simp only [hf, repV, repB] at H o1 o2 ⊢; refine need ?_)
        | ((with_reducible show drK _ _ _ _ _ _ _ _ _ (some ⟨_, HAct.call (HX.cst (HV.func (Fn.func 46) _ _)) _, none⟩)); refine vdr_call ok46 rfl (first46 H (fun _ h => hrd _ _ h.p1) (by omega)) ?_;  clear H f0 f1 f2 f3 f4 f5 f6 f7 f8 f9; rintro v hs ⟨w, rfl, H⟩; have o1 := H.rd.one; have o2 := H.rd.cells; simp only [hf, repV, repB] at H o1 o2 ⊢; refine need ?_)
        | ((with_reducible show actK _ (HAct.call (HX.cst (HV.func (Fn.func 47) _ _)) _) _ _ _ _ _); refine vcall_of ok47 rfl (clone47 H (fun _ h => (hyz _ _ h.p3).1) lz) ?_;  clear H f0 f1 f2 f3 f4 f5 f6 f7 f8 f9; rintro v hs H; refine need ?_)
        | ((with_reducible show drK _ _ _ _ _ _ _ _ _ (some ⟨_, HAct.call (HX.cst (HV.func (Fn.func 47) _ _)) _, none⟩)); refine vdr_call ok47 rfl (clone47 H (fun _ h => (hyz _ _ h.p3).1) lz) ?_;  clear H f0 f1 f2 f3 f4 f5 f6 f7 f8 f9; rintro v hs H; refine need ?_)
        | refine opC_K ?_
        | refine opC_D ?_
        | ((with_reducible show opC (unit (hstore _ _ _ _)) _); refine sl_store1 (by with_reducible first | exact H | exact H.p1 | exact H.p2 | exact H.p3 | exact H.p4 | exact H.p5 | exact H.p6 | exact H.p7 | exact H.p8 | exact H.p9) (Nat.le_of_ble_eq_true rfl) (by first | exact rfl | (simp only [f0, f1, f2, f3, f4, f5, f6, f7, f8, f9]; done) | (simp only [onA, *]; done)) (by first | exact rfl | (simp only [f0, f1, f2, f3, f4, f5, f6, f7, f8, f9]; done) | (simp only [onA, *]; done)) ?_)
        | ((with_reducible show opC (unit (hstore _ _ _ _)) _); refine sl_storeN (by with_reducible first | exact H | exact H.p1 | exact H.p2 | exact H.p3 | exact H.p4 | exact H.p5 | exact H.p6 | exact H.p7 | exact H.p8 | exact H.p9) rfl (Nat.le_of_ble_eq_true rfl) (by first | exact rfl | (simp only [f0, f1, f2, f3, f4, f5, f6, f7, f8, f9]; done) | (simp only [onA, *]; done)) ?_)
        | ((with_reducible show opC (happend _ _ _ _ _) _); refine sl_append (by with_reducible first | exact H | exact H.p1 | exact H.p2 | exact H.p3 | exact H.p4 | exact H.p5 | exact H.p6 | exact H.p7 | exact H.p8 | exact H.p9) (by first | assumption | with_reducible first | exact f0.2.1 | exact f1.2.1 | exact f2.2.1 | exact f3.2.1 | exact f4.2.1 | exact f5.2.1 | exact f6.2.1 | exact f7.2.1 | exact f8.2.1 | exact f9.2.1 | exact va_takeS) (by first | exact roomFor_of (by omega) | exact roomFor_wide (by omega)) (by omega) ?_)
        | ((with_reducible show opC (happend _ _ _ _ _) _); refine sl_append0X H (by first | assumption | with_reducible first | exact f0.2.1 | exact f1.2.1 | exact f2.2.1 | exact f3.2.1 | exact f4.2.1 | exact f5.2.1 | exact f6.2.1 | exact f7.2.1 | exact f8.2.1 | exact f9.2.1 | exact va_takeS) (by first | exact roomFor_of (by omega) | exact roomFor_wide (by omega)) (by omega) ?_)
        | ((with_reducible show opC (happend _ _ _ _ _) _); refine sl_appendX (by with_reducible first | exact H | exact H.p1 | exact H.p2 | exact H.p3 | exact H.p4 | exact H.p5 | exact H.p6 | exact H.p7 | exact H.p8 | exact H.p9) (by first | assumption | with_reducible first | exact f0.2.1 | exact f1.2.1 | exact f2.2.1 | exact f3.2.1 | exact f4.2.1 | exact f5.2.1 | exact f6.2.1 | exact f7.2.1 | exact f8.2.1 | exact f9.2.1 | exact va_takeS) (by first | exact roomFor_of (by omega) | exact roomFor_wide (by omega)) (by omega) ?_)
        | ((with_reducible show opC (hbuildSlice _ _ _ _ _) _); refine sl_bslice1 H rfl (by first | exact rfl | (simp only [f0, f1, f2, f3, f4, f5, f6, f7, f8, f9]; done) | (simp only [onA, *]; done)) (by first | exact rfl | (simp only [f0, f1, f2, f3, f4, f5, f6, f7, f8, f9]; done) | (simp only [onA, *]; done)) ?_)
        | ((with_reducible show opC (hbox _ _) _); refine sl_box1 H (by first | exact rfl | (simp only [f0, f1, f2, f3, f4, f5, f6, f7, f8, f9]; done) | (simp only [onA, *]; done)) (by first | exact rfl | (simp only [f0, f1, f2, f3, f4, f5, f6, f7, f8, f9]; done) | (simp only [onA, *]; done)) ?_)
        | ((with_reducible show opC (hbox _ _) _); refine sl_boxA H (by first | exact rfl | (simp only [f0, f1, f2, f3, f4, f5, f6, f7, f8, f9]; done) | (simp only [onA, *]; done)) ?_)
        | refine hwp_draw mixed rfl ?_
        | with_reducible intro hy

      · have hd := hD [] true _ (Dec.bad hf hlt)
        rw [List.append_nil] at hd
        refine ⟨L', true, _, hd, read_open.2 ⟨vc, v, ?_⟩⟩
        have h := H.p2.t.p2.t.p2.t.p3.p2.p3.p3
        rw [List.drop_take, ← hb2, show a + farF b2 23 + 1 - a = farF b2 23 + 1 by omega] at h
        exact h
      · have ha0 : a = 0 := by omega
        have hd := hD [] true _ (Dec.bad hf hlt)
        rw [List.append_nil] at hd
        refine ⟨L', true, _, hd, read_open.2 ⟨vc, y, ?_⟩⟩
        have h := (hyz _ _ H.p1.t.p1.t.p3.p3.p2.p3).2
        rw [ha0, Nat.zero_add, show full = b2 by rw [hb2, ha0]; rfl] at h
        exact h.p3.p1.p3.p3
    · have d1 : decide (((a + farF b2 23 : Nat) : Int) < ((full.length : Nat) : Int)) = false := by simp; omega
      have lz : b2.length < 140737488351232 := by omega
      have ⟨ox1, ox2⟩ : x.one = true ∧ x.cells = [x] := ⟨(hrd _ _ H.p1).one, (hrd _ _ H.p1).cells⟩
      have hd := hD [] false _ (Dec.wait hf hlt)
      rw [List.append_nil] at hd
      first | have f0 := Sat.pf (H) | have f0 := trivial
      first | have f1 := Sat.pf (H.t) | have f1 := trivial
      first | have f2 := Sat.pf (H.t.t) | have f2 := trivial
      first | have f3 := Sat.pf (H.t.t.t) | have f3 := trivial
      first | have f4 := Sat.pf (H.t.t.t.t) | have f4 := trivial
      first | have f5 := Sat.pf (H.t.t.t.t.t) | have f5 := trivial
      first | have f6 := Sat.pf (H.t.t.t.t.t.t) | have f6 := trivial
      first | have f7 := Sat.pf (H.t.t.t.t.t.t.t) | have f7 := trivial
      first | have f8 := Sat.pf (H.t.t.t.t.t.t.t.t) | have f8 := trivial
      first | have f9 := Sat.pf (H.t.t.t.t.t.t.t.t.t) | have f9 := trivial
      repeat' first
        | ((with_reducible show Need _); refine need_of ?_; (first | have f0 := Sat.pf (H) | have f0 := trivial); (first | have f1 := Sat.pf (H.t) | have f1 := trivial); (first | have f2 := Sat.pf (H.t.t) | have f2 := trivial); (first | have f3 := Sat.pf (H.t.t.t) | have f3 := trivial); (first | have f4 := Sat.pf (H.t.t.t.t) | have f4 := trivial); (first | have f5 := Sat.pf (H.t.t.t.t.t) | have f5 := trivial); (first | have f6 := Sat.pf (H.t.t.t.t.t.t) | have f6 := trivial); (first | have f7 := Sat.pf (H.t.t.t.t.t.t.t) | have f7 := trivial); (first | have f8 := Sat.pf (H.t.t.t.t.t.t.t.t) | have f8 := trivial); (first | have f9 := Sat.pf (H.t.t.t.t.t.t.t.t.t) | have f9 := trivial))
        | simp -implicitDefEqProofs (disch := first | omega | decide | exact rfl | assumption | exact Nat.le_of_ble_eq_true rfl | exact One.c | exact One.o) only [vsA, vsB, eq_self, if_true, if_false, implies_true, false_implies, evp, HX.ev, Nat.reduceAdd, HOp.looks, Nat.reduceEqDiff, overw, Nat.reduceBEq, hx, o1, o2, va, d1, ox1, ox2, vadd1, va_loadA, va_ldA, ub22, f0, f1, f2, f3, f4, f5, f6, f7, f8, f9]
        | (refine condK_cases (fun h => ?_) (fun h => ?_) <;> (try simp only [h]) <;> (try simp only [athA, ne_eq] at h) <;> (try (exfalso; omega)))
        | (refine guardK_cases (fun h => ?_) (fun h => ?_) <;> (try simp only [h]) <;> (try simp only [athA, ne_eq] at h) <;> (try (exfalso; omega)))
        | (refine dgK_cases (fun h => ?_) (fun h => ?_) <;> (try simp only [h]) <;> (try simp only [athA, ne_eq] at h) <;> (try (exfalso; omega)))
        | (clear H f0 f1 f2 f3 f4 f5 f6 f7 f8 f9; (with_reducible intro v2 hs H); (try simp only [setA, overw, Nat.reduceAdd] at H); refine need ?_)
        | ((with_reducible show actK _ (HAct.call (HX.cst (HV.func (Fn.func 46) _ _)) _) _ _ _ _ _); refine vcall_of ok46 rfl (first46 H (fun _ h => hrd _ _ h.p1) (by omega)) ?_;  clear H f0 f1 f2 f3 f4 f5 f6 f7 f8 f9; rintro v hs ⟨w, rfl, H⟩; have o1 := H.rd.one; have o2 := H.rd.cells; simp only [hf, repV, repB] at H o1 o2 ⊢; refine need ?_)
        | ((with_reducible show drK _ _ _ _ _ _ _ _ _ (some ⟨_, HAct.call (HX.cst (HV.func (Fn.func 46) _ _)) _, none⟩)); refine vdr_call ok46 rfl (first46 H (fun _ h => hrd _ _ h.p1) (by omega)) ?_;  clear H f0 f1 f2 f3 f4 f5 f6 f7 f8 f9; rintro v hs ⟨w, rfl, H⟩; have o1 := H.rd.one; have o2 := H.rd.cells; simp only [hf, repV, repB] at H o1 o2 ⊢; refine need ?_)
        | ((with_reducible show actK _ (HAct.call (HX.cst (HV.func (Fn.func 47) _ _)) _) _ _ _ _ _); refine vcall_of ok47 rfl (clone47 H (fun _ h => hrd _ _ h.p3) lz) ?_;  clear H f0 f1 f2 f3 f4 f5 f6 f7 f8 f9; rintro v hs H; refine need ?_)
        | ((with_reducible show drK _ _ _ _ _ _ _ _ _ (some ⟨_, HAct.call (HX.cst (HV.func (Fn.func 47) _ _)) _, none⟩)); refine vdr_call ok47 rfl (clone47 H (fun _ h => hrd _ _ h.p3) lz) ?_;  clear H f0 f1 f2 f3 f4 f5 f6 f7 f8 f9; rintro v hs H; refine need ?_)
        | refine opC_K ?_
        | refine opC_D ?_
        | ((with_reducible show opC (unit (hstore _ _ _ _)) _); refine sl_store1 (by with_reducible first | exact H | exact H.p1 | exact H.p2 | exact H.p3 | exact H.p4 | exact H.p5 | exact H.p6 | exact H.p7 | exact H.p8 | exact H.p9) (Nat.le_of_ble_eq_true rfl) (by first | exact rfl | (simp only [f0, f1, f2, f3, f4, f5, f6, f7, f8, f9]; done) | (simp only [onA, *]; done)) (by first | exact rfl | (simp only [f0, f1, f2, f3, f4, f5, f6, f7, f8, f9]; done) | (simp only [onA, *]; done)) ?_)
        | ((with_reducible show opC (unit (hstore _ _ _ _)) _); refine sl_storeN (by with_reducible first | exact H | exact H.p1 | exact H.p2 | exact H.p3 | exact H.p4 | exact H.p5 | exact H.p6 | exact H.p7 | exact H.p8 | exact H.p9) rfl (Nat.le_of_ble_eq_true rfl) (by first | exact rfl | (simp only [f0, f1, f2, f3, f4, f5, f6, f7, f8, f9]; done) | (simp only [onA, *]; done)) ?_)
        | ((with_reducible show opC (happend _ _ _ _ _) _); refine sl_append (by with_reducible first | exact H | exact H.p1 | exact H.p2 | exact H.p3 | exact H.p4 | exact H.p5 | exact H.p6 | exact H.p7 | exact H.p8 | exact H.p9) (by first | assumption | with_reducible first | exact f0.2.1 | exact f1.2.1 | exact f2.2.1 | exact f3.2.1 | exact f4.2.1 | exact f5.2.1 | exact f6.2.1 | exact f7.2.1 | exact f8.2.1 | exact f9.2.1 | exact va_takeS) (by first | exact roomFor_of (by omega) | exact roomFor_wide (by omega)) (by omega) ?_)
        | ((with_reducible show opC (happend _ _ _ _ _) _); refine sl_append0X H (by first | assumption | with_reducible first | exact f0.2.1 | exact f1.2.1 | exact f2.2.1 | exact f3.2.1 | exact f4.2.1 | exact f5.2.1 | exact f6.2.1 | exact f7.2.1 | exact f8.2.1 | exact f9.2.1 | exact va_takeS) (by first | exact roomFor_of (by omega) | exact roomFor_wide (by omega)) (by omega) ?_)
        | ((with_reducible show opC (happend _ _ _ _ _) _); refine sl_appendX (by with_reducible first | exact H | exact H.p1 | exact H.p2 | exact H.p3 | exact H.p4 | exact H.p5 | exact H.p6 | exact H.p7 | exact H.p8 | exact H.p9) (by first | assumption | with_reducible first | exact f0.2.1 | exact f1.2.1 | exact f2.2.1 | exact f3.2.1 | exact f4.2.1 | exact f5.2.1 | exact f6.2.1 | exact f7.2.1 | exact f8.2.1 | exact f9.2.1 | exact va_takeS) (by first | exact roomFor_of (by omega) | exact roomFor_wide (by omega)) (by omega) ?_)
        | ((with_reducible show opC (hbuildSlice _ _ _ _ _) _); refine sl_bslice1 H rfl (by first | exact rfl | (simp only [f0, f1, f2, f3, f4, f5, f6, f7, f8, f9]; done) | (simp only [onA, *]; done)) (by first | exact rfl | (simp only [f0, f1, f2, f3, f4, f5, f6, f7, f8, f9]; done) | (simp only [onA, *]; done)) ?_)
        | ((with_reducible show opC (hbox _ _) _); refine sl_box1 H (by first | exact rfl | (simp only [f0, f1, f2, f3, f4, f5, f6, f7, f8, f9]; done) | (simp only [onA, *]; done)) (by first | exact rfl | (simp only [f0, f1, f2, f3, f4, f5, f6, f7, f8, f9]; done) | (simp only [onA, *]; done)) ?_)
        | ((with_reducible show opC (hbox _ _) _); refine sl_boxA H (by first | exact rfl | (simp only [f0, f1, f2, f3, f4, f5, f6, f7, f8, f9]; done) | (simp only [onA, *]; done)) ?_)
        | refine hwp_draw mixed rfl ?_
        | with_reducible intro hy

      · refine ⟨L', false, _, hd, read_open.2 ⟨vc, v, ?_⟩⟩
        exact H.p2.t.p2.t.p2.t.p3.p2.p3.p3
      · have ha0 : a = 0 := by omega
        refine ⟨L', false, _, hd, read_open.2 ⟨vc, vr, ?_⟩⟩
        rw [show b2 = full by rw [hb2, ha0]; rfl]
        exact H.t.t.p3.p2.p3.p3
  | some k =>
    obtain ⟨hk1, hk2⟩ := first_some hf
    obtain ⟨_, hk3, hk4⟩ := first_put hf
    have hk5 := put_long k (formF k b2).id (formF k b2).num (formF k b2).tube (formF k b2).body
    have hk6 := form_le k b2
    have hk7 : 2 ≤ (formF k b2).c.1 := by rw [hk3]; exact hk5
    have va : hbin .add none (.int .i64 (a : Nat)) (.int .i64 ((formF k b2).c.1 : Nat)) = some (.int .i64 ((a + (formF k b2).c.1 : Nat) : Int)) := vaddn (by omega)
    first | have f0 := Sat.pf (H) | have f0 := trivial
    first | have f1 := Sat.pf (H.t) | have f1 := trivial
    first | have f2 := Sat.pf (H.t.t) | have f2 := trivial
    first | have f3 := Sat.pf (H.t.t.t) | have f3 := trivial
    first | have f4 := Sat.pf (H.t.t.t.t) | have f4 := trivial
    first | have f5 := Sat.pf (H.t.t.t.t.t) | have f5 := trivial
    first | have f6 := Sat.pf (H.t.t.t.t.t.t) | have f6 := trivial
    first | have f7 := Sat.pf (H.t.t.t.t.t.t.t) | have f7 := trivial
    first | have f8 := Sat.pf (H.t.t.t.t.t.t.t.t) | have f8 := trivial
    first | have f9 := Sat.pf (H.t.t.t.t.t.t.t.t.t) | have f9 := trivial
    repeat' first
      | ((with_reducible show Need _); refine need_of ?_; (first | have f0 := Sat.pf (H) | have f0 := trivial); (first | have f1 := Sat.pf (H.t) | have f1 := trivial); (first | have f2 := Sat.pf (H.t.t) | have f2 := trivial); (first | have f3 := Sat.pf (H.t.t.t) | have f3 := trivial); (first | have f4 := Sat.pf (H.t.t.t.t) | have f4 := trivial); (first | have f5 := Sat.pf (H.t.t.t.t.t) | have f5 := trivial); (first | have f6 := Sat.pf (H.t.t.t.t.t.t) | have f6 := trivial); (first | have f7 := Sat.pf (H.t.t.t.t.t.t.t) | have f7 := trivial); (first | have f8 := Sat.pf (H.t.t.t.t.t.t.t.t) | have f8 := trivial); (first | have f9 := Sat.pf (H.t.t.t.t.t.t.t.t.t) | have f9 := trivial))
      | simp -implicitDefEqProofs (disch := first | omega | decide | exact rfl | assumption | exact Nat.le_of_ble_eq_true rfl | exact One.c | exact One.o) only [vsA, vsB, eq_self, if_true, if_false, implies_true, false_implies, evp, HX.ev, Nat.reduceAdd, HOp.looks, Nat.reduceEqDiff, overw, Nat.reduceBEq, hx, o1, o2, va, reply_build, vadd1, va_loadA, va_ldA, ub22, f0, f1, f2, f3, f4, f5, f6, f7, f8, f9]
      | (refine condK_cases (fun h => ?_) (fun h => ?_) <;> (try simp only [h]) <;> (try simp only [athA, ne_eq] at h) <;> (try (exfalso; omega)))
      | (refine guardK_cases (fun h => ?_) (fun h => ?_) <;> (try simp only [h]) <;> (try simp only [athA, ne_eq] at h) <;> (try (exfalso; omega)))
      | (refine dgK_cases (fun h => ?_) (fun h => ?_) <;> (try simp only [h]) <;> (try simp only [athA, ne_eq] at h) <;> (try (exfalso; omega)))
      | (clear H f0 f1 f2 f3 f4 f5 f6 f7 f8 f9; (with_reducible intro v2 hs H); (try simp only [setA, overw, Nat.reduceAdd] at H); refine need ?_)
      | ((with_reducible show actK _ (HAct.call (HX.cst (HV.func (Fn.func 46) _ _)) _) _ _ _ _ _); refine vcall_of ok46 rfl (first46 H (fun _ h => hrd _ _ h.p1) (by omega)) ?_;  clear H f0 f1 f2 f3 f4 f5 f6 f7 f8 f9; rintro v hs ⟨w, rfl, H⟩; have o1 := H.rd.one; have o2 := H.rd.cells; simp only [hf, repV, repB] at H o1 o2 ⊢; refine need ?_)
      | ((with_reducible show drK _ _ _ _ _ _ _ _ _ (some ⟨_, HAct.call (HX.cst (HV.func (Fn.func 46) _ _)) _, none⟩)); refine vdr_call ok46 rfl (first46 H (fun _ h => hrd _ _ h.p1) (by omega)) ?_;  clear H f0 f1 f2 f3 f4 f5 f6 f7 f8 f9; rintro v hs ⟨w, rfl, H⟩; have o1 := H.rd.one; have o2 := H.rd.cells; simp only [hf, repV, repB] at H o1 o2 ⊢; refine need ?_)
      | refine opC_K ?_
      | refine opC_D ?_
      | ((with_reducible show opC (hbuildSlice _ _ _ _ _) _); refine sl_bslice H rfl rfl (by omega) (reply_fill o1) rfl ?_; clear H f0 f1 f2 f3 f4 f5 f6 f7 f8 f9; intro y hs H hy; have T := hy.take; refine need ?_)
      | ((with_reducible show opC (happend _ _ _ _ _) _); refine sl_append (n := (L ++ L').length) (xs := (L ++ L').flatMap RE.cells) (by with_reducible first | exact H | exact H.p1 | exact H.p2 | exact H.p3 | exact H.p4 | exact H.p5 | exact H.p6 | exact H.p7 | exact H.p8 | exact H.p9) T (by first | exact roomFor_of (by omega) | exact roomFor_wide (by omega)) (by omega) ?_; clear H f0 f1 f2 f3 f4 f5 f6 f7 f8 f9; intro vn hs H; refine need ?_)
      | ((with_reducible show opC (unit (hstore _ _ _ _)) _); refine sl_store1 (by with_reducible first | exact H | exact H.p1 | exact H.p2 | exact H.p3 | exact H.p4 | exact H.p5 | exact H.p6 | exact H.p7 | exact H.p8 | exact H.p9) (Nat.le_of_ble_eq_true rfl) (by first | exact rfl | (simp only [f0, f1, f2, f3, f4, f5, f6, f7, f8, f9]; done) | (simp only [onA, *]; done)) (by first | exact rfl | (simp only [f0, f1, f2, f3, f4, f5, f6, f7, f8, f9]; done) | (simp only [onA, *]; done)) ?_)
      | ((with_reducible show opC (unit (hstore _ _ _ _)) _); refine sl_storeN (by with_reducible first | exact H | exact H.p1 | exact H.p2 | exact H.p3 | exact H.p4 | exact H.p5 | exact H.p6 | exact H.p7 | exact H.p8 | exact H.p9) rfl (Nat.le_of_ble_eq_true rfl) (by first | exact rfl | (simp only [f0, f1, f2, f3, f4, f5, f6, f7, f8, f9]; done) | (simp only [onA, *]; done)) ?_)
      | ((with_reducible show opC (happend _ _ _ _ _) _); refine sl_append (by with_reducible first | exact H | exact H.p1 | exact H.p2 | exact H.p3 | exact H.p4 | exact H.p5 | exact H.p6 | exact H.p7 | exact H.p8 | exact H.p9) (by first | assumption | with_reducible first | exact f0.2.1 | exact f1.2.1 | exact f2.2.1 | exact f3.2.1 | exact f4.2.1 | exact f5.2.1 | exact f6.2.1 | exact f7.2.1 | exact f8.2.1 | exact f9.2.1 | exact va_takeS) (by first | exact roomFor_of (by omega) | exact roomFor_wide (by omega)) (by omega) ?_)
      | ((with_reducible show opC (happend _ _ _ _ _) _); refine sl_append0X H (by first | assumption | with_reducible first | exact f0.2.1 | exact f1.2.1 | exact f2.2.1 | exact f3.2.1 | exact f4.2.1 | exact f5.2.1 | exact f6.2.1 | exact f7.2.1 | exact f8.2.1 | exact f9.2.1 | exact va_takeS) (by first | exact roomFor_of (by omega) | exact roomFor_wide (by omega)) (by omega) ?_)
      | ((with_reducible show opC (happend _ _ _ _ _) _); refine sl_appendX (by with_reducible first | exact H | exact H.p1 | exact H.p2 | exact H.p3 | exact H.p4 | exact H.p5 | exact H.p6 | exact H.p7 | exact H.p8 | exact H.p9) (by first | assumption | with_reducible first | exact f0.2.1 | exact f1.2.1 | exact f2.2.1 | exact f3.2.1 | exact f4.2.1 | exact f5.2.1 | exact f6.2.1 | exact f7.2.1 | exact f8.2.1 | exact f9.2.1 | exact va_takeS) (by first | exact roomFor_of (by omega) | exact roomFor_wide (by omega)) (by omega) ?_)
      | ((with_reducible show opC (hbuildSlice _ _ _ _ _) _); refine sl_bslice1 H rfl (by first | exact rfl | (simp only [f0, f1, f2, f3, f4, f5, f6, f7, f8, f9]; done) | (simp only [onA, *]; done)) (by first | exact rfl | (simp only [f0, f1, f2, f3, f4, f5, f6, f7, f8, f9]; done) | (simp only [onA, *]; done)) ?_)
      | ((with_reducible show opC (hbox _ _) _); refine sl_box1 H (by first | exact rfl | (simp only [f0, f1, f2, f3, f4, f5, f6, f7, f8, f9]; done) | (simp only [onA, *]; done)) (by first | exact rfl | (simp only [f0, f1, f2, f3, f4, f5, f6, f7, f8, f9]; done) | (simp only [onA, *]; done)) ?_)
      | ((with_reducible show opC (hbox _ _) _); refine sl_boxA H (by first | exact rfl | (simp only [f0, f1, f2, f3, f4, f5, f6, f7, f8, f9]; done) | (simp only [onA, *]; done)) ?_)
      | refine hwp_draw mixed rfl ?_
      | with_reducible intro hy

    refine ⟨(a + (formF k b2).c.1, L' ++ [⟨w, (k, formF k b2)⟩]), _, by simp only; omega, ⟨?_, by simp only; omega, by simp only [List.length_append, List.length_singleton]; omega⟩, (by (repeat first | exact Less.nil | refine Less.undef _ ?_ | refine Less.keep _ ?_)), Weak.refl _, Sat.exs_iff.2 ⟨vn, Sat.grp_iff.2 ?_⟩⟩
    · intro l' bad r' h
      have := hD ((k, formF k b2) :: l') bad r' (Dec.more hf (by
        rw [hb2, List.drop_drop]
        rw [hb2] at h
        exact h))
      simpa using this
    · simp only [List.cons_append, List.nil_append]
      rw [← List.append_assoc]
      have h := read_snoc (e := ⟨w, (k, formF k b2)⟩) H.p2.t.p3.p1.p4.p4.p4
      exact h.p1.p1.p3.p3
end A
end Go.Proofs.YthihchoccpnfeaaDoor
namespace Go.Proofs.YthihchoccpnfeaaDoor
open Go Go.HL Go.Shelf V
namespace A
set_option maxRecDepth 100000
set_option maxHeartbeats 40000000
set_option linter.unusedSimpArgs false
attribute [local irreducible] pt My Ex Vw Gr GrK each grp exs Sat takeCells happend hbuildSlice hstore hbox hslice hmakeSlice hs2b hcopy HL.unit opC
theorem re_len : ∀ L : List RE, (L.flatMap RE.cells).length = L.length * 6
  | [] => rfl
  | x :: L => by rw [List.flatMap_cons, List.length_append, re_len L, List.length_cons, Nat.succ_mul]; show 6 + _ = _; omega
theorem pop6 {hs : HS} {l : List SA} {vc : HV} {e : RE} {L : List RE} (H : Sat hs (My 6 vc (e :: L).length ((e :: L).flatMap RE.cells) :: l)) : ∃ y, hslice vc (some (.int .i64 1)) none none = some y ∧ (y.one = true ∧ y.cells = [y]) ∧
    ∀ hs l, Sat hs (My 6 vc (e :: L).length ((e :: L).flatMap RE.cells) :: l) → Sat hs (My 6 y L.length (L.flatMap RE.cells) :: l) := by
  obtain ⟨y, hy, ry⟩ := H.rd.cut (Lo.some (lo := 1) (k := .i64)) Hi.none (by simp) (Nat.le_refl _)
  refine ⟨y, hy, ⟨ry.one, ry.cells⟩, fun hs l H => ?_⟩
  have h := H.cut (Lo.some (lo := 1) (k := .i64)) Hi.none (by simp) (Nat.le_refl _) hy
  rw [show (e :: L).length - 1 = L.length from rfl, List.flatMap_cons, Nat.one_mul, show (6 : Nat) = e.cells.length from rfl, List.drop_left] at h
  rwa [List.take_of_length_le (by rw [re_len]; exact Nat.le_refl _)] at h
theorem re_ld {hs : HS} {l : List SA} {vc : HV} {e : RE} {L : List RE} {n hh oo i : Nat} (H : Sat hs (My 6 vc n (L.flatMap RE.cells) :: l)) (hn : n = L.length) (h1 : hindexAddr 6 vc (.int .i64 (i : Nat)) = some (.ptr hh oo)) (hi : L[i]? = some e) : hload (some 6) hs (.ptr hh oo) = some (.agg e.cells) ∧ hload (some 5) hs (.ptr hh oo) = some (.agg [.int .i64 e.x.1, .int .i64 (e.x.2.id : Nat), .int .i64 (e.x.2.num : Nat), .str e.x.2.tube, e.w]) := by
  subst hn
  obtain ⟨h, o, g1, _, g3⟩ := (H.rd).idxF (s := 6) (fun _ => rfl) rfl hi .i64
  rw [h1] at g1; cases g1
  refine ⟨g3, ?_⟩
  have g4 := g3
  unfold hload at g3 ⊢
  simp only at g3 ⊢
  generalize hs[hh]? = q at g3 ⊢
  rcases q with _ | _ | b
  · cases g3
  · cases g3
  · cases b with
    | cells n cs ro opn olds =>
      simp only at g3 ⊢
      split at g3
      · rename_i hle
        have g5 := HV.agg.inj (Option.some.inj g3)
        rw [if_pos (by omega), show (cs.drop oo).take 5 = ((cs.drop oo).take 6).take 5 by rw [List.take_take, Nat.min_eq_left (by omega)], g5]
        rfl
      · cases g3
    | _ => cases g3
theorem new21 {hs : HS} {l : List SA} (H : Sat hs l) : HC Tryd.prog 21 [] hs fun v hs' => ∃ p, v = .ptr p 0 ∧ Sat hs' (ReadP p [] false [] :: l) := by
  refine HC.wp mixed Tryd.func21 c21 ?_
  first | have f0 := Sat.pf (H) | have f0 := trivial
  first | have f1 := Sat.pf (H.t) | have f1 := trivial
  first | have f2 := Sat.pf (H.t.t) | have f2 := trivial
  first | have f3 := Sat.pf (H.t.t.t) | have f3 := trivial
  first | have f4 := Sat.pf (H.t.t.t.t) | have f4 := trivial
  first | have f5 := Sat.pf (H.t.t.t.t.t) | have f5 := trivial
  first | have f6 := Sat.pf (H.t.t.t.t.t.t) | have f6 := trivial
  first | have f7 := Sat.pf (H.t.t.t.t.t.t.t) | have f7 := trivial
  first | have f8 := Sat.pf (H.t.t.t.t.t.t.t.t) | have f8 := trivial
  first | have f9 := Sat.pf (H.t.t.t.t.t.t.t.t.t) | have f9 := trivial
  repeat' first
    | ((with_reducible show Need _); refine need_of ?_; (first | have f0 := Sat.pf (H) | have f0 := trivial); (first | have f1 := Sat.pf (H.t) | have f1 := trivial); (first | have f2 := Sat.pf (H.t.t) | have f2 := trivial); (first | have f3 := Sat.pf (H.t.t.t) | have f3 := trivial); (first | have f4 := Sat.pf (H.t.t.t.t) | have f4 := trivial); (first | have f5 := Sat.pf (H.t.t.t.t.t) | have f5 := trivial); (first | have f6 := Sat.pf (H.t.t.t.t.t.t) | have f6 := trivial); (first | have f7 := Sat.pf (H.t.t.t.t.t.t.t) | have f7 := trivial); (first | have f8 := Sat.pf (H.t.t.t.t.t.t.t.t) | have f8 := trivial); (first | have f9 := Sat.pf (H.t.t.t.t.t.t.t.t.t) | have f9 := trivial))
    | simp -implicitDefEqProofs (disch := first | omega | decide | exact rfl | assumption | exact Nat.le_of_ble_eq_true rfl | exact One.c | exact One.o) only [vsA, vsB, eq_self, if_true, if_false, implies_true, false_implies, evp, HX.ev, Nat.reduceAdd, HOp.looks, Nat.reduceEqDiff, overw, Nat.reduceBEq, h21, f0, f1, f2, f3, f4, f5, f6, f7, f8, f9, frame0, List.replicate, Nat.sub]
    | (refine condK_cases (fun h => ?_) (fun h => ?_) <;> (try simp only [h]) <;> (try simp only [athA, ne_eq] at h) <;> (try (exfalso; omega)))
    | (refine guardK_cases (fun h => ?_) (fun h => ?_) <;> (try simp only [h]) <;> (try simp only [athA, ne_eq] at h) <;> (try (exfalso; omega)))
    | (clear H f0 f1 f2 f3 f4 f5 f6 f7 f8 f9; (with_reducible intro v2 hs H); (try simp only [setA, overw, Nat.reduceAdd] at H); refine need ?_)
    | refine opC_K ?_
    | ((with_reducible show opC (hbox _ _) _); refine sl_boxA (cells := [.nilSlice, .nilSlice, .bool false]) H (by first | exact rfl | (simp only [f0, f1, f2, f3, f4, f5, f6, f7, f8, f9]; done) | (simp only [onA, *]; done)) ?_; clear H f0 f1 f2 f3 f4 f5 f6 f7 f8 f9; intro p hs H; refine need ?_)
    | ((with_reducible show opC (hbox _ _) _); refine sl_box1 H (by first | exact rfl | (simp only [f0, f1, f2, f3, f4, f5, f6, f7, f8, f9]; done) | (simp only [onA, *]; done)) (by first | exact rfl | (simp only [f0, f1, f2, f3, f4, f5, f6, f7, f8, f9]; done) | (simp only [onA, *]; done)) ?_)
    | ((with_reducible show opC (hbox _ _) _); refine sl_boxA H (by first | exact rfl | (simp only [f0, f1, f2, f3, f4, f5, f6, f7, f8, f9]; done) | (simp only [onA, *]; done)) ?_)
    | with_reducible intro hy

  refine ⟨p, rfl, read_open.2 ⟨.nilSlice, .nilSlice, ?_⟩⟩
  exact Sat.p3 (Sat.own0 (Sat.own0 (Sat.each_nil.2 H)))
/-- what Next tells. -/
def nextV (L : List RE) (bad : Bool) (w : HV) : HV := match L with
  | e :: _ => .tup [.agg [.int .i64 e.x.1, .int .i64 (e.x.2.id : Nat), .int .i64 (e.x.2.num : Nat), .str e.x.2.tube, w], .bool true, .int .i64 0]
  | [] => .tup [.agg [.int .i64 0, .int .i64 0, .int .i64 0, .str [], .nilSlice], .bool false, .int .i64 (if bad = true then 82 else 0)]
def nextB (L : List RE) : List UInt8 := match L with
  | e :: _ => e.x.2.body
  | [] => []
theorem next23 {hs : HS} {l : List SA} {p : Nat} {L : List RE} {bad : Bool} {r : List UInt8} (H : Sat hs (ReadP p L bad r :: l)) (hb : ∀ e ∈ L, e.x.2.body.length < 140737488351232) (hL : L.length < 1099511627776) :
    HC Tryd.prog 23 [.ptr p 0] hs fun v hs' => ∃ w, v = nextV L bad w ∧ Sat hs' (My 1 w (nextB L).length (bcells (nextB L)) :: ReadP p L.tail bad r :: l) := by
  obtain ⟨vc, vr, H1⟩ := read_open.1 H
  clear H
  have H := H1
  clear H1
  have o1 := True.intro
  have o2 := True.intro
  refine HC.wp mixed Tryd.func23 c23 ?_
  cases L with
  | nil =>
    first | have f0 := Sat.pf (H) | have f0 := trivial
    first | have f1 := Sat.pf (H.t) | have f1 := trivial
    first | have f2 := Sat.pf (H.t.t) | have f2 := trivial
    first | have f3 := Sat.pf (H.t.t.t) | have f3 := trivial
    first | have f4 := Sat.pf (H.t.t.t.t) | have f4 := trivial
    first | have f5 := Sat.pf (H.t.t.t.t.t) | have f5 := trivial
    first | have f6 := Sat.pf (H.t.t.t.t.t.t) | have f6 := trivial
    first | have f7 := Sat.pf (H.t.t.t.t.t.t.t) | have f7 := trivial
    first | have f8 := Sat.pf (H.t.t.t.t.t.t.t.t) | have f8 := trivial
    first | have f9 := Sat.pf (H.t.t.t.t.t.t.t.t.t) | have f9 := trivial
    have d0 : decide ((0 : Int) < ((0 : Nat) : Int)) = false := by decide
    cases bad with
    | true =>
      repeat' first
        | ((with_reducible show Need _); refine need_of ?_; (first | have f0 := Sat.pf (H) | have f0 := trivial); (first | have f1 := Sat.pf (H.t) | have f1 := trivial); (first | have f2 := Sat.pf (H.t.t) | have f2 := trivial); (first | have f3 := Sat.pf (H.t.t.t) | have f3 := trivial); (first | have f4 := Sat.pf (H.t.t.t.t) | have f4 := trivial); (first | have f5 := Sat.pf (H.t.t.t.t.t) | have f5 := trivial); (first | have f6 := Sat.pf (H.t.t.t.t.t.t) | have f6 := trivial); (first | have f7 := Sat.pf (H.t.t.t.t.t.t.t) | have f7 := trivial); (first | have f8 := Sat.pf (H.t.t.t.t.t.t.t.t) | have f8 := trivial); (first | have f9 := Sat.pf (H.t.t.t.t.t.t.t.t.t) | have f9 := trivial))
        | simp -implicitDefEqProofs (disch := first | omega | decide | exact rfl | assumption | exact Nat.le_of_ble_eq_true rfl | exact One.c | exact One.o) only [vsA, vsB, eq_self, if_true, if_false, implies_true, false_implies, evp, HX.ev, Nat.reduceAdd, HOp.looks, Nat.reduceEqDiff, overw, Nat.reduceBEq, h23, d0, vres_cell3, va_loadA, va_ldA, ub23, f0, f1, f2, f3, f4, f5, f6, f7, f8, f9, frame0, List.replicate, Nat.sub]
        | (refine condK_cases (fun h => ?_) (fun h => ?_) <;> (try simp only [h]) <;> (try simp only [athA, ne_eq] at h) <;> (try (exfalso; omega)))
        | (refine guardK_cases (fun h => ?_) (fun h => ?_) <;> (try simp only [h]) <;> (try simp only [athA, ne_eq] at h) <;> (try (exfalso; omega)))
        | (clear H f0 f1 f2 f3 f4 f5 f6 f7 f8 f9; (with_reducible intro v2 hs H); (try simp only [setA, overw, Nat.reduceAdd] at H); refine need ?_)
        | refine opC_K ?_
        | ((with_reducible show opC (unit (hstore _ _ _ _)) _); refine sl_store1 (by with_reducible first | exact H | exact H.p1 | exact H.p2 | exact H.p3 | exact H.p4 | exact H.p5 | exact H.p6 | exact H.p7 | exact H.p8 | exact H.p9) (Nat.le_of_ble_eq_true rfl) (by first | exact rfl | (simp only [f0, f1, f2, f3, f4, f5, f6, f7, f8, f9]; done) | (simp only [onA, *]; done)) (by first | exact rfl | (simp only [f0, f1, f2, f3, f4, f5, f6, f7, f8, f9]; done) | (simp only [onA, *]; done)) ?_)
        | ((with_reducible show opC (unit (hstore _ _ _ _)) _); refine sl_storeN (by with_reducible first | exact H | exact H.p1 | exact H.p2 | exact H.p3 | exact H.p4 | exact H.p5 | exact H.p6 | exact H.p7 | exact H.p8 | exact H.p9) rfl (Nat.le_of_ble_eq_true rfl) (by first | exact rfl | (simp only [f0, f1, f2, f3, f4, f5, f6, f7, f8, f9]; done) | (simp only [onA, *]; done)) ?_)
        | ((with_reducible show opC (hbox _ _) _); refine sl_box1 H (by first | exact rfl | (simp only [f0, f1, f2, f3, f4, f5, f6, f7, f8, f9]; done) | (simp only [onA, *]; done)) (by first | exact rfl | (simp only [f0, f1, f2, f3, f4, f5, f6, f7, f8, f9]; done) | (simp only [onA, *]; done)) ?_)
        | ((with_reducible show opC (hbox _ _) _); refine sl_boxA H (by first | exact rfl | (simp only [f0, f1, f2, f3, f4, f5, f6, f7, f8, f9]; done) | (simp only [onA, *]; done)) ?_)
        | with_reducible intro hy

      exact ⟨.nilSlice, rfl, Sat.own0 (read_open.2 ⟨vc, vr, H.t⟩)⟩
    | false =>
      repeat' first
        | ((with_reducible show Need _); refine need_of ?_; (first | have f0 := Sat.pf (H) | have f0 := trivial); (first | have f1 := Sat.pf (H.t) | have f1 := trivial); (first | have f2 := Sat.pf (H.t.t) | have f2 := trivial); (first | have f3 := Sat.pf (H.t.t.t) | have f3 := trivial); (first | have f4 := Sat.pf (H.t.t.t.t) | have f4 := trivial); (first | have f5 := Sat.pf (H.t.t.t.t.t) | have f5 := trivial); (first | have f6 := Sat.pf (H.t.t.t.t.t.t) | have f6 := trivial); (first | have f7 := Sat.pf (H.t.t.t.t.t.t.t) | have f7 := trivial); (first | have f8 := Sat.pf (H.t.t.t.t.t.t.t.t) | have f8 := trivial); (first | have f9 := Sat.pf (H.t.t.t.t.t.t.t.t.t) | have f9 := trivial))
        | simp -implicitDefEqProofs (disch := first | omega | decide | exact rfl | assumption | exact Nat.le_of_ble_eq_true rfl | exact One.c | exact One.o) only [vsA, vsB, eq_self, if_true, if_false, implies_true, false_implies, evp, HX.ev, Nat.reduceAdd, HOp.looks, Nat.reduceEqDiff, overw, Nat.reduceBEq, h23, d0, vres_cell3, va_loadA, va_ldA, ub23, f0, f1, f2, f3, f4, f5, f6, f7, f8, f9, frame0, List.replicate, Nat.sub]
        | (refine condK_cases (fun h => ?_) (fun h => ?_) <;> (try simp only [h]) <;> (try simp only [athA, ne_eq] at h) <;> (try (exfalso; omega)))
        | (refine guardK_cases (fun h => ?_) (fun h => ?_) <;> (try simp only [h]) <;> (try simp only [athA, ne_eq] at h) <;> (try (exfalso; omega)))
        | (clear H f0 f1 f2 f3 f4 f5 f6 f7 f8 f9; (with_reducible intro v2 hs H); (try simp only [setA, overw, Nat.reduceAdd] at H); refine need ?_)
        | refine opC_K ?_
        | ((with_reducible show opC (unit (hstore _ _ _ _)) _); refine sl_store1 (by with_reducible first | exact H | exact H.p1 | exact H.p2 | exact H.p3 | exact H.p4 | exact H.p5 | exact H.p6 | exact H.p7 | exact H.p8 | exact H.p9) (Nat.le_of_ble_eq_true rfl) (by first | exact rfl | (simp only [f0, f1, f2, f3, f4, f5, f6, f7, f8, f9]; done) | (simp only [onA, *]; done)) (by first | exact rfl | (simp only [f0, f1, f2, f3, f4, f5, f6, f7, f8, f9]; done) | (simp only [onA, *]; done)) ?_)
        | ((with_reducible show opC (unit (hstore _ _ _ _)) _); refine sl_storeN (by with_reducible first | exact H | exact H.p1 | exact H.p2 | exact H.p3 | exact H.p4 | exact H.p5 | exact H.p6 | exact H.p7 | exact H.p8 | exact H.p9) rfl (Nat.le_of_ble_eq_true rfl) (by first | exact rfl | (simp only [f0, f1, f2, f3, f4, f5, f6, f7, f8, f9]; done) | (simp only [onA, *]; done)) ?_)
        | ((with_reducible show opC (hbox _ _) _); refine sl_box1 H (by first | exact rfl | (simp only [f0, f1, f2, f3, f4, f5, f6, f7, f8, f9]; done) | (simp only [onA, *]; done)) (by first | exact rfl | (simp only [f0, f1, f2, f3, f4, f5, f6, f7, f8, f9]; done) | (simp only [onA, *]; done)) ?_)
        | ((with_reducible show opC (hbox _ _) _); refine sl_boxA H (by first | exact rfl | (simp only [f0, f1, f2, f3, f4, f5, f6, f7, f8, f9]; done) | (simp only [onA, *]; done)) ?_)
        | with_reducible intro hy

      exact ⟨.nilSlice, rfl, Sat.own0 (read_open.2 ⟨vc, vr, H.t⟩)⟩
  | cons e L =>
    have he := hb e List.mem_cons_self
    obtain ⟨y, hy, ⟨oy1, oy2⟩, hyk⟩ := pop6 H.p1
    obtain ⟨hh, oo, h1, _, _⟩ := (Sat.rd H.p1).idxF (s := 6) (fun _ => rfl) rfl (List.getElem?_cons_zero) .i64
    have h1' : hindexAddr 6 vc (.int .i64 0) = some (.ptr hh oo) := h1
    have d0 : decide ((0 : Int) < ((L.length + 1 : Nat) : Int)) = true := decide_eq_true (by omega)
    have hx : Sat hs (My 1 e.w e.x.2.body.length (bcells e.x.2.body) :: each RE.P L :: _) := Sat.each_cons.1 H.p2.p2.p2.p3
    have H := hx
    clear hx
    have ow1 := H.rd.one
    have ow2 := H.rd.cells
    have ld := True.intro
    first | have f0 := Sat.pf (H) | have f0 := trivial
    first | have f1 := Sat.pf (H.t) | have f1 := trivial
    first | have f2 := Sat.pf (H.t.t) | have f2 := trivial
    first | have f3 := Sat.pf (H.t.t.t) | have f3 := trivial
    first | have f4 := Sat.pf (H.t.t.t.t) | have f4 := trivial
    first | have f5 := Sat.pf (H.t.t.t.t.t) | have f5 := trivial
    first | have f6 := Sat.pf (H.t.t.t.t.t.t) | have f6 := trivial
    first | have f7 := Sat.pf (H.t.t.t.t.t.t.t) | have f7 := trivial
    first | have f8 := Sat.pf (H.t.t.t.t.t.t.t.t) | have f8 := trivial
    first | have f9 := Sat.pf (H.t.t.t.t.t.t.t.t.t) | have f9 := trivial
    repeat' first
      | ((with_reducible show Need _); refine need_of ?_; (first | have f0 := Sat.pf (H) | have f0 := trivial); (first | have f1 := Sat.pf (H.t) | have f1 := trivial); (first | have f2 := Sat.pf (H.t.t) | have f2 := trivial); (first | have f3 := Sat.pf (H.t.t.t) | have f3 := trivial); (first | have f4 := Sat.pf (H.t.t.t.t) | have f4 := trivial); (first | have f5 := Sat.pf (H.t.t.t.t.t) | have f5 := trivial); (first | have f6 := Sat.pf (H.t.t.t.t.t.t) | have f6 := trivial); (first | have f7 := Sat.pf (H.t.t.t.t.t.t.t) | have f7 := trivial); (first | have f8 := Sat.pf (H.t.t.t.t.t.t.t.t) | have f8 := trivial); (first | have f9 := Sat.pf (H.t.t.t.t.t.t.t.t.t) | have f9 := trivial); (first | have ld := (re_ld (vc := vc) (n := L.length + 1) (L := e :: L) (e := e) (by with_reducible first | exact H | exact H.p1 | exact H.p2 | exact H.p3 | exact H.p4 | exact H.p5 | exact H.p6 | exact H.p7 | exact H.p8 | exact H.p9) rfl h1 rfl).2 | skip))
      | simp -implicitDefEqProofs (disch := first | omega | decide | exact rfl | assumption | exact Nat.le_of_ble_eq_true rfl | exact One.c | exact One.o) only [vsA, vsB, eq_self, if_true, if_false, implies_true, false_implies, evp, HX.ev, Nat.reduceAdd, HOp.looks, Nat.reduceEqDiff, overw, Nat.reduceBEq, h23, h1', hy, oy1, oy2, ow1, ow2, ld, d0, vres_cell3, va_ldA, ub23, f0, f1, f2, f3, f4, f5, f6, f7, f8, f9, frame0, List.replicate, Nat.sub]
      | (refine condK_cases (fun h => ?_) (fun h => ?_) <;> (try simp only [h]) <;> (try simp only [athA, ne_eq] at h) <;> (try (exfalso; omega)))
      | (refine guardK_cases (fun h => ?_) (fun h => ?_) <;> (try simp only [h]) <;> (try simp only [athA, ne_eq] at h) <;> (try (exfalso; omega)))
      | (clear H f0 f1 f2 f3 f4 f5 f6 f7 f8 f9; (with_reducible intro v2 hs H); (try simp only [setA, overw, Nat.reduceAdd] at H); refine need ?_)
      | ((with_reducible show actK _ (HAct.call (HX.cst (HV.func (Fn.func 47) _ _)) _) _ _ _ _ _); refine vcall_of ok47 rfl (clone47 (b := e.x.2.body) H (fun _ h => h.p3.rd) he) ?_;  clear H f0 f1 f2 f3 f4 f5 f6 f7 f8 f9; intro v hs H; have o1 := H.rd.one; have o2 := H.rd.cells; refine need ?_)
      | refine opC_K ?_
      | ((with_reducible show opC (unit (hstore _ _ _ _)) _); refine sl_store1 (by with_reducible first | exact H | exact H.p1 | exact H.p2 | exact H.p3 | exact H.p4 | exact H.p5 | exact H.p6 | exact H.p7 | exact H.p8 | exact H.p9) (Nat.le_of_ble_eq_true rfl) (by first | exact rfl | (simp only [f0, f1, f2, f3, f4, f5, f6, f7, f8, f9]; done) | (simp only [onA, *]; done)) (by first | exact rfl | (simp only [f0, f1, f2, f3, f4, f5, f6, f7, f8, f9]; done) | (simp only [onA, *]; done)) ?_)
      | ((with_reducible show opC (unit (hstore _ _ _ _)) _); refine sl_storeN (by with_reducible first | exact H | exact H.p1 | exact H.p2 | exact H.p3 | exact H.p4 | exact H.p5 | exact H.p6 | exact H.p7 | exact H.p8 | exact H.p9) rfl (Nat.le_of_ble_eq_true rfl) (by first | exact rfl | (simp only [f0, f1, f2, f3, f4, f5, f6, f7, f8, f9]; done) | (simp only [onA, *]; done)) ?_)
      | ((with_reducible show opC (hbox _ _) _); refine sl_box1 H (by first | exact rfl | (simp only [f0, f1, f2, f3, f4, f5, f6, f7, f8, f9]; done) | (simp only [onA, *]; done)) (by first | exact rfl | (simp only [f0, f1, f2, f3, f4, f5, f6, f7, f8, f9]; done) | (simp only [onA, *]; done)) ?_)
      | ((with_reducible show opC (hbox _ _) _); refine sl_boxA H (by first | exact rfl | (simp only [f0, f1, f2, f3, f4, f5, f6, f7, f8, f9]; done) | (simp only [onA, *]; done)) ?_)
      | with_reducible intro hy

    have h := hyk _ _ H.t.t.p2.t.p4.p3.p3.p3.p4
    have h2 : Sat _ (ReadP p L bad r :: _) := read_open.2 ⟨y, vr, h.p1.p3.p4.p3.p4⟩
    exact ⟨v, rfl, h2.p1⟩
theorem held25 {hs : HS} {l : List SA} {p : Nat} {L : List RE} {bad : Bool} {r : List UInt8} (H : Sat hs (ReadP p L bad r :: l)) (hb : r.length + (L.map fun e => e.x.2.c.1).sum < 140737488351232) (hL : L.length < 1099511627776) :
    HC Tryd.prog 25 [.ptr p 0] hs fun v hs' => v = .int .i64 ((r.length + (L.map fun e => e.x.2.c.1).sum : Nat) : Int) ∧ Sat hs' (ReadP p L bad r :: l) := by
  obtain ⟨vc, vr, H1⟩ := read_open.1 H
  clear H
  have H := H1
  clear H1
  refine HC.wp mixed Tryd.func25 c25 ?_
  first | have f0 := Sat.pf (H) | have f0 := trivial
  first | have f1 := Sat.pf (H.t) | have f1 := trivial
  first | have f2 := Sat.pf (H.t.t) | have f2 := trivial
  first | have f3 := Sat.pf (H.t.t.t) | have f3 := trivial
  first | have f4 := Sat.pf (H.t.t.t.t) | have f4 := trivial
  first | have f5 := Sat.pf (H.t.t.t.t.t) | have f5 := trivial
  first | have f6 := Sat.pf (H.t.t.t.t.t.t) | have f6 := trivial
  first | have f7 := Sat.pf (H.t.t.t.t.t.t.t) | have f7 := trivial
  first | have f8 := Sat.pf (H.t.t.t.t.t.t.t.t) | have f8 := trivial
  first | have f9 := Sat.pf (H.t.t.t.t.t.t.t.t.t) | have f9 := trivial
  repeat' first
    | ((with_reducible show Need _); refine need_of ?_; (first | have f0 := Sat.pf (H) | have f0 := trivial); (first | have f1 := Sat.pf (H.t) | have f1 := trivial); (first | have f2 := Sat.pf (H.t.t) | have f2 := trivial); (first | have f3 := Sat.pf (H.t.t.t) | have f3 := trivial); (first | have f4 := Sat.pf (H.t.t.t.t) | have f4 := trivial); (first | have f5 := Sat.pf (H.t.t.t.t.t) | have f5 := trivial); (first | have f6 := Sat.pf (H.t.t.t.t.t.t) | have f6 := trivial); (first | have f7 := Sat.pf (H.t.t.t.t.t.t.t) | have f7 := trivial); (first | have f8 := Sat.pf (H.t.t.t.t.t.t.t.t) | have f8 := trivial); (first | have f9 := Sat.pf (H.t.t.t.t.t.t.t.t.t) | have f9 := trivial))
    | simp -implicitDefEqProofs (disch := first | omega | decide | exact rfl | assumption | exact Nat.le_of_ble_eq_true rfl | exact One.c | exact One.o) only [vsA, vsB, eq_self, if_true, if_false, implies_true, false_implies, evp, HX.ev, Nat.reduceAdd, HOp.looks, Nat.reduceEqDiff, overw, Nat.reduceBEq, h25, ub25, f0, f1, f2, f3, f4, f5, f6, f7, f8, f9, frame0, List.replicate, Nat.sub]
    | (refine condK_cases (fun h => ?_) (fun h => ?_) <;> (try simp only [h]) <;> (try simp only [athA, ne_eq] at h) <;> (try (exfalso; omega)))
    | (refine guardK_cases (fun h => ?_) (fun h => ?_) <;> (try simp only [h]) <;> (try simp only [athA, ne_eq] at h) <;> (try (exfalso; omega)))
    | (clear H f0 f1 f2 f3 f4 f5 f6 f7 f8 f9; (with_reducible intro v2 hs H); (try simp only [setA, overw, Nat.reduceAdd] at H); refine need ?_)
    | refine opC_K ?_
    | ((with_reducible show opC (unit (hstore _ _ _ _)) _); refine sl_store1 (by with_reducible first | exact H | exact H.p1 | exact H.p2 | exact H.p3 | exact H.p4 | exact H.p5 | exact H.p6 | exact H.p7 | exact H.p8 | exact H.p9) (Nat.le_of_ble_eq_true rfl) (by first | exact rfl | (simp only [f0, f1, f2, f3, f4, f5, f6, f7, f8, f9]; done) | (simp only [onA, *]; done)) (by first | exact rfl | (simp only [f0, f1, f2, f3, f4, f5, f6, f7, f8, f9]; done) | (simp only [onA, *]; done)) ?_)
    | ((with_reducible show opC (unit (hstore _ _ _ _)) _); refine sl_storeN (by with_reducible first | exact H | exact H.p1 | exact H.p2 | exact H.p3 | exact H.p4 | exact H.p5 | exact H.p6 | exact H.p7 | exact H.p8 | exact H.p9) rfl (Nat.le_of_ble_eq_true rfl) (by first | exact rfl | (simp only [f0, f1, f2, f3, f4, f5, f6, f7, f8, f9]; done) | (simp only [onA, *]; done)) ?_)
    | ((with_reducible show opC (hbox _ _) _); refine sl_box1 H (by first | exact rfl | (simp only [f0, f1, f2, f3, f4, f5, f6, f7, f8, f9]; done) | (simp only [onA, *]; done)) (by first | exact rfl | (simp only [f0, f1, f2, f3, f4, f5, f6, f7, f8, f9]; done) | (simp only [onA, *]; done)) ?_)
    | ((with_reducible show opC (hbox _ _) _); refine sl_boxA H (by first | exact rfl | (simp only [f0, f1, f2, f3, f4, f5, f6, f7, f8, f9]; done) | (simp only [onA, *]; done)) ?_)
    | with_reducible intro hy

  refine HW.loopA mixed (fun i : Nat => (.undef :: .undef :: .undef :: .int .i64 ((r.length + ((L.take i).map fun e => e.x.2.c.1).sum : Nat) : Int) :: .undef :: .undef :: .undef :: .undef :: .undef :: .undef :: .undef :: .undef :: .undef :: .undef :: vc :: .int .i64 (L.length : Nat) :: .int .i64 (i : Nat) :: .undef :: .undef :: .undef :: .undef :: .undef :: .undef :: .undef :: .undef :: .undef :: []))
    (fun _ => pt p (.cells 1 [vc, vr, .bool bad] false false []) :: My 6 vc L.length (L.flatMap RE.cells) :: My 1 vr r.length (bcells r) :: each RE.P L :: l) (fun i => L.length - i) (fun i => i ≤ L.length) 0 (Nat.zero_le _) (by (repeat first | exact Less.nil | refine Less.undef _ ?_ | refine Less.keep _ ?_)) H ?_
  clear H
  rintro i hs hi H
  by_cases h : i < L.length
  · obtain ⟨e, he⟩ : ∃ e, L[i]? = some e := ⟨_, List.getElem?_eq_getElem h⟩
    obtain ⟨hh, oo, hix, _, _⟩ := (Sat.rd H.p1).idxF (s := 6) (fun _ => rfl) rfl he .i64
    have d0 : decide (((i : Nat) : Int) < ((L.length : Nat) : Int)) = true := decide_eq_true (by omega)
    have hs1 : ((L.take (i + 1)).map fun e => e.x.2.c.1).sum = ((L.take i).map fun e => e.x.2.c.1).sum + e.x.2.c.1 := by
      rw [List.take_add_one, he]; simp
    have hs2 : ((L.take (i + 1)).map fun e => e.x.2.c.1).sum ≤ (L.map fun e => e.x.2.c.1).sum := by
      conv => rhs; rw [← List.take_append_drop (i + 1) L]
      rw [List.map_append, List.sum_append]; omega
    have va : hbin .add none (.int .i64 ((r.length + ((L.take i).map fun e => e.x.2.c.1).sum : Nat) : Int)) (.int .i64 (e.x.2.c.1 : Nat)) = some (.int .i64 ((r.length + ((L.take i).map fun e => e.x.2.c.1).sum + e.x.2.c.1 : Nat) : Int)) := vaddn (by omega)
    have ld := (re_ld (vc := vc) (n := L.length) (L := L) (e := e) H.p1 rfl hix he).1
    have ow : Sat hs (My 1 e.w e.x.2.body.length (bcells e.x.2.body) :: _) := Sat.each_at (P := RE.P) H.p3 he
    have ow1 : e.w.one = true := ow.rd.one
    clear ow
    unfold RE.cells at ld
    first | have f0 := Sat.pf (H) | have f0 := trivial
    first | have f1 := Sat.pf (H.t) | have f1 := trivial
    first | have f2 := Sat.pf (H.t.t) | have f2 := trivial
    first | have f3 := Sat.pf (H.t.t.t) | have f3 := trivial
    first | have f4 := Sat.pf (H.t.t.t.t) | have f4 := trivial
    first | have f5 := Sat.pf (H.t.t.t.t.t) | have f5 := trivial
    first | have f6 := Sat.pf (H.t.t.t.t.t.t) | have f6 := trivial
    first | have f7 := Sat.pf (H.t.t.t.t.t.t.t) | have f7 := trivial
    first | have f8 := Sat.pf (H.t.t.t.t.t.t.t.t) | have f8 := trivial
    first | have f9 := Sat.pf (H.t.t.t.t.t.t.t.t.t) | have f9 := trivial
    repeat' first
      | ((with_reducible show Need _); refine need_of ?_; (first | have f0 := Sat.pf (H) | have f0 := trivial); (first | have f1 := Sat.pf (H.t) | have f1 := trivial); (first | have f2 := Sat.pf (H.t.t) | have f2 := trivial); (first | have f3 := Sat.pf (H.t.t.t) | have f3 := trivial); (first | have f4 := Sat.pf (H.t.t.t.t) | have f4 := trivial); (first | have f5 := Sat.pf (H.t.t.t.t.t) | have f5 := trivial); (first | have f6 := Sat.pf (H.t.t.t.t.t.t) | have f6 := trivial); (first | have f7 := Sat.pf (H.t.t.t.t.t.t.t) | have f7 := trivial); (first | have f8 := Sat.pf (H.t.t.t.t.t.t.t.t) | have f8 := trivial); (first | have f9 := Sat.pf (H.t.t.t.t.t.t.t.t.t) | have f9 := trivial))
      | simp -implicitDefEqProofs (disch := first | omega | decide | exact rfl | assumption | exact Nat.le_of_ble_eq_true rfl | exact One.c | exact One.o) only [vsA, vsB, eq_self, if_true, if_false, implies_true, false_implies, evp, HX.ev, Nat.reduceAdd, HOp.looks, Nat.reduceEqDiff, overw, Nat.reduceBEq, hix, d0, va, ld, ow1, vadd1, va_ldA, ub25, f0, f1, f2, f3, f4, f5, f6, f7, f8, f9]
      | (refine condK_cases (fun h => ?_) (fun h => ?_) <;> (try simp only [h]) <;> (try simp only [athA, ne_eq] at h) <;> (try (exfalso; omega)))
      | (refine guardK_cases (fun h => ?_) (fun h => ?_) <;> (try simp only [h]) <;> (try simp only [athA, ne_eq] at h) <;> (try (exfalso; omega)))
      | (clear H f0 f1 f2 f3 f4 f5 f6 f7 f8 f9; (with_reducible intro v2 hs H); (try simp only [setA, overw, Nat.reduceAdd] at H); refine need ?_)
      | refine opC_K ?_
      | ((with_reducible show opC (unit (hstore _ _ _ _)) _); refine sl_store1 (by with_reducible first | exact H | exact H.p1 | exact H.p2 | exact H.p3 | exact H.p4 | exact H.p5 | exact H.p6 | exact H.p7 | exact H.p8 | exact H.p9) (Nat.le_of_ble_eq_true rfl) (by first | exact rfl | (simp only [f0, f1, f2, f3, f4, f5, f6, f7, f8, f9]; done) | (simp only [onA, *]; done)) (by first | exact rfl | (simp only [f0, f1, f2, f3, f4, f5, f6, f7, f8, f9]; done) | (simp only [onA, *]; done)) ?_)
      | ((with_reducible show opC (unit (hstore _ _ _ _)) _); refine sl_storeN (by with_reducible first | exact H | exact H.p1 | exact H.p2 | exact H.p3 | exact H.p4 | exact H.p5 | exact H.p6 | exact H.p7 | exact H.p8 | exact H.p9) rfl (Nat.le_of_ble_eq_true rfl) (by first | exact rfl | (simp only [f0, f1, f2, f3, f4, f5, f6, f7, f8, f9]; done) | (simp only [onA, *]; done)) ?_)
      | ((with_reducible show opC (hbox _ _) _); refine sl_box1 H (by first | exact rfl | (simp only [f0, f1, f2, f3, f4, f5, f6, f7, f8, f9]; done) | (simp only [onA, *]; done)) (by first | exact rfl | (simp only [f0, f1, f2, f3, f4, f5, f6, f7, f8, f9]; done) | (simp only [onA, *]; done)) ?_)
      | ((with_reducible show opC (hbox _ _) _); refine sl_boxA H (by first | exact rfl | (simp only [f0, f1, f2, f3, f4, f5, f6, f7, f8, f9]; done) | (simp only [onA, *]; done)) ?_)
      | with_reducible intro hy

    exact ⟨i + 1, _, by omega, by omega, (by rw [hs1, ← Nat.add_assoc]; (repeat first | exact Less.nil | refine Less.undef _ ?_ | refine Less.keep _ ?_)), Weak.refl _, H.t⟩
  · have d0 : decide (((i : Nat) : Int) < ((L.length : Nat) : Int)) = false := decide_eq_false (by omega)
    obtain rfl : i = L.length := by omega
    first | have f0 := Sat.pf (H) | have f0 := trivial
    first | have f1 := Sat.pf (H.t) | have f1 := trivial
    first | have f2 := Sat.pf (H.t.t) | have f2 := trivial
    first | have f3 := Sat.pf (H.t.t.t) | have f3 := trivial
    first | have f4 := Sat.pf (H.t.t.t.t) | have f4 := trivial
    first | have f5 := Sat.pf (H.t.t.t.t.t) | have f5 := trivial
    first | have f6 := Sat.pf (H.t.t.t.t.t.t) | have f6 := trivial
    first | have f7 := Sat.pf (H.t.t.t.t.t.t.t) | have f7 := trivial
    first | have f8 := Sat.pf (H.t.t.t.t.t.t.t.t) | have f8 := trivial
    first | have f9 := Sat.pf (H.t.t.t.t.t.t.t.t.t) | have f9 := trivial
    repeat' first
      | ((with_reducible show Need _); refine need_of ?_; (first | have f0 := Sat.pf (H) | have f0 := trivial); (first | have f1 := Sat.pf (H.t) | have f1 := trivial); (first | have f2 := Sat.pf (H.t.t) | have f2 := trivial); (first | have f3 := Sat.pf (H.t.t.t) | have f3 := trivial); (first | have f4 := Sat.pf (H.t.t.t.t) | have f4 := trivial); (first | have f5 := Sat.pf (H.t.t.t.t.t) | have f5 := trivial); (first | have f6 := Sat.pf (H.t.t.t.t.t.t) | have f6 := trivial); (first | have f7 := Sat.pf (H.t.t.t.t.t.t.t) | have f7 := trivial); (first | have f8 := Sat.pf (H.t.t.t.t.t.t.t.t) | have f8 := trivial); (first | have f9 := Sat.pf (H.t.t.t.t.t.t.t.t.t) | have f9 := trivial))
      | simp -implicitDefEqProofs (disch := first | omega | decide | exact rfl | assumption | exact Nat.le_of_ble_eq_true rfl | exact One.c | exact One.o) only [vsA, vsB, eq_self, if_true, if_false, implies_true, false_implies, evp, HX.ev, Nat.reduceAdd, HOp.looks, Nat.reduceEqDiff, overw, Nat.reduceBEq, d0, List.take_length, ub25, f0, f1, f2, f3, f4, f5, f6, f7, f8, f9]
      | (refine condK_cases (fun h => ?_) (fun h => ?_) <;> (try simp only [h]) <;> (try simp only [athA, ne_eq] at h) <;> (try (exfalso; omega)))
      | (refine guardK_cases (fun h => ?_) (fun h => ?_) <;> (try simp only [h]) <;> (try simp only [athA, ne_eq] at h) <;> (try (exfalso; omega)))
      | (clear H f0 f1 f2 f3 f4 f5 f6 f7 f8 f9; (with_reducible intro v2 hs H); (try simp only [setA, overw, Nat.reduceAdd] at H); refine need ?_)
      | refine opC_K ?_
      | ((with_reducible show opC (unit (hstore _ _ _ _)) _); refine sl_store1 (by with_reducible first | exact H | exact H.p1 | exact H.p2 | exact H.p3 | exact H.p4 | exact H.p5 | exact H.p6 | exact H.p7 | exact H.p8 | exact H.p9) (Nat.le_of_ble_eq_true rfl) (by first | exact rfl | (simp only [f0, f1, f2, f3, f4, f5, f6, f7, f8, f9]; done) | (simp only [onA, *]; done)) (by first | exact rfl | (simp only [f0, f1, f2, f3, f4, f5, f6, f7, f8, f9]; done) | (simp only [onA, *]; done)) ?_)
      | ((with_reducible show opC (unit (hstore _ _ _ _)) _); refine sl_storeN (by with_reducible first | exact H | exact H.p1 | exact H.p2 | exact H.p3 | exact H.p4 | exact H.p5 | exact H.p6 | exact H.p7 | exact H.p8 | exact H.p9) rfl (Nat.le_of_ble_eq_true rfl) (by first | exact rfl | (simp only [f0, f1, f2, f3, f4, f5, f6, f7, f8, f9]; done) | (simp only [onA, *]; done)) ?_)
      | ((with_reducible show opC (hbox _ _) _); refine sl_box1 H (by first | exact rfl | (simp only [f0, f1, f2, f3, f4, f5, f6, f7, f8, f9]; done) | (simp only [onA, *]; done)) (by first | exact rfl | (simp only [f0, f1, f2, f3, f4, f5, f6, f7, f8, f9]; done) | (simp only [onA, *]; done)) ?_)
      | ((with_reducible show opC (hbox _ _) _); refine sl_boxA H (by first | exact rfl | (simp only [f0, f1, f2, f3, f4, f5, f6, f7, f8, f9]; done) | (simp only [onA, *]; done)) ?_)
      | with_reducible intro hy

    exact read_open.2 ⟨vc, vr, H⟩
theorem dec_bounds {b r : List UInt8} {l : List (Int × Fm)} {bad : Bool} (h : Dec b l bad r) : (∀ x ∈ l, x.2.body.length ≤ 4294967295) ∧ (l.map fun x => x.2.c.1).sum + r.length ≤ b.length ∧ 2 * l.length + r.length ≤ b.length ∧ (bad = false → (l.map fun x => x.2.c.1).sum + r.length = b.length) := by
  induction h with
  | more e _ ih =>
    rename_i b r k l bad _
    obtain ⟨h1, h2, h3, h4⟩ := ih
    obtain ⟨g1, g2, _⟩ := first_put e
    have g3 := put_long k (formF k b).id (formF k b).num (formF k b).tube (formF k b).body
    have g4 := form_le k b
    have g5 := body_len (check_all g1).2.2.2.2
    have g6 : 2 ≤ (formF k b).c.1 := by rw [g2]; exact g3
    rw [List.length_drop] at h2 h3 h4
    refine ⟨fun x hx => ?_, ?_, ?_, fun hb => ?_⟩
    · rcases List.mem_cons.1 hx with rfl | hx
      · exact g5
      · exact h1 x hx
    · rw [List.map_cons, List.sum_cons]; simp only; omega
    · rw [List.length_cons]; omega
    · rw [List.map_cons, List.sum_cons]; have := h4 hb; simp only; omega
  | wait e h1 => simp
  | bad e h1 => simp; omega
theorem dec_bodies {b r : List UInt8} {L : List RE} {bad : Bool} (h : Dec b (L.map RE.x) bad r) : (∀ e ∈ L, e.x.2.body.length < 140737488351232) ∧ 2 * L.length + r.length ≤ b.length := by
  obtain ⟨h1, _, h3, _⟩ := dec_bounds h
  refine ⟨fun e he => ?_, by simpa using h3⟩
  have := h1 e.x (List.mem_map_of_mem he)
  omega
/-- are bytes wrong for the reader. -/
theorem wrong26 {hs : HS} {l : List SA} {b : List UInt8} {bv : HV} (H : Sat hs l) (R : Rdl l bv b.length (bcells b)) (hb : b.length < 1099511627776) :
    HC Tryd.prog 26 [bv] hs fun v hs' => (∃ L bad r, Dec b L bad r ∧ v = .bool (bad && L.isEmpty)) ∧ Sat hs' l := by
  have bone := (R _ H).one
  have bcel := (R _ H).cells
  have o1 := True.intro
  refine HC.wp mixed Tryd.func26 c26 ?_
  first | have f0 := Sat.pf (H) | have f0 := trivial
  first | have f1 := Sat.pf (H.t) | have f1 := trivial
  first | have f2 := Sat.pf (H.t.t) | have f2 := trivial
  first | have f3 := Sat.pf (H.t.t.t) | have f3 := trivial
  first | have f4 := Sat.pf (H.t.t.t.t) | have f4 := trivial
  first | have f5 := Sat.pf (H.t.t.t.t.t) | have f5 := trivial
  first | have f6 := Sat.pf (H.t.t.t.t.t.t) | have f6 := trivial
  first | have f7 := Sat.pf (H.t.t.t.t.t.t.t) | have f7 := trivial
  first | have f8 := Sat.pf (H.t.t.t.t.t.t.t.t) | have f8 := trivial
  first | have f9 := Sat.pf (H.t.t.t.t.t.t.t.t.t) | have f9 := trivial
  repeat' first
    | ((with_reducible show Need _); refine need_of ?_; (first | have f0 := Sat.pf (H) | have f0 := trivial); (first | have f1 := Sat.pf (H.t) | have f1 := trivial); (first | have f2 := Sat.pf (H.t.t) | have f2 := trivial); (first | have f3 := Sat.pf (H.t.t.t) | have f3 := trivial); (first | have f4 := Sat.pf (H.t.t.t.t) | have f4 := trivial); (first | have f5 := Sat.pf (H.t.t.t.t.t) | have f5 := trivial); (first | have f6 := Sat.pf (H.t.t.t.t.t.t) | have f6 := trivial); (first | have f7 := Sat.pf (H.t.t.t.t.t.t.t) | have f7 := trivial); (first | have f8 := Sat.pf (H.t.t.t.t.t.t.t.t) | have f8 := trivial); (first | have f9 := Sat.pf (H.t.t.t.t.t.t.t.t.t) | have f9 := trivial))
    | simp -implicitDefEqProofs (disch := first | omega | decide | exact rfl | assumption | exact Nat.le_of_ble_eq_true rfl | exact One.c | exact One.o) only [vsA, vsB, eq_self, if_true, if_false, implies_true, false_implies, evp, HX.ev, Nat.reduceAdd, HOp.looks, Nat.reduceEqDiff, overw, Nat.reduceBEq, h26, bone, bcel, ub26, f0, f1, f2, f3, f4, f5, f6, f7, f8, f9, frame0, List.replicate, Nat.sub]
    | (refine condK_cases (fun h => ?_) (fun h => ?_) <;> (try simp only [h]) <;> (try simp only [athA, ne_eq] at h) <;> (try (exfalso; omega)))
    | (refine guardK_cases (fun h => ?_) (fun h => ?_) <;> (try simp only [h]) <;> (try simp only [athA, ne_eq] at h) <;> (try (exfalso; omega)))
    | (clear H f0 f1 f2 f3 f4 f5 f6 f7 f8 f9; (with_reducible intro v2 hs H); (try simp only [setA, overw, Nat.reduceAdd] at H); refine need ?_)
    | ((with_reducible show actK _ (HAct.call (HX.cst (HV.func (Fn.func 21) _ _)) _) _ _ _ _ _); refine vcall_of ok21 rfl (new21 H) ?_;  clear H f0 f1 f2 f3 f4 f5 f6 f7 f8 f9; rintro v hs ⟨p, rfl, H⟩; refine need ?_)
    | ((with_reducible show actK _ (HAct.call (HX.cst (HV.func (Fn.func 22) _ _)) _) _ _ _ _ _); refine vcall_of ok22 rfl (feed22 (p := p) (b := b) H R (by simp; omega)) ?_;  clear H f0 f1 f2 f3 f4 f5 f6 f7 f8 f9; rintro v hs ⟨L, bad, r, hD, H⟩; refine need ?_)
    | refine opC_K ?_
    | ((with_reducible show opC (unit (hstore _ _ _ _)) _); refine sl_store1 (by with_reducible first | exact H | exact H.p1 | exact H.p2 | exact H.p3 | exact H.p4 | exact H.p5 | exact H.p6 | exact H.p7 | exact H.p8 | exact H.p9) (Nat.le_of_ble_eq_true rfl) (by first | exact rfl | (simp only [f0, f1, f2, f3, f4, f5, f6, f7, f8, f9]; done) | (simp only [onA, *]; done)) (by first | exact rfl | (simp only [f0, f1, f2, f3, f4, f5, f6, f7, f8, f9]; done) | (simp only [onA, *]; done)) ?_)
    | ((with_reducible show opC (unit (hstore _ _ _ _)) _); refine sl_storeN (by with_reducible first | exact H | exact H.p1 | exact H.p2 | exact H.p3 | exact H.p4 | exact H.p5 | exact H.p6 | exact H.p7 | exact H.p8 | exact H.p9) rfl (Nat.le_of_ble_eq_true rfl) (by first | exact rfl | (simp only [f0, f1, f2, f3, f4, f5, f6, f7, f8, f9]; done) | (simp only [onA, *]; done)) ?_)
    | ((with_reducible show opC (hbox _ _) _); refine sl_box1 H (by first | exact rfl | (simp only [f0, f1, f2, f3, f4, f5, f6, f7, f8, f9]; done) | (simp only [onA, *]; done)) (by first | exact rfl | (simp only [f0, f1, f2, f3, f4, f5, f6, f7, f8, f9]; done) | (simp only [onA, *]; done)) ?_)
    | ((with_reducible show opC (hbox _ _) _); refine sl_boxA H (by first | exact rfl | (simp only [f0, f1, f2, f3, f4, f5, f6, f7, f8, f9]; done) | (simp only [onA, *]; done)) ?_)
    | with_reducible intro hy

  rw [List.nil_append] at hD H
  obtain ⟨hb1, hb2⟩ := dec_bodies hD
  have hlink : ∀ v : HV, (∃ L bad r, Dec b L bad r ∧ v = .bool (bad && L.isEmpty)) ↔ v = .bool (bad && L.isEmpty) := by
    intro v
    constructor
    · rintro ⟨L2, bad2, r2, h, rfl⟩
      obtain ⟨rfl, rfl, rfl⟩ := h.det hD
      simp
    · rintro rfl
      exact ⟨_, _, _, hD, by simp⟩
  simp only [hlink]
  cases L with
  | cons e L =>
    repeat' first
      | ((with_reducible show Need _); refine need_of ?_; (first | have f0 := Sat.pf (H) | have f0 := trivial); (first | have f1 := Sat.pf (H.t) | have f1 := trivial); (first | have f2 := Sat.pf (H.t.t) | have f2 := trivial); (first | have f3 := Sat.pf (H.t.t.t) | have f3 := trivial); (first | have f4 := Sat.pf (H.t.t.t.t) | have f4 := trivial); (first | have f5 := Sat.pf (H.t.t.t.t.t) | have f5 := trivial); (first | have f6 := Sat.pf (H.t.t.t.t.t.t) | have f6 := trivial); (first | have f7 := Sat.pf (H.t.t.t.t.t.t.t) | have f7 := trivial); (first | have f8 := Sat.pf (H.t.t.t.t.t.t.t.t) | have f8 := trivial); (first | have f9 := Sat.pf (H.t.t.t.t.t.t.t.t.t) | have f9 := trivial))
      | simp -implicitDefEqProofs (disch := first | omega | decide | exact rfl | assumption | exact Nat.le_of_ble_eq_true rfl | exact One.c | exact One.o) only [vsA, vsB, eq_self, if_true, if_false, implies_true, false_implies, evp, HX.ev, Nat.reduceAdd, HOp.looks, Nat.reduceEqDiff, overw, Nat.reduceBEq, h26, o1, va_loadA, va_ldA, ub26, f0, f1, f2, f3, f4, f5, f6, f7, f8, f9, frame0, List.replicate, Nat.sub]
      | (refine condK_cases (fun h => ?_) (fun h => ?_) <;> (try simp only [h]) <;> (try simp only [athA, ne_eq] at h) <;> (try (exfalso; omega)))
      | (refine guardK_cases (fun h => ?_) (fun h => ?_) <;> (try simp only [h]) <;> (try simp only [athA, ne_eq] at h) <;> (try (exfalso; omega)))
      | (clear H f0 f1 f2 f3 f4 f5 f6 f7 f8 f9; (with_reducible intro v2 hs H); (try simp only [setA, overw, Nat.reduceAdd] at H); refine need ?_)
      | ((with_reducible show actK _ (HAct.call (HX.cst (HV.func (Fn.func 23) _ _)) _) _ _ _ _ _); refine vcall_of ok23 rfl (next23 (p := p) H hb1 (by omega)) ?_;  clear H f0 f1 f2 f3 f4 f5 f6 f7 f8 f9; rintro v hs ⟨w, rfl, H⟩; have o1 := H.rd.one; simp only [nextV] at H ⊢; refine need ?_)
      | refine opC_K ?_
      | ((with_reducible show opC (unit (hstore _ _ _ _)) _); refine sl_store1 (by with_reducible first | exact H | exact H.p1 | exact H.p2 | exact H.p3 | exact H.p4 | exact H.p5 | exact H.p6 | exact H.p7 | exact H.p8 | exact H.p9) (Nat.le_of_ble_eq_true rfl) (by first | exact rfl | (simp only [f0, f1, f2, f3, f4, f5, f6, f7, f8, f9]; done) | (simp only [onA, *]; done)) (by first | exact rfl | (simp only [f0, f1, f2, f3, f4, f5, f6, f7, f8, f9]; done) | (simp only [onA, *]; done)) ?_)
      | ((with_reducible show opC (unit (hstore _ _ _ _)) _); refine sl_storeN (by with_reducible first | exact H | exact H.p1 | exact H.p2 | exact H.p3 | exact H.p4 | exact H.p5 | exact H.p6 | exact H.p7 | exact H.p8 | exact H.p9) rfl (Nat.le_of_ble_eq_true rfl) (by first | exact rfl | (simp only [f0, f1, f2, f3, f4, f5, f6, f7, f8, f9]; done) | (simp only [onA, *]; done)) ?_)
      | ((with_reducible show opC (hbox _ _) _); refine sl_box1 H (by first | exact rfl | (simp only [f0, f1, f2, f3, f4, f5, f6, f7, f8, f9]; done) | (simp only [onA, *]; done)) (by first | exact rfl | (simp only [f0, f1, f2, f3, f4, f5, f6, f7, f8, f9]; done) | (simp only [onA, *]; done)) ?_)
      | ((with_reducible show opC (hbox _ _) _); refine sl_boxA H (by first | exact rfl | (simp only [f0, f1, f2, f3, f4, f5, f6, f7, f8, f9]; done) | (simp only [onA, *]; done)) ?_)
      | with_reducible intro hy

    exact ⟨by simp, H.t.t.t⟩
  | nil =>
    cases bad with
    | true =>
      repeat' first
        | ((with_reducible show Need _); refine need_of ?_; (first | have f0 := Sat.pf (H) | have f0 := trivial); (first | have f1 := Sat.pf (H.t) | have f1 := trivial); (first | have f2 := Sat.pf (H.t.t) | have f2 := trivial); (first | have f3 := Sat.pf (H.t.t.t) | have f3 := trivial); (first | have f4 := Sat.pf (H.t.t.t.t) | have f4 := trivial); (first | have f5 := Sat.pf (H.t.t.t.t.t) | have f5 := trivial); (first | have f6 := Sat.pf (H.t.t.t.t.t.t) | have f6 := trivial); (first | have f7 := Sat.pf (H.t.t.t.t.t.t.t) | have f7 := trivial); (first | have f8 := Sat.pf (H.t.t.t.t.t.t.t.t) | have f8 := trivial); (first | have f9 := Sat.pf (H.t.t.t.t.t.t.t.t.t) | have f9 := trivial))
        | simp -implicitDefEqProofs (disch := first | omega | decide | exact rfl | assumption | exact Nat.le_of_ble_eq_true rfl | exact One.c | exact One.o) only [vsA, vsB, eq_self, if_true, if_false, implies_true, false_implies, evp, HX.ev, Nat.reduceAdd, HOp.looks, Nat.reduceEqDiff, overw, Nat.reduceBEq, h26, o1, va_loadA, va_ldA, ub26, f0, f1, f2, f3, f4, f5, f6, f7, f8, f9, frame0, List.replicate, Nat.sub]
        | (refine condK_cases (fun h => ?_) (fun h => ?_) <;> (try simp only [h]) <;> (try simp only [athA, ne_eq] at h) <;> (try (exfalso; omega)))
        | (refine guardK_cases (fun h => ?_) (fun h => ?_) <;> (try simp only [h]) <;> (try simp only [athA, ne_eq] at h) <;> (try (exfalso; omega)))
        | (clear H f0 f1 f2 f3 f4 f5 f6 f7 f8 f9; (with_reducible intro v2 hs H); (try simp only [setA, overw, Nat.reduceAdd] at H); refine need ?_)
        | ((with_reducible show actK _ (HAct.call (HX.cst (HV.func (Fn.func 23) _ _)) _) _ _ _ _ _); refine vcall_of ok23 rfl (next23 (p := p) H hb1 (by omega)) ?_;  clear H f0 f1 f2 f3 f4 f5 f6 f7 f8 f9; rintro v hs ⟨w, rfl, H⟩; have o1 := H.rd.one; simp only [nextV] at H ⊢; refine need ?_)
        | refine opC_K ?_
        | ((with_reducible show opC (unit (hstore _ _ _ _)) _); refine sl_store1 (by with_reducible first | exact H | exact H.p1 | exact H.p2 | exact H.p3 | exact H.p4 | exact H.p5 | exact H.p6 | exact H.p7 | exact H.p8 | exact H.p9) (Nat.le_of_ble_eq_true rfl) (by first | exact rfl | (simp only [f0, f1, f2, f3, f4, f5, f6, f7, f8, f9]; done) | (simp only [onA, *]; done)) (by first | exact rfl | (simp only [f0, f1, f2, f3, f4, f5, f6, f7, f8, f9]; done) | (simp only [onA, *]; done)) ?_)
        | ((with_reducible show opC (unit (hstore _ _ _ _)) _); refine sl_storeN (by with_reducible first | exact H | exact H.p1 | exact H.p2 | exact H.p3 | exact H.p4 | exact H.p5 | exact H.p6 | exact H.p7 | exact H.p8 | exact H.p9) rfl (Nat.le_of_ble_eq_true rfl) (by first | exact rfl | (simp only [f0, f1, f2, f3, f4, f5, f6, f7, f8, f9]; done) | (simp only [onA, *]; done)) ?_)
        | ((with_reducible show opC (hbox _ _) _); refine sl_box1 H (by first | exact rfl | (simp only [f0, f1, f2, f3, f4, f5, f6, f7, f8, f9]; done) | (simp only [onA, *]; done)) (by first | exact rfl | (simp only [f0, f1, f2, f3, f4, f5, f6, f7, f8, f9]; done) | (simp only [onA, *]; done)) ?_)
        | ((with_reducible show opC (hbox _ _) _); refine sl_boxA H (by first | exact rfl | (simp only [f0, f1, f2, f3, f4, f5, f6, f7, f8, f9]; done) | (simp only [onA, *]; done)) ?_)
        | with_reducible intro hy

      exact ⟨by simp, H.t.t.t⟩
    | false =>
      repeat' first
        | ((with_reducible show Need _); refine need_of ?_; (first | have f0 := Sat.pf (H) | have f0 := trivial); (first | have f1 := Sat.pf (H.t) | have f1 := trivial); (first | have f2 := Sat.pf (H.t.t) | have f2 := trivial); (first | have f3 := Sat.pf (H.t.t.t) | have f3 := trivial); (first | have f4 := Sat.pf (H.t.t.t.t) | have f4 := trivial); (first | have f5 := Sat.pf (H.t.t.t.t.t) | have f5 := trivial); (first | have f6 := Sat.pf (H.t.t.t.t.t.t) | have f6 := trivial); (first | have f7 := Sat.pf (H.t.t.t.t.t.t.t) | have f7 := trivial); (first | have f8 := Sat.pf (H.t.t.t.t.t.t.t.t) | have f8 := trivial); (first | have f9 := Sat.pf (H.t.t.t.t.t.t.t.t.t) | have f9 := trivial))
        | simp -implicitDefEqProofs (disch := first | omega | decide | exact rfl | assumption | exact Nat.le_of_ble_eq_true rfl | exact One.c | exact One.o) only [vsA, vsB, eq_self, if_true, if_false, implies_true, false_implies, evp, HX.ev, Nat.reduceAdd, HOp.looks, Nat.reduceEqDiff, overw, Nat.reduceBEq, h26, o1, va_loadA, va_ldA, ub26, f0, f1, f2, f3, f4, f5, f6, f7, f8, f9, frame0, List.replicate, Nat.sub]
        | (refine condK_cases (fun h => ?_) (fun h => ?_) <;> (try simp only [h]) <;> (try simp only [athA, ne_eq] at h) <;> (try (exfalso; omega)))
        | (refine guardK_cases (fun h => ?_) (fun h => ?_) <;> (try simp only [h]) <;> (try simp only [athA, ne_eq] at h) <;> (try (exfalso; omega)))
        | (clear H f0 f1 f2 f3 f4 f5 f6 f7 f8 f9; (with_reducible intro v2 hs H); (try simp only [setA, overw, Nat.reduceAdd] at H); refine need ?_)
        | ((with_reducible show actK _ (HAct.call (HX.cst (HV.func (Fn.func 23) _ _)) _) _ _ _ _ _); refine vcall_of ok23 rfl (next23 (p := p) H hb1 (by omega)) ?_;  clear H f0 f1 f2 f3 f4 f5 f6 f7 f8 f9; rintro v hs ⟨w, rfl, H⟩; have o1 := H.rd.one; simp only [nextV] at H ⊢; refine need ?_)
        | refine opC_K ?_
        | ((with_reducible show opC (unit (hstore _ _ _ _)) _); refine sl_store1 (by with_reducible first | exact H | exact H.p1 | exact H.p2 | exact H.p3 | exact H.p4 | exact H.p5 | exact H.p6 | exact H.p7 | exact H.p8 | exact H.p9) (Nat.le_of_ble_eq_true rfl) (by first | exact rfl | (simp only [f0, f1, f2, f3, f4, f5, f6, f7, f8, f9]; done) | (simp only [onA, *]; done)) (by first | exact rfl | (simp only [f0, f1, f2, f3, f4, f5, f6, f7, f8, f9]; done) | (simp only [onA, *]; done)) ?_)
        | ((with_reducible show opC (unit (hstore _ _ _ _)) _); refine sl_storeN (by with_reducible first | exact H | exact H.p1 | exact H.p2 | exact H.p3 | exact H.p4 | exact H.p5 | exact H.p6 | exact H.p7 | exact H.p8 | exact H.p9) rfl (Nat.le_of_ble_eq_true rfl) (by first | exact rfl | (simp only [f0, f1, f2, f3, f4, f5, f6, f7, f8, f9]; done) | (simp only [onA, *]; done)) ?_)
        | ((with_reducible show opC (hbox _ _) _); refine sl_box1 H (by first | exact rfl | (simp only [f0, f1, f2, f3, f4, f5, f6, f7, f8, f9]; done) | (simp only [onA, *]; done)) (by first | exact rfl | (simp only [f0, f1, f2, f3, f4, f5, f6, f7, f8, f9]; done) | (simp only [onA, *]; done)) ?_)
        | ((with_reducible show opC (hbox _ _) _); refine sl_boxA H (by first | exact rfl | (simp only [f0, f1, f2, f3, f4, f5, f6, f7, f8, f9]; done) | (simp only [onA, *]; done)) ?_)
        | with_reducible intro hy

      exact ⟨by simp, H.t.t.t⟩
end A
end Go.Proofs.YthihchoccpnfeaaDoor
namespace Go.Proofs.YthihchoccpnfeaaDoor
open Go Go.HL Go.Shelf V
namespace A
set_option maxRecDepth 100000
set_option maxHeartbeats 40000000
set_option linter.unusedSimpArgs false
theorem ok14 : okF Tryd.prog 14 := ⟨_, Tryd.func14, by kernel_rfl, by kernel_rfl⟩
theorem ok24 : okF Tryd.prog 24 := ⟨_, Tryd.func24, by kernel_rfl, by kernel_rfl⟩
theorem bcells_get {x : List UInt8} {i : Nat} {c : UInt8} (h : x[i]? = some c) : (bcells x)[i]? = some (.int .u8 c.toNat) := by
  unfold bcells; rw [List.getElem?_map, h]; rfl
end A
end Go.Proofs.YthihchoccpnfeaaDoor
namespace Go.Proofs.YthihchoccpnfeaaDoor
open Go Go.HL Go.Shelf V
namespace A
set_option maxRecDepth 100000
set_option maxHeartbeats 40000000
set_option linter.unusedSimpArgs false
theorem same14R {hs : HS} {a b : HV} {x y : List UInt8} (ha : Rd hs 1 a x.length (bcells x)) (hb : Rd hs 1 b y.length (bcells y)) (hx : x.length < 9223372036854775808) (hy : y.length < 9223372036854775808) : HC Tryd.prog 14 [a, b] hs fun v hs' => v = .bool (x == y) ∧ hs' = hs := by
  have la := ha.len hs
  have lb := hb.len hs
  refine HC.wp mixed Tryd.func14 c14 ?_
  obtain ⟨c, hc⟩ := exB (decide (((x.length : Nat) : Int) = (y.length : Nat)))
  simp -implicitDefEqProofs (disch := first | omega | decide | exact rfl | exact Nat.le_of_ble_eq_true rfl | assumption | (simp only [List.length_append, List.length_cons, List.length_nil, List.drop_zero, List.length_drop] <;> omega)) only [vwp_skip, vwp_ret, vwp_exit, vwp_lab, vwp_seq, vwp_cond, vwp_block, vwp_scope, vwp_region, vwp_draw, vwp_loop, vwp_range, vcnd_tt, vcnd_ff, vthen_normal, vthen_ret, vthen_exit, vblock_normal, vblock_ret, vblock_exit, vreg_nil, vreg_cons, vhl_nil, vhl_op, vhl_guard, vguard_tt, vguard_ff, vguard_tf, vguard_ft, vguard_no, vact_op, vop_some, vput_some, vput_none, vsame_sm, vunit_sm, vget_nil, vget_cons, vget_some,
    vo_mv, vo_bin, vo_un, vo_ext, vo_len, vo_idxS, vo_idxStr, vo_load, vo_pick, vo_append, vo_bslice, evp, vo_nilc, vo_faddr, vo_store, vo_sliceSl, vo_sliceStr, vo_cInt, vo_copy, vo_mkSlice, vo_box, vo_build, vo_b2s, vb2s_sl, vb2s_nil, vcInt, vnil_ptr, vo_mkMap, vo_mkfn, vo_lookup, vo_mapUpd, vo_del, vdel_some, vo_rangeMap, vo_entry, vfaddr_ptr, beq_self_eq_true, eq_self, decide_true, decide_false, vb_lss, vb_leq, vb_gtr, vb_geq, vb_eql, vb_neq, vb_seql, vb_sneq, vb_beql, vb_bneq, vun_not, vlen_str, vlen_sl, vlen_nil, vext_tup, HX.ev, List.length_cons, List.length_nil, List.append_nil, List.nil_append, List.cons_append, List.set_cons_succ, List.set_cons_zero, List.getElem?_cons_succ, List.getElem?_cons_zero, Option.getD_some, Option.map_some, Option.map_none, List.map_cons, List.map_nil, if_true, Bool.not_true, Bool.not_false, Bool.false_eq_true, if_false, va_load, va_ld, va_loadA, va_ldA, va_store, va_st1, va_stn, va_kill0, va_killS, va_box1, va_boxA, get_base, get_base0, set_base, set_base0, List.length_append, Nat.reduceAdd, Nat.zero_add, List.append_assoc, vo_s2b, vo_minmax, va_min2, va_max2, va_minl, List.drop_zero, List.drop_succ_cons, List.take_succ_cons, List.take_zero, vdr_nil, vdr_cons, vdr_op, vdr_some, vdr_loud, vdr_lsome, HOp.looks, vholds_cons, vholds_nil, implies_true, true_and, and_true, vres_tmp, vres_tmp2, vres_none, vres_cell1, vres_k, vres_cell2, vres_k2, vend_ret, vend_normal, vex_some, vdr_guard, vdg_tt, vdg_ff, vdg_tf, vdg_ft, vdg_no, vo_pick, va_s2b, va_takeS, va_takeN, va_app, va_apB, va_ap0, vsadd, Nat.reduceEqDiff, va_sOk, va_sOkN, va_sOk1, va_slLo, va_slHi, va_slBoth, va_slLoC, va_slHiC, va_slBothC, va_nilHi, va_nilLo, va_nilNone, h14, la, lb, hc, frame0, List.replicate, Nat.sub]
  cases c
  case false =>
    have hne : x.length ≠ y.length := fun e => by have := of_decide_eq_false hc; omega
    have e : (x == y) = false := by
      cases hq : x == y with
      | false => rfl
      | true => exact absurd (by have := eq_of_beq hq; rw [this]) hne
    simp -implicitDefEqProofs (disch := first | omega | decide | exact rfl | exact Nat.le_of_ble_eq_true rfl | assumption | (simp only [List.length_append, List.length_cons, List.length_nil, List.drop_zero, List.length_drop] <;> omega)) only [vwp_skip, vwp_ret, vwp_exit, vwp_lab, vwp_seq, vwp_cond, vwp_block, vwp_scope, vwp_region, vwp_draw, vwp_loop, vwp_range, vcnd_tt, vcnd_ff, vthen_normal, vthen_ret, vthen_exit, vblock_normal, vblock_ret, vblock_exit, vreg_nil, vreg_cons, vhl_nil, vhl_op, vhl_guard, vguard_tt, vguard_ff, vguard_tf, vguard_ft, vguard_no, vact_op, vop_some, vput_some, vput_none, vsame_sm, vunit_sm, vget_nil, vget_cons, vget_some,
    vo_mv, vo_bin, vo_un, vo_ext, vo_len, vo_idxS, vo_idxStr, vo_load, vo_pick, vo_append, vo_bslice, evp, vo_nilc, vo_faddr, vo_store, vo_sliceSl, vo_sliceStr, vo_cInt, vo_copy, vo_mkSlice, vo_box, vo_build, vo_b2s, vb2s_sl, vb2s_nil, vcInt, vnil_ptr, vo_mkMap, vo_mkfn, vo_lookup, vo_mapUpd, vo_del, vdel_some, vo_rangeMap, vo_entry, vfaddr_ptr, beq_self_eq_true, eq_self, decide_true, decide_false, vb_lss, vb_leq, vb_gtr, vb_geq, vb_eql, vb_neq, vb_seql, vb_sneq, vb_beql, vb_bneq, vun_not, vlen_str, vlen_sl, vlen_nil, vext_tup, HX.ev, List.length_cons, List.length_nil, List.append_nil, List.nil_append, List.cons_append, List.set_cons_succ, List.set_cons_zero, List.getElem?_cons_succ, List.getElem?_cons_zero, Option.getD_some, Option.map_some, Option.map_none, List.map_cons, List.map_nil, if_true, Bool.not_true, Bool.not_false, Bool.false_eq_true, if_false, va_load, va_ld, va_loadA, va_ldA, va_store, va_st1, va_stn, va_kill0, va_killS, va_box1, va_boxA, get_base, get_base0, set_base, set_base0, List.length_append, Nat.reduceAdd, Nat.zero_add, List.append_assoc, vo_s2b, vo_minmax, va_min2, va_max2, va_minl, List.drop_zero, List.drop_succ_cons, List.take_succ_cons, List.take_zero, vdr_nil, vdr_cons, vdr_op, vdr_some, vdr_loud, vdr_lsome, HOp.looks, vholds_cons, vholds_nil, implies_true, true_and, and_true, vres_tmp, vres_tmp2, vres_none, vres_cell1, vres_k, vres_cell2, vres_k2, vend_ret, vend_normal, vex_some, vdr_guard, vdg_tt, vdg_ff, vdg_tf, vdg_ft, vdg_no, vo_pick, va_s2b, va_takeS, va_takeN, va_app, va_apB, va_ap0, vsadd, Nat.reduceEqDiff, va_sOk, va_sOkN, va_sOk1, va_slLo, va_slHi, va_slBoth, va_slLoC, va_slHiC, va_slBothC, va_nilHi, va_nilLo, va_nilNone, e]
  have hxy : x.length = y.length := by have := of_decide_eq_true hc; omega
  simp -implicitDefEqProofs (disch := first | omega | decide | exact rfl | exact Nat.le_of_ble_eq_true rfl | assumption | (simp only [List.length_append, List.length_cons, List.length_nil, List.drop_zero, List.length_drop] <;> omega)) only [vwp_skip, vwp_ret, vwp_exit, vwp_lab, vwp_seq, vwp_cond, vwp_block, vwp_scope, vwp_region, vwp_draw, vwp_loop, vwp_range, vcnd_tt, vcnd_ff, vthen_normal, vthen_ret, vthen_exit, vblock_normal, vblock_ret, vblock_exit, vreg_nil, vreg_cons, vhl_nil, vhl_op, vhl_guard, vguard_tt, vguard_ff, vguard_tf, vguard_ft, vguard_no, vact_op, vop_some, vput_some, vput_none, vsame_sm, vunit_sm, vget_nil, vget_cons, vget_some,
    vo_mv, vo_bin, vo_un, vo_ext, vo_len, vo_idxS, vo_idxStr, vo_load, vo_pick, vo_append, vo_bslice, evp, vo_nilc, vo_faddr, vo_store, vo_sliceSl, vo_sliceStr, vo_cInt, vo_copy, vo_mkSlice, vo_box, vo_build, vo_b2s, vb2s_sl, vb2s_nil, vcInt, vnil_ptr, vo_mkMap, vo_mkfn, vo_lookup, vo_mapUpd, vo_del, vdel_some, vo_rangeMap, vo_entry, vfaddr_ptr, beq_self_eq_true, eq_self, decide_true, decide_false, vb_lss, vb_leq, vb_gtr, vb_geq, vb_eql, vb_neq, vb_seql, vb_sneq, vb_beql, vb_bneq, vun_not, vlen_str, vlen_sl, vlen_nil, vext_tup, HX.ev, List.length_cons, List.length_nil, List.append_nil, List.nil_append, List.cons_append, List.set_cons_succ, List.set_cons_zero, List.getElem?_cons_succ, List.getElem?_cons_zero, Option.getD_some, Option.map_some, Option.map_none, List.map_cons, List.map_nil, if_true, Bool.not_true, Bool.not_false, Bool.false_eq_true, if_false, va_load, va_ld, va_loadA, va_ldA, va_store, va_st1, va_stn, va_kill0, va_killS, va_box1, va_boxA, get_base, get_base0, set_base, set_base0, List.length_append, Nat.reduceAdd, Nat.zero_add, List.append_assoc, vo_s2b, vo_minmax, va_min2, va_max2, va_minl, List.drop_zero, List.drop_succ_cons, List.take_succ_cons, List.take_zero, vdr_nil, vdr_cons, vdr_op, vdr_some, vdr_loud, vdr_lsome, HOp.looks, vholds_cons, vholds_nil, implies_true, true_and, and_true, vres_tmp, vres_tmp2, vres_none, vres_cell1, vres_k, vres_cell2, vres_k2, vend_ret, vend_normal, vex_some, vdr_guard, vdg_tt, vdg_ff, vdg_tf, vdg_ft, vdg_no, vo_pick, va_s2b, va_takeS, va_takeN, va_app, va_apB, va_ap0, vsadd, Nat.reduceEqDiff, va_sOk, va_sOkN, va_sOk1, va_slLo, va_slHi, va_slBoth, va_slLoC, va_slHiC, va_slBothC, va_nilHi, va_nilLo, va_nilNone]
  refine HW.loopS (σ := Nat) mixed (fun s => (a :: b :: .undef :: .undef :: .bool false :: .int .i64 (s : Nat) :: .undef :: .undef :: .undef :: .undef :: .undef :: .undef :: .undef :: .undef :: .undef :: .undef :: .undef :: .undef :: .undef :: .undef :: .undef :: .undef :: .undef :: .undef :: .undef :: .undef :: [])) (fun _ => hs) (fun s => x.length - s) (fun s => s ≤ x.length ∧ x.take s = y.take s) 0 ⟨by simp, by simp⟩ rfl (by (repeat first | exact Less.nil | refine Less.undef _ ?_ | refine Less.keep _ ?_)) ?_
  rintro s ⟨hs1, hs2⟩
  by_cases h : s < x.length
  · have hlt : decide ((s : Int) < (x.length : Nat)) = true := by simp; omega
    have gx : x[s]? = some x[s] := List.getElem?_eq_getElem h
    have gy : y[s]? = some (y[s]'(by omega)) := List.getElem?_eq_getElem (by omega)
    obtain ⟨p, hp1, hp2⟩ := ha.idx1 (bcells_get gx) .i64
    obtain ⟨q, hq1, hq2⟩ := hb.idx1 (bcells_get gy) .i64
    obtain ⟨d, hd⟩ := exB (decide (((x[s].toNat : Nat) : Int) = ((y[s]'(by omega)).toNat : Nat)))
    simp -implicitDefEqProofs (disch := first | omega | decide | exact rfl | exact Nat.le_of_ble_eq_true rfl | assumption | (simp only [List.length_append, List.length_cons, List.length_nil, List.drop_zero, List.length_drop] <;> omega)) only [vwp_skip, vwp_ret, vwp_exit, vwp_lab, vwp_seq, vwp_cond, vwp_block, vwp_scope, vwp_region, vwp_draw, vwp_loop, vwp_range, vcnd_tt, vcnd_ff, vthen_normal, vthen_ret, vthen_exit, vblock_normal, vblock_ret, vblock_exit, vreg_nil, vreg_cons, vhl_nil, vhl_op, vhl_guard, vguard_tt, vguard_ff, vguard_tf, vguard_ft, vguard_no, vact_op, vop_some, vput_some, vput_none, vsame_sm, vunit_sm, vget_nil, vget_cons, vget_some,
    vo_mv, vo_bin, vo_un, vo_ext, vo_len, vo_idxS, vo_idxStr, vo_load, vo_pick, vo_append, vo_bslice, evp, vo_nilc, vo_faddr, vo_store, vo_sliceSl, vo_sliceStr, vo_cInt, vo_copy, vo_mkSlice, vo_box, vo_build, vo_b2s, vb2s_sl, vb2s_nil, vcInt, vnil_ptr, vo_mkMap, vo_mkfn, vo_lookup, vo_mapUpd, vo_del, vdel_some, vo_rangeMap, vo_entry, vfaddr_ptr, beq_self_eq_true, eq_self, decide_true, decide_false, vb_lss, vb_leq, vb_gtr, vb_geq, vb_eql, vb_neq, vb_seql, vb_sneq, vb_beql, vb_bneq, vun_not, vlen_str, vlen_sl, vlen_nil, vext_tup, HX.ev, List.length_cons, List.length_nil, List.append_nil, List.nil_append, List.cons_append, List.set_cons_succ, List.set_cons_zero, List.getElem?_cons_succ, List.getElem?_cons_zero, Option.getD_some, Option.map_some, Option.map_none, List.map_cons, List.map_nil, if_true, Bool.not_true, Bool.not_false, Bool.false_eq_true, if_false, va_load, va_ld, va_loadA, va_ldA, va_store, va_st1, va_stn, va_kill0, va_killS, va_box1, va_boxA, get_base, get_base0, set_base, set_base0, List.length_append, Nat.reduceAdd, Nat.zero_add, List.append_assoc, vo_s2b, vo_minmax, va_min2, va_max2, va_minl, List.drop_zero, List.drop_succ_cons, List.take_succ_cons, List.take_zero, vdr_nil, vdr_cons, vdr_op, vdr_some, vdr_loud, vdr_lsome, HOp.looks, vholds_cons, vholds_nil, implies_true, true_and, and_true, vres_tmp, vres_tmp2, vres_none, vres_cell1, vres_k, vres_cell2, vres_k2, vend_ret, vend_normal, vex_some, vdr_guard, vdg_tt, vdg_ff, vdg_tf, vdg_ft, vdg_no, vo_pick, va_s2b, va_takeS, va_takeN, va_app, va_apB, va_ap0, vsadd, Nat.reduceEqDiff, va_sOk, va_sOkN, va_sOk1, va_slLo, va_slHi, va_slBoth, va_slLoC, va_slHiC, va_slBothC, va_nilHi, va_nilLo, va_nilNone, la, hlt, ha.sOk, hb.sOk, hp1, hp2, hq1, hq2, hd]
    cases d
    · have hne : x[s] ≠ y[s]'(by omega) := fun e => by have := of_decide_eq_false hd; rw [e] at this; exact this rfl
      have e : (x == y) = false := by
        cases hq : x == y with
        | false => rfl
        | true =>
          have e2 := eq_of_beq hq
          subst e2
          exact absurd rfl hne
      simp -implicitDefEqProofs (disch := first | omega | decide | exact rfl | exact Nat.le_of_ble_eq_true rfl | assumption | (simp only [List.length_append, List.length_cons, List.length_nil, List.drop_zero, List.length_drop] <;> omega)) only [vwp_skip, vwp_ret, vwp_exit, vwp_lab, vwp_seq, vwp_cond, vwp_block, vwp_scope, vwp_region, vwp_draw, vwp_loop, vwp_range, vcnd_tt, vcnd_ff, vthen_normal, vthen_ret, vthen_exit, vblock_normal, vblock_ret, vblock_exit, vreg_nil, vreg_cons, vhl_nil, vhl_op, vhl_guard, vguard_tt, vguard_ff, vguard_tf, vguard_ft, vguard_no, vact_op, vop_some, vput_some, vput_none, vsame_sm, vunit_sm, vget_nil, vget_cons, vget_some,
    vo_mv, vo_bin, vo_un, vo_ext, vo_len, vo_idxS, vo_idxStr, vo_load, vo_pick, vo_append, vo_bslice, evp, vo_nilc, vo_faddr, vo_store, vo_sliceSl, vo_sliceStr, vo_cInt, vo_copy, vo_mkSlice, vo_box, vo_build, vo_b2s, vb2s_sl, vb2s_nil, vcInt, vnil_ptr, vo_mkMap, vo_mkfn, vo_lookup, vo_mapUpd, vo_del, vdel_some, vo_rangeMap, vo_entry, vfaddr_ptr, beq_self_eq_true, eq_self, decide_true, decide_false, vb_lss, vb_leq, vb_gtr, vb_geq, vb_eql, vb_neq, vb_seql, vb_sneq, vb_beql, vb_bneq, vun_not, vlen_str, vlen_sl, vlen_nil, vext_tup, HX.ev, List.length_cons, List.length_nil, List.append_nil, List.nil_append, List.cons_append, List.set_cons_succ, List.set_cons_zero, List.getElem?_cons_succ, List.getElem?_cons_zero, Option.getD_some, Option.map_some, Option.map_none, List.map_cons, List.map_nil, if_true, Bool.not_true, Bool.not_false, Bool.false_eq_true, if_false, va_load, va_ld, va_loadA, va_ldA, va_store, va_st1, va_stn, va_kill0, va_killS, va_box1, va_boxA, get_base, get_base0, set_base, set_base0, List.length_append, Nat.reduceAdd, Nat.zero_add, List.append_assoc, vo_s2b, vo_minmax, va_min2, va_max2, va_minl, List.drop_zero, List.drop_succ_cons, List.take_succ_cons, List.take_zero, vdr_nil, vdr_cons, vdr_op, vdr_some, vdr_loud, vdr_lsome, HOp.looks, vholds_cons, vholds_nil, implies_true, true_and, and_true, vres_tmp, vres_tmp2, vres_none, vres_cell1, vres_k, vres_cell2, vres_k2, vend_ret, vend_normal, vex_some, vdr_guard, vdg_tt, vdg_ff, vdg_tf, vdg_ft, vdg_no, vo_pick, va_s2b, va_takeS, va_takeN, va_app, va_apB, va_ap0, vsadd, Nat.reduceEqDiff, va_sOk, va_sOkN, va_sOk1, va_slLo, va_slHi, va_slBoth, va_slLoC, va_slHiC, va_slBothC, va_nilHi, va_nilLo, va_nilNone, e]
    · have heq : x[s] = y[s]'(by omega) := by
        have := of_decide_eq_true hd
        exact UInt8.toNat_inj.1 (by omega)
      simp -implicitDefEqProofs (disch := first | omega | decide | exact rfl | exact Nat.le_of_ble_eq_true rfl | assumption | (simp only [List.length_append, List.length_cons, List.length_nil, List.drop_zero, List.length_drop] <;> omega)) only [vwp_skip, vwp_ret, vwp_exit, vwp_lab, vwp_seq, vwp_cond, vwp_block, vwp_scope, vwp_region, vwp_draw, vwp_loop, vwp_range, vcnd_tt, vcnd_ff, vthen_normal, vthen_ret, vthen_exit, vblock_normal, vblock_ret, vblock_exit, vreg_nil, vreg_cons, vhl_nil, vhl_op, vhl_guard, vguard_tt, vguard_ff, vguard_tf, vguard_ft, vguard_no, vact_op, vop_some, vput_some, vput_none, vsame_sm, vunit_sm, vget_nil, vget_cons, vget_some,
    vo_mv, vo_bin, vo_un, vo_ext, vo_len, vo_idxS, vo_idxStr, vo_load, vo_pick, vo_append, vo_bslice, evp, vo_nilc, vo_faddr, vo_store, vo_sliceSl, vo_sliceStr, vo_cInt, vo_copy, vo_mkSlice, vo_box, vo_build, vo_b2s, vb2s_sl, vb2s_nil, vcInt, vnil_ptr, vo_mkMap, vo_mkfn, vo_lookup, vo_mapUpd, vo_del, vdel_some, vo_rangeMap, vo_entry, vfaddr_ptr, beq_self_eq_true, eq_self, decide_true, decide_false, vb_lss, vb_leq, vb_gtr, vb_geq, vb_eql, vb_neq, vb_seql, vb_sneq, vb_beql, vb_bneq, vun_not, vlen_str, vlen_sl, vlen_nil, vext_tup, HX.ev, List.length_cons, List.length_nil, List.append_nil, List.nil_append, List.cons_append, List.set_cons_succ, List.set_cons_zero, List.getElem?_cons_succ, List.getElem?_cons_zero, Option.getD_some, Option.map_some, Option.map_none, List.map_cons, List.map_nil, if_true, Bool.not_true, Bool.not_false, Bool.false_eq_true, if_false, va_load, va_ld, va_loadA, va_ldA, va_store, va_st1, va_stn, va_kill0, va_killS, va_box1, va_boxA, get_base, get_base0, set_base, set_base0, List.length_append, Nat.reduceAdd, Nat.zero_add, List.append_assoc, vo_s2b, vo_minmax, va_min2, va_max2, va_minl, List.drop_zero, List.drop_succ_cons, List.take_succ_cons, List.take_zero, vdr_nil, vdr_cons, vdr_op, vdr_some, vdr_loud, vdr_lsome, HOp.looks, vholds_cons, vholds_nil, implies_true, true_and, and_true, vres_tmp, vres_tmp2, vres_none, vres_cell1, vres_k, vres_cell2, vres_k2, vend_ret, vend_normal, vex_some, vdr_guard, vdg_tt, vdg_ff, vdg_tf, vdg_ft, vdg_no, vo_pick, va_s2b, va_takeS, va_takeN, va_app, va_apB, va_ap0, vsadd, Nat.reduceEqDiff, va_sOk, va_sOkN, va_sOk1, va_slLo, va_slHi, va_slBoth, va_slLoC, va_slHiC, va_slBothC, va_nilHi, va_nilLo, va_nilNone, vadd1]
      refine ⟨s + 1, by omega, ⟨by omega, ?_⟩, by (repeat first | exact Less.nil | refine Less.undef _ ?_ | refine Less.keep _ ?_)⟩
      rw [List.take_add_one, List.take_add_one, hs2, gx, gy, heq]
  · obtain rfl : s = x.length := by omega
    have hlt : decide (((x.length : Nat) : Int) < (x.length : Nat)) = false := by simp
    have e : (x == y) = true := by
      rw [List.take_of_length_le (Nat.le_refl _), List.take_of_length_le (by omega)] at hs2
      rw [hs2]; simp
    simp -implicitDefEqProofs (disch := first | omega | decide | exact rfl | exact Nat.le_of_ble_eq_true rfl | assumption | (simp only [List.length_append, List.length_cons, List.length_nil, List.drop_zero, List.length_drop] <;> omega)) only [vwp_skip, vwp_ret, vwp_exit, vwp_lab, vwp_seq, vwp_cond, vwp_block, vwp_scope, vwp_region, vwp_draw, vwp_loop, vwp_range, vcnd_tt, vcnd_ff, vthen_normal, vthen_ret, vthen_exit, vblock_normal, vblock_ret, vblock_exit, vreg_nil, vreg_cons, vhl_nil, vhl_op, vhl_guard, vguard_tt, vguard_ff, vguard_tf, vguard_ft, vguard_no, vact_op, vop_some, vput_some, vput_none, vsame_sm, vunit_sm, vget_nil, vget_cons, vget_some,
    vo_mv, vo_bin, vo_un, vo_ext, vo_len, vo_idxS, vo_idxStr, vo_load, vo_pick, vo_append, vo_bslice, evp, vo_nilc, vo_faddr, vo_store, vo_sliceSl, vo_sliceStr, vo_cInt, vo_copy, vo_mkSlice, vo_box, vo_build, vo_b2s, vb2s_sl, vb2s_nil, vcInt, vnil_ptr, vo_mkMap, vo_mkfn, vo_lookup, vo_mapUpd, vo_del, vdel_some, vo_rangeMap, vo_entry, vfaddr_ptr, beq_self_eq_true, eq_self, decide_true, decide_false, vb_lss, vb_leq, vb_gtr, vb_geq, vb_eql, vb_neq, vb_seql, vb_sneq, vb_beql, vb_bneq, vun_not, vlen_str, vlen_sl, vlen_nil, vext_tup, HX.ev, List.length_cons, List.length_nil, List.append_nil, List.nil_append, List.cons_append, List.set_cons_succ, List.set_cons_zero, List.getElem?_cons_succ, List.getElem?_cons_zero, Option.getD_some, Option.map_some, Option.map_none, List.map_cons, List.map_nil, if_true, Bool.not_true, Bool.not_false, Bool.false_eq_true, if_false, va_load, va_ld, va_loadA, va_ldA, va_store, va_st1, va_stn, va_kill0, va_killS, va_box1, va_boxA, get_base, get_base0, set_base, set_base0, List.length_append, Nat.reduceAdd, Nat.zero_add, List.append_assoc, vo_s2b, vo_minmax, va_min2, va_max2, va_minl, List.drop_zero, List.drop_succ_cons, List.take_succ_cons, List.take_zero, vdr_nil, vdr_cons, vdr_op, vdr_some, vdr_loud, vdr_lsome, HOp.looks, vholds_cons, vholds_nil, implies_true, true_and, and_true, vres_tmp, vres_tmp2, vres_none, vres_cell1, vres_k, vres_cell2, vres_k2, vend_ret, vend_normal, vex_some, vdr_guard, vdg_tt, vdg_ff, vdg_tf, vdg_ft, vdg_no, vo_pick, va_s2b, va_takeS, va_takeN, va_app, va_apB, va_ap0, vsadd, Nat.reduceEqDiff, va_sOk, va_sOkN, va_sOk1, va_slLo, va_slHi, va_slBoth, va_slLoC, va_slHiC, va_slBothC, va_nilHi, va_nilLo, va_nilNone, la, hlt, e]

theorem sameReply24R {hs : HS} {a b : HV} {x y : List UInt8} (ha : ∀ L, Rd (hs ++ L) 1 a x.length (bcells x)) (hb : ∀ L, Rd (hs ++ L) 1 b y.length (bcells y)) (hx : x.length < 9223372036854775808) (hy : y.length < 9223372036854775808) (k id num k' id' num' : Int) (t t' : List UInt8) :
    HC Tryd.prog 24 [.agg [.int .i64 k, .int .i64 id, .int .i64 num, .str t, a], .agg [.int .i64 k', .int .i64 id', .int .i64 num', .str t', b]] hs fun v hs' => v = .bool (decide (k = k' ∧ id = id' ∧ num = num' ∧ t = t') && (x == y)) ∧ hs' = hs := by
  refine HC.drop (Q := fun v => v = .bool (decide (k = k' ∧ id = id' ∧ num = num' ∧ t = t') && (x == y))) ?_
  have ia := (ha []).one
  have ib := (hb []).one
  have hbo : hbox hs (.agg [.int .i64 k, .int .i64 id, .int .i64 num, .str t, a]) = some (.ptr hs.length 0, hs ++ [some (.cells 1 [.int .i64 k, .int .i64 id, .int .i64 num, .str t, a] false false [])]) := va_boxA (by simp only [List.all_cons, List.all_nil, ia]; rfl)
  have hbo2 : ∀ g, hbox g (.agg [.int .i64 k', .int .i64 id', .int .i64 num', .str t', b]) = some (.ptr g.length 0, g ++ [some (.cells 1 [.int .i64 k', .int .i64 id', .int .i64 num', .str t', b] false false [])]) := fun g => va_boxA (by simp only [List.all_cons, List.all_nil, ib]; rfl)
  refine HC.wp mixed Tryd.func24 c24 ?_
  simp -implicitDefEqProofs (disch := first | omega | decide | exact rfl | exact Nat.le_of_ble_eq_true rfl | assumption | (simp only [List.length_append, List.length_cons, List.length_nil, List.drop_zero, List.length_drop] <;> omega)) only [vwp_skip, vwp_ret, vwp_exit, vwp_lab, vwp_seq, vwp_cond, vwp_block, vwp_scope, vwp_region, vwp_draw, vwp_loop, vwp_range, vcnd_tt, vcnd_ff, vthen_normal, vthen_ret, vthen_exit, vblock_normal, vblock_ret, vblock_exit, vreg_nil, vreg_cons, vhl_nil, vhl_op, vhl_guard, vguard_tt, vguard_ff, vguard_tf, vguard_ft, vguard_no, vact_op, vop_some, vput_some, vput_none, vsame_sm, vunit_sm, vget_nil, vget_cons, vget_some,
    vo_mv, vo_bin, vo_un, vo_ext, vo_len, vo_idxS, vo_idxStr, vo_load, vo_pick, vo_append, vo_bslice, evp, vo_nilc, vo_faddr, vo_store, vo_sliceSl, vo_sliceStr, vo_cInt, vo_copy, vo_mkSlice, vo_box, vo_build, vo_b2s, vb2s_sl, vb2s_nil, vcInt, vnil_ptr, vo_mkMap, vo_mkfn, vo_lookup, vo_mapUpd, vo_del, vdel_some, vo_rangeMap, vo_entry, vfaddr_ptr, beq_self_eq_true, eq_self, decide_true, decide_false, vb_lss, vb_leq, vb_gtr, vb_geq, vb_eql, vb_neq, vb_seql, vb_sneq, vb_beql, vb_bneq, vun_not, vlen_str, vlen_sl, vlen_nil, vext_tup, HX.ev, List.length_cons, List.length_nil, List.append_nil, List.nil_append, List.cons_append, List.set_cons_succ, List.set_cons_zero, List.getElem?_cons_succ, List.getElem?_cons_zero, Option.getD_some, Option.map_some, Option.map_none, List.map_cons, List.map_nil, if_true, Bool.not_true, Bool.not_false, Bool.false_eq_true, if_false, va_load, va_ld, va_loadA, va_ldA, va_store, va_st1, va_stn, va_kill0, va_killS, va_box1, va_boxA, get_base, get_base0, set_base, set_base0, List.length_append, Nat.reduceAdd, Nat.zero_add, List.append_assoc, vo_s2b, vo_minmax, va_min2, va_max2, va_minl, List.drop_zero, List.drop_succ_cons, List.take_succ_cons, List.take_zero, vdr_nil, vdr_cons, vdr_op, vdr_some, vdr_loud, vdr_lsome, HOp.looks, vholds_cons, vholds_nil, implies_true, true_and, and_true, vres_tmp, vres_tmp2, vres_none, vres_cell1, vres_k, vres_cell2, vres_k2, vend_ret, vend_normal, vex_some, vdr_guard, vdg_tt, vdg_ff, vdg_tf, vdg_ft, vdg_no, vo_pick, va_s2b, va_takeS, va_takeN, va_app, va_apB, va_ap0, vsadd, Nat.reduceEqDiff, va_sOk, va_sOkN, va_sOk1, va_slLo, va_slHi, va_slBoth, va_slLoC, va_slHiC, va_slBothC, va_nilHi, va_nilLo, va_nilNone, h24, hbo, hbo2, frame0, List.replicate, Nat.sub]
  have p1 := fun L => same14R (ha L) (hb L) hx hy
  clear ha hb hbo hbo2
  repeat' first
    | simp -implicitDefEqProofs (disch := first | omega | decide | exact rfl | exact Nat.le_of_ble_eq_true rfl | assumption | (simp only [List.length_append, List.length_cons, List.length_nil, List.drop_zero, List.length_drop] <;> omega)) only [vwp_skip, vwp_ret, vwp_exit, vwp_lab, vwp_seq, vwp_cond, vwp_block, vwp_scope, vwp_region, vwp_draw, vwp_loop, vwp_range, vcnd_tt, vcnd_ff, vthen_normal, vthen_ret, vthen_exit, vblock_normal, vblock_ret, vblock_exit, vreg_nil, vreg_cons, vhl_nil, vhl_op, vhl_guard, vguard_tt, vguard_ff, vguard_tf, vguard_ft, vguard_no, vact_op, vop_some, vput_some, vput_none, vsame_sm, vunit_sm, vget_nil, vget_cons, vget_some,
    vo_mv, vo_bin, vo_un, vo_ext, vo_len, vo_idxS, vo_idxStr, vo_load, vo_pick, vo_append, vo_bslice, evp, vo_nilc, vo_faddr, vo_store, vo_sliceSl, vo_sliceStr, vo_cInt, vo_copy, vo_mkSlice, vo_box, vo_build, vo_b2s, vb2s_sl, vb2s_nil, vcInt, vnil_ptr, vo_mkMap, vo_mkfn, vo_lookup, vo_mapUpd, vo_del, vdel_some, vo_rangeMap, vo_entry, vfaddr_ptr, beq_self_eq_true, eq_self, decide_true, decide_false, vb_lss, vb_leq, vb_gtr, vb_geq, vb_eql, vb_neq, vb_seql, vb_sneq, vb_beql, vb_bneq, vun_not, vlen_str, vlen_sl, vlen_nil, vext_tup, HX.ev, List.length_cons, List.length_nil, List.append_nil, List.nil_append, List.cons_append, List.set_cons_succ, List.set_cons_zero, List.getElem?_cons_succ, List.getElem?_cons_zero, Option.getD_some, Option.map_some, Option.map_none, List.map_cons, List.map_nil, if_true, Bool.not_true, Bool.not_false, Bool.false_eq_true, if_false, va_load, va_ld, va_loadA, va_ldA, va_store, va_st1, va_stn, va_kill0, va_killS, va_box1, va_boxA, get_base, get_base0, set_base, set_base0, List.length_append, Nat.reduceAdd, Nat.zero_add, List.append_assoc, vo_s2b, vo_minmax, va_min2, va_max2, va_minl, List.drop_zero, List.drop_succ_cons, List.take_succ_cons, List.take_zero, vdr_nil, vdr_cons, vdr_op, vdr_some, vdr_loud, vdr_lsome, HOp.looks, vholds_cons, vholds_nil, implies_true, true_and, and_true, vres_tmp, vres_tmp2, vres_none, vres_cell1, vres_k, vres_cell2, vres_k2, vend_ret, vend_normal, vex_some, vdr_guard, vdg_tt, vdg_ff, vdg_tf, vdg_ft, vdg_no, vo_pick, va_s2b, va_takeS, va_takeN, va_app, va_apB, va_ap0, vsadd, Nat.reduceEqDiff, va_sOk, va_sOkN, va_sOk1, va_slLo, va_slHi, va_slBoth, va_slLoC, va_slHiC, va_slBothC, va_nilHi, va_nilLo, va_nilNone, *]
    | refine condK_cases (fun h => ?_) (fun h => ?_)
    | refine guardK_cases (fun h => ?_) (fun h => ?_)
    | refine dgK_cases (fun h => ?_) (fun h => ?_)
    | (refine vcall_of ok14 rfl (p1 _) ?_; rintro _ _ ⟨rfl, rfl⟩)
    | (refine vdr_call ok14 rfl (p1 _) ?_; rintro _ _ ⟨rfl, rfl⟩)
    | refine hwp_draw mixed rfl ?_

  all_goals
    refine ⟨⟨_, rfl⟩, rfl, ?_⟩
    simp_all
end A
end Go.Proofs.YthihchoccpnfeaaDoor
namespace Go.Proofs.YthihchoccpnfeaaDoor
open Go Go.HL Go.Shelf V
namespace A
set_option maxRecDepth 100000
set_option maxHeartbeats 40000000
set_option linter.unusedSimpArgs false
attribute [local irreducible] pt My Ex Vw Gr GrK each grp exs Sat takeCells happend hbuildSlice hstore hbox hslice hmakeSlice hs2b hcopy HL.unit opC
/-- what Put tells. -/
def putB (k id num : Int) (t b : List UInt8) : List UInt8 := if checkF k id num t b.length = 0 then putF k id num t b else []
theorem put12S {hs : HS} {l : List SA} {bv : HV} {b : List UInt8} (H : Sat hs l) (R : Rdl l bv b.length (bcells b)) (G : ∀ hs, Sat hs l → hasTab hs 1 .u64 Lib.pow10Tab = true)
    (k id num : Int) (hid : -9223372036854775808 ≤ id ∧ id ≤ 9223372036854775807) (hnum : -9223372036854775808 ≤ num ∧ num ≤ 9223372036854775807) (t : List UInt8) (htl : t.length ≤ 140737488351232) :
    HC Tryd.prog 12 [.agg [.int .i64 k, .int .i64 id, .int .i64 num, .str t, bv]] hs fun v hs' => ∃ w, v = .tup [w, .int .i64 (checkF k id num t b.length)] ∧ Sat hs' (My 1 w (putB k id num t b).length (bcells (putB k id num t b)) :: l) := by
  refine (put12 (R _ H).one (R _ H).cells (R _ H).len (fun L => (R _ H.more).take) (fun L => G _ H.more) k id num hid hnum t htl).mono fun v hs' h => ?_
  by_cases hc : checkF k id num t b.length = 0
  · rw [if_pos hc] at h
    obtain ⟨rfl, rfl⟩ := h
    refine ⟨_, by rw [hc], ?_⟩
    unfold putB
    rw [if_pos hc]
    exact Sat.ownN (H.push rfl) (by simp [bcells])
  · rw [if_neg hc] at h
    obtain ⟨rfl, rfl⟩ := h
    refine ⟨_, rfl, ?_⟩
    unfold putB
    rw [if_neg hc]
    exact Sat.own0 H
theorem sameReply24S {hs : HS} {l : List SA} {a b : HV} {x y : List UInt8} (H : Sat hs l) (Ra : Rdl l a x.length (bcells x)) (Rb : Rdl l b y.length (bcells y)) (hx : x.length < 9223372036854775808) (hy : y.length < 9223372036854775808) (k id num k' id' num' : Int) (t t' : List UInt8) :
    HC Tryd.prog 24 [.agg [.int .i64 k, .int .i64 id, .int .i64 num, .str t, a], .agg [.int .i64 k', .int .i64 id', .int .i64 num', .str t', b]] hs fun v hs' => v = .bool (decide (k = k' ∧ id = id' ∧ num = num' ∧ t = t') && (x == y)) ∧ Sat hs' l :=
  (sameReply24R (fun L => Ra _ H.more) (fun L => Rb _ H.more) hx hy k id num k' id' num' t t').mono fun v hs' h => ⟨h.1, by rw [h.2]; exact H⟩
/-- a reply that was handed in. -/
structure AE where
  w : HV
  k : Int
  id : Int
  num : Int
  t : List UInt8
  b : List UInt8
def AE.cells (e : AE) : List HV := [.int .i64 e.k, .int .i64 e.id, .int .i64 e.num, .str e.t, e.w]
end A
end Go.Proofs.YthihchoccpnfeaaDoor
namespace Go.Proofs.YthihchoccpnfeaaDoor
open Go Go.HL Go.Shelf V
namespace A
set_option maxRecDepth 100000
set_option linter.unusedSimpArgs false
def AE.put (e : AE) : List UInt8 := putB e.k e.id e.num e.t e.b
def AE.ok (e : AE) : Bool := decide (checkF e.k e.id e.num e.t e.b.length = 0)
end A
end Go.Proofs.YthihchoccpnfeaaDoor
