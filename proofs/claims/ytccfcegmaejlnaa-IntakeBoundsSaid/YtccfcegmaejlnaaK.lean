/-
  stintlaw06.book: bodies that were handed out are laid by, and read as they must.
-/
import Derived.Test.YtccfcegmaejlnaaF
import Derived.Test.YtccfcegmaejlnaaHLKeep
namespace Go.Proofs.Ytccfcegmaejlnaa
open Go Go.HL
set_option maxRecDepth 100000
set_option maxHeartbeats 40000000
set_option linter.unusedSimpArgs false
attribute [local irreducible] pt My Ex Vw Gr GrK each grp exs Sat takeCells happend hbuildSlice hstore hbox hslice hmakeSlice hs2b hcopy HL.unit opC
theorem mixed : Try.prog.follows .mixedOrders = true := by kernel_rfl
theorem ok12 : okF Try.prog 12 := ⟨_, Try.func12, by kernel_rfl, by kernel_rfl⟩
theorem ok16 : okF Try.prog 16 := ⟨_, Try.func16, by kernel_rfl, by kernel_rfl⟩
theorem ok33 : okF Try.prog 33 := ⟨_, Try.func33, by kernel_rfl, by kernel_rfl⟩
theorem ok35 : okF Try.prog 35 := ⟨_, Try.func35, by kernel_rfl, by kernel_rfl⟩
theorem keep35 {hs : HS} {F : List SA} {d : Nat} {a b vo vw f lt v : HV} {E1 E2 : List En} {bs : List UInt8} (H : Sat hs (pt d (.cells 1 [a, b, vo, vw, f, lt] false false []) :: Ex 1 v bs.length (bcells bs) :: Bk vo vw E1 E2 :: F))
    (hn : (E1 ++ E2).length < 1073741824000) (hb : bs.length < 4611686018427) :
    HC Try.prog 35 [.ptr d 2, v] hs fun _ hs' => ∃ vo' vw' w, Sat hs' (pt d (.cells 1 [a, b, vo', vw', f, lt] false false []) :: Bk vo' vw' E1 (E2 ++ [⟨v, w, bs⟩]) :: F) := by
  have H := (bk_open.1 H.p2)
  have hmax : maxLen = 9223372036854775807 := rfl
  refine HC.wp mixed Try.func35 c35 ?_
  first | have f0 := (H).get | have f0 := Sat.fx (H) | have f0 := Sat.fxX (H) | have f0 := trivial
  first | have f1 := (H.t).get | have f1 := Sat.fx (H.t) | have f1 := Sat.fxX (H.t) | have f1 := trivial
  first | have f2 := (H.t.t).get | have f2 := Sat.fx (H.t.t) | have f2 := Sat.fxX (H.t.t) | have f2 := trivial
  first | have f3 := (H.t.t.t).get | have f3 := Sat.fx (H.t.t.t) | have f3 := Sat.fxX (H.t.t.t) | have f3 := trivial
  first | have f4 := (H.t.t.t.t).get | have f4 := Sat.fx (H.t.t.t.t) | have f4 := Sat.fxX (H.t.t.t.t) | have f4 := trivial
  first | have f5 := (H.t.t.t.t.t).get | have f5 := Sat.fx (H.t.t.t.t.t) | have f5 := Sat.fxX (H.t.t.t.t.t) | have f5 := trivial
  first | have f6 := (H.t.t.t.t.t.t).get | have f6 := Sat.fx (H.t.t.t.t.t.t) | have f6 := Sat.fxX (H.t.t.t.t.t.t) | have f6 := trivial
  first | have f7 := (H.t.t.t.t.t.t.t).get | have f7 := Sat.fx (H.t.t.t.t.t.t.t) | have f7 := Sat.fxX (H.t.t.t.t.t.t.t) | have f7 := trivial
  repeat' first
    | simp -implicitDefEqProofs (disch := first | omega | decide | exact rfl | assumption | exact Nat.le_of_ble_eq_true rfl | exact cl_int | exact cl_str | exact cl_bool | exact cl_nsl | exact cl_ptr | exact cl_sl | exact cl_nptr | exact cl_map | exact cl_nmap | exact cl_fn | exact cl_nfn | exact cl_ifc | exact cl_nifc | exact on_int | exact on_str | exact on_bool | exact on_nsl | exact on_ptr | exact on_sl | exact on_map | exact on_fn | exact on_ifc) only [vsA, evp, beq_self_eq_true, eq_self, decide_true, decide_false, HX.ev, List.length_cons, List.length_nil, List.append_nil, List.nil_append, List.cons_append, List.set_cons_succ, List.set_cons_zero, List.getElem?_cons_succ, List.getElem?_cons_zero, Option.getD_some, Option.map_some, Option.map_none, List.map_cons, List.map_nil, if_true, Bool.not_true, Bool.not_false, Bool.false_eq_true, if_false, Nat.reduceAdd, Nat.zero_add, List.drop_zero, List.drop_succ_cons, List.take_succ_cons, List.take_zero, HOp.looks, implies_true, true_and, and_true, Nat.reduceEqDiff, overw, List.getD_cons_succ, List.getD_cons_zero, List.contains_cons, List.contains_nil, Nat.reduceBEq, Bool.or_false, Bool.true_eq_false, false_implies, Bool.or_true, Bool.true_or, Bool.false_or, Nat.add_zero, h35, ub35, f0, f1, f2, f3, f4, f5, f6, f7, frame0, List.replicate, Nat.sub]
    | (refine condK_cases (fun h => ?_) (fun h => ?_) <;> (try simp only [h]) <;> (try simp only [decide_eq_true_eq, decide_eq_false_iff_not, Bool.not_eq_true', Bool.not_eq_false', beq_iff_eq, bne_iff_ne, Bool.not_eq_false, beq_eq_false_iff_ne, ne_eq] at h) <;> (try (exfalso; omega)))
    | (refine guardK_cases (fun h => ?_) (fun h => ?_) <;> (try simp only [h]) <;> (try simp only [decide_eq_true_eq, decide_eq_false_iff_not, Bool.not_eq_true', Bool.not_eq_false', beq_iff_eq, bne_iff_ne, Bool.not_eq_false, beq_eq_false_iff_ne, ne_eq] at h) <;> (try (exfalso; omega)))
    | (refine dgK_cases (fun h => ?_) (fun h => ?_) <;> (try simp only [h]) <;> (try simp only [decide_eq_true_eq, decide_eq_false_iff_not, Bool.not_eq_true', Bool.not_eq_false', beq_iff_eq, bne_iff_ne, Bool.not_eq_false, beq_eq_false_iff_ne, ne_eq] at h) <;> (try (exfalso; omega)))
    | (clear H f0 f1 f2 f3 f4 f5 f6 f7; (with_reducible intro v2 hs H); (try simp only [List.set_cons_succ, List.set_cons_zero, overw, List.take_succ_cons, List.take_zero, List.drop_succ_cons, List.drop_zero, List.cons_append, List.nil_append, List.length_cons, List.length_nil, Nat.reduceAdd] at H); (first | have f0 := (H).get | have f0 := Sat.fx (H) | have f0 := Sat.fxX (H) | have f0 := trivial); (first | have f1 := (H.t).get | have f1 := Sat.fx (H.t) | have f1 := Sat.fxX (H.t) | have f1 := trivial); (first | have f2 := (H.t.t).get | have f2 := Sat.fx (H.t.t) | have f2 := Sat.fxX (H.t.t) | have f2 := trivial); (first | have f3 := (H.t.t.t).get | have f3 := Sat.fx (H.t.t.t) | have f3 := Sat.fxX (H.t.t.t) | have f3 := trivial); (first | have f4 := (H.t.t.t.t).get | have f4 := Sat.fx (H.t.t.t.t) | have f4 := Sat.fxX (H.t.t.t.t) | have f4 := trivial); (first | have f5 := (H.t.t.t.t.t).get | have f5 := Sat.fx (H.t.t.t.t.t) | have f5 := Sat.fxX (H.t.t.t.t.t) | have f5 := trivial); (first | have f6 := (H.t.t.t.t.t.t).get | have f6 := Sat.fx (H.t.t.t.t.t.t) | have f6 := Sat.fxX (H.t.t.t.t.t.t) | have f6 := trivial); (first | have f7 := (H.t.t.t.t.t.t.t).get | have f7 := Sat.fx (H.t.t.t.t.t.t.t) | have f7 := Sat.fxX (H.t.t.t.t.t.t.t) | have f7 := trivial))
    | refine opC_K ?_
    | refine opC_D ?_
    | (refine sl_store1 (by first | with_reducible exact H | with_reducible exact H.p1 | with_reducible exact H.p2 | with_reducible exact H.p3 | with_reducible exact H.p4 | with_reducible exact H.p5 | with_reducible exact H.p6 | with_reducible exact H.p7) (Nat.le_of_ble_eq_true rfl) (by first | exact rfl | (simp only [f0, f1, f2, f3, f4, f5, f6, f7]; done) | (simp only [List.length_cons, List.all_cons, List.all_nil, on_int, on_str, on_bool, on_ptr, on_nptr, on_sl, on_nsl, on_map, on_nmap, on_fn, on_nfn, on_ifc, on_nifc, Bool.true_and, Bool.and_true, Bool.and_self, *]; done)) (by first | exact rfl | (simp only [f0, f1, f2, f3, f4, f5, f6, f7]; done) | (simp only [List.length_cons, List.all_cons, List.all_nil, on_int, on_str, on_bool, on_ptr, on_nptr, on_sl, on_nsl, on_map, on_nmap, on_fn, on_nfn, on_ifc, on_nifc, Bool.true_and, Bool.and_true, Bool.and_self, *]; done)) ?_)
    | (refine sl_storeN (by first | with_reducible exact H | with_reducible exact H.p1 | with_reducible exact H.p2 | with_reducible exact H.p3 | with_reducible exact H.p4 | with_reducible exact H.p5 | with_reducible exact H.p6 | with_reducible exact H.p7) rfl (Nat.le_of_ble_eq_true rfl) (by first | exact rfl | (simp only [f0, f1, f2, f3, f4, f5, f6, f7]; done) | (simp only [List.length_cons, List.all_cons, List.all_nil, on_int, on_str, on_bool, on_ptr, on_nptr, on_sl, on_nsl, on_map, on_nmap, on_fn, on_nfn, on_ifc, on_nifc, Bool.true_and, Bool.and_true, Bool.and_self, *]; done)) ?_)
    | (refine sl_append (by first | with_reducible exact H | with_reducible exact H.p1 | with_reducible exact H.p2 | with_reducible exact H.p3 | with_reducible exact H.p4 | with_reducible exact H.p5 | with_reducible exact H.p6 | with_reducible exact H.p7) (by first | assumption | with_reducible exact f0.2.1 | with_reducible exact f1.2.1 | with_reducible exact f2.2.1 | with_reducible exact f3.2.1 | with_reducible exact f4.2.1 | with_reducible exact f5.2.1 | with_reducible exact f6.2.1 | with_reducible exact f7.2.1 | with_reducible exact va_takeS) (by first | exact roomFor_of (by omega) | exact roomFor_wide (by omega)) (by omega) ?_)
    | (refine sl_append0X H (by first | assumption | with_reducible exact f0.2.1 | with_reducible exact f1.2.1 | with_reducible exact f2.2.1 | with_reducible exact f3.2.1 | with_reducible exact f4.2.1 | with_reducible exact f5.2.1 | with_reducible exact f6.2.1 | with_reducible exact f7.2.1 | with_reducible exact va_takeS) (by first | exact roomFor_of (by omega) | exact roomFor_wide (by omega)) (by omega) ?_)
    | (refine sl_appendX (by first | with_reducible exact H | with_reducible exact H.p1 | with_reducible exact H.p2 | with_reducible exact H.p3 | with_reducible exact H.p4 | with_reducible exact H.p5 | with_reducible exact H.p6 | with_reducible exact H.p7) (by first | assumption | with_reducible exact f0.2.1 | with_reducible exact f1.2.1 | with_reducible exact f2.2.1 | with_reducible exact f3.2.1 | with_reducible exact f4.2.1 | with_reducible exact f5.2.1 | with_reducible exact f6.2.1 | with_reducible exact f7.2.1 | with_reducible exact va_takeS) (by first | exact roomFor_of (by omega) | exact roomFor_wide (by omega)) (by omega) ?_)
    | (refine sl_bslice1 H rfl (by first | exact rfl | (simp only [f0, f1, f2, f3, f4, f5, f6, f7]; done) | (simp only [List.length_cons, List.all_cons, List.all_nil, on_int, on_str, on_bool, on_ptr, on_nptr, on_sl, on_nsl, on_map, on_nmap, on_fn, on_nfn, on_ifc, on_nifc, Bool.true_and, Bool.and_true, Bool.and_self, *]; done)) (by first | exact rfl | (simp only [f0, f1, f2, f3, f4, f5, f6, f7]; done) | (simp only [List.length_cons, List.all_cons, List.all_nil, on_int, on_str, on_bool, on_ptr, on_nptr, on_sl, on_nsl, on_map, on_nmap, on_fn, on_nfn, on_ifc, on_nifc, Bool.true_and, Bool.and_true, Bool.and_self, *]; done)) ?_)
    | (refine sl_box1 H (by first | exact rfl | (simp only [f0, f1, f2, f3, f4, f5, f6, f7]; done) | (simp only [List.length_cons, List.all_cons, List.all_nil, on_int, on_str, on_bool, on_ptr, on_nptr, on_sl, on_nsl, on_map, on_nmap, on_fn, on_nfn, on_ifc, on_nifc, Bool.true_and, Bool.and_true, Bool.and_self, *]; done)) (by first | exact rfl | (simp only [f0, f1, f2, f3, f4, f5, f6, f7]; done) | (simp only [List.length_cons, List.all_cons, List.all_nil, on_int, on_str, on_bool, on_ptr, on_nptr, on_sl, on_nsl, on_map, on_nmap, on_fn, on_nfn, on_ifc, on_nifc, Bool.true_and, Bool.and_true, Bool.and_self, *]; done)) ?_)
    | (refine sl_boxA H (by first | exact rfl | (simp only [f0, f1, f2, f3, f4, f5, f6, f7]; done) | (simp only [List.length_cons, List.all_cons, List.all_nil, on_int, on_str, on_bool, on_ptr, on_nptr, on_sl, on_nsl, on_map, on_nmap, on_fn, on_nfn, on_ifc, on_nifc, Bool.true_and, Bool.and_true, Bool.and_self, *]; done)) ?_)
    | refine hwp_draw mixed rfl ?_
    | with_reducible intro hy

  exact ⟨_, _, _, (bk_push ⟨v, _, bs⟩ H.p5.p5.p4.p6.p5.p6).p1⟩

theorem same33 {hs : HS} {a b : HV} {x y : List UInt8} (A : Rd hs 1 a x.length (bcells x)) (B : Rd hs 1 b y.length (bcells y)) (hx : x.length < 4611686018427387904) : HC Try.prog 33 [a, b] hs fun v hs' => v = .bool (x == y) ∧ hs' = hs := by
  have la := A.len hs
  have lb := B.len hs
  refine HC.wp mixed Try.func33 c33 ?_
  repeat' first
    | simp -implicitDefEqProofs (disch := first | omega | decide | exact rfl | assumption | exact Nat.le_of_ble_eq_true rfl | exact cl_int | exact cl_str | exact cl_bool | exact cl_nsl | exact cl_ptr | exact cl_sl | exact cl_nptr | exact cl_map | exact cl_nmap | exact cl_fn | exact cl_nfn | exact cl_ifc | exact cl_nifc | exact on_int | exact on_str | exact on_bool | exact on_nsl | exact on_ptr | exact on_sl | exact on_map | exact on_fn | exact on_ifc) only [vsA, evp, beq_self_eq_true, eq_self, decide_true, decide_false, HX.ev, List.length_cons, List.length_nil, List.append_nil, List.nil_append, List.cons_append, List.set_cons_succ, List.set_cons_zero, List.getElem?_cons_succ, List.getElem?_cons_zero, Option.getD_some, Option.map_some, Option.map_none, List.map_cons, List.map_nil, if_true, Bool.not_true, Bool.not_false, Bool.false_eq_true, if_false, Nat.reduceAdd, Nat.zero_add, List.drop_zero, List.drop_succ_cons, List.take_succ_cons, List.take_zero, HOp.looks, implies_true, true_and, and_true, Nat.reduceEqDiff, overw, List.getD_cons_succ, List.getD_cons_zero, List.contains_cons, List.contains_nil, Nat.reduceBEq, Bool.or_false, Bool.true_eq_false, false_implies, Bool.or_true, Bool.true_or, Bool.false_or, Nat.add_zero, h33, la, lb, ub33, frame0, List.replicate, Nat.sub]
    | (refine condK_cases (fun h => ?_) (fun h => ?_) <;> (try simp only [h]) <;> (try simp only [decide_eq_true_eq, decide_eq_false_iff_not, Bool.not_eq_true', Bool.not_eq_false', beq_iff_eq, bne_iff_ne, Bool.not_eq_false, beq_eq_false_iff_ne, ne_eq] at h) <;> (try (exfalso; omega)))
    | (refine guardK_cases (fun h => ?_) (fun h => ?_) <;> (try simp only [h]) <;> (try simp only [decide_eq_true_eq, decide_eq_false_iff_not, Bool.not_eq_true', Bool.not_eq_false', beq_iff_eq, bne_iff_ne, Bool.not_eq_false, beq_eq_false_iff_ne, ne_eq] at h) <;> (try (exfalso; omega)))
    | (refine dgK_cases (fun h => ?_) (fun h => ?_) <;> (try simp only [h]) <;> (try simp only [decide_eq_true_eq, decide_eq_false_iff_not, Bool.not_eq_true', Bool.not_eq_false', beq_iff_eq, bne_iff_ne, Bool.not_eq_false, beq_eq_false_iff_ne, ne_eq] at h) <;> (try (exfalso; omega)))
    | refine hwp_draw mixed rfl ?_

  · refine congrArg HV.bool (Eq.symm ?_)
    rw [beq_eq_false_iff_ne]; intro e; subst e; omega
  have hl : x.length = y.length := by omega
  refine HW.loopR mixed (fun i : Nat => (a :: b :: .undef :: .undef :: .undef :: .undef :: .undef :: .undef :: .undef :: .undef :: .undef :: .undef :: .int .i64 (x.length : Nat) :: .int .i64 (i : Nat) :: .undef :: .undef :: .undef :: .undef :: .undef :: .undef :: .undef :: .undef :: .undef :: .undef :: .undef :: .undef :: [])) (fun i => x.length - i) (fun i => i ≤ x.length ∧ x.take i = y.take i) 0 ⟨by omega, by simp⟩ (by (repeat first | exact Less.nil | refine Less.undef _ ?_ | refine Less.keep _ ?_)) ?_
  rintro i ⟨hi, he⟩
  by_cases h : i < x.length
  · have hxi : (bcells x)[i]? = some (.int .u8 (x[i].toNat)) := by simp [bcells, h]
    have hyi : (bcells y)[i]? = some (.int .u8 (y[i].toNat)) := by simp [bcells, show i < y.length by omega]
    obtain ⟨p, hp1, hp2⟩ := A.idx1 hxi .i64
    obtain ⟨q, hq1, hq2⟩ := B.idx1 hyi .i64
    have sa := A.sOk
    have sb := B.sOk
    have ey : y.take (i + 1) = y.take i ++ [y[i]] := by rw [List.take_add_one, List.getElem?_eq_getElem (by omega)]; rfl
    have ex : x.take (i + 1) = x.take i ++ [x[i]] := by rw [List.take_add_one, List.getElem?_eq_getElem h]; rfl
    repeat' first
      | simp -implicitDefEqProofs (disch := first | omega | decide | exact rfl | assumption | exact Nat.le_of_ble_eq_true rfl | exact cl_int | exact cl_str | exact cl_bool | exact cl_nsl | exact cl_ptr | exact cl_sl | exact cl_nptr | exact cl_map | exact cl_nmap | exact cl_fn | exact cl_nfn | exact cl_ifc | exact cl_nifc | exact on_int | exact on_str | exact on_bool | exact on_nsl | exact on_ptr | exact on_sl | exact on_map | exact on_fn | exact on_ifc) only [vsA, evp, beq_self_eq_true, eq_self, decide_true, decide_false, HX.ev, List.length_cons, List.length_nil, List.append_nil, List.nil_append, List.cons_append, List.set_cons_succ, List.set_cons_zero, List.getElem?_cons_succ, List.getElem?_cons_zero, Option.getD_some, Option.map_some, Option.map_none, List.map_cons, List.map_nil, if_true, Bool.not_true, Bool.not_false, Bool.false_eq_true, if_false, Nat.reduceAdd, Nat.zero_add, List.drop_zero, List.drop_succ_cons, List.take_succ_cons, List.take_zero, HOp.looks, implies_true, true_and, and_true, Nat.reduceEqDiff, overw, List.getD_cons_succ, List.getD_cons_zero, List.contains_cons, List.contains_nil, Nat.reduceBEq, Bool.or_false, Bool.true_eq_false, false_implies, Bool.or_true, Bool.true_or, Bool.false_or, Nat.add_zero, hp1, hp2, hq1, hq2, sa, sb, vadd1, ub33]
      | (refine condK_cases (fun h => ?_) (fun h => ?_) <;> (try simp only [h]) <;> (try simp only [decide_eq_true_eq, decide_eq_false_iff_not, Bool.not_eq_true', Bool.not_eq_false', beq_iff_eq, bne_iff_ne, Bool.not_eq_false, beq_eq_false_iff_ne, ne_eq] at h) <;> (try (exfalso; omega)))
      | (refine guardK_cases (fun h => ?_) (fun h => ?_) <;> (try simp only [h]) <;> (try simp only [decide_eq_true_eq, decide_eq_false_iff_not, Bool.not_eq_true', Bool.not_eq_false', beq_iff_eq, bne_iff_ne, Bool.not_eq_false, beq_eq_false_iff_ne, ne_eq] at h) <;> (try (exfalso; omega)))
      | (refine dgK_cases (fun h => ?_) (fun h => ?_) <;> (try simp only [h]) <;> (try simp only [decide_eq_true_eq, decide_eq_false_iff_not, Bool.not_eq_true', Bool.not_eq_false', beq_iff_eq, bne_iff_ne, Bool.not_eq_false, beq_eq_false_iff_ne, ne_eq] at h) <;> (try (exfalso; omega)))
      | refine hwp_draw mixed rfl ?_

    all_goals try omega
    · refine congrArg HV.bool (Eq.symm ?_)
      rw [beq_eq_false_iff_ne]; intro e; subst e; simp at h
    · have e1 : x[i] = y[i] := UInt8.toNat_inj.1 (by omega)
      exact ⟨i + 1, by omega, ⟨by omega, by rw [ex, ey, he, e1]⟩, (by (repeat first | exact Less.nil | refine Less.undef _ ?_ | refine Less.keep _ ?_))⟩
  · obtain rfl : i = x.length := by omega
    repeat' first
      | simp -implicitDefEqProofs (disch := first | omega | decide | exact rfl | assumption | exact Nat.le_of_ble_eq_true rfl | exact cl_int | exact cl_str | exact cl_bool | exact cl_nsl | exact cl_ptr | exact cl_sl | exact cl_nptr | exact cl_map | exact cl_nmap | exact cl_fn | exact cl_nfn | exact cl_ifc | exact cl_nifc | exact on_int | exact on_str | exact on_bool | exact on_nsl | exact on_ptr | exact on_sl | exact on_map | exact on_fn | exact on_ifc) only [vsA, evp, beq_self_eq_true, eq_self, decide_true, decide_false, HX.ev, List.length_cons, List.length_nil, List.append_nil, List.nil_append, List.cons_append, List.set_cons_succ, List.set_cons_zero, List.getElem?_cons_succ, List.getElem?_cons_zero, Option.getD_some, Option.map_some, Option.map_none, List.map_cons, List.map_nil, if_true, Bool.not_true, Bool.not_false, Bool.false_eq_true, if_false, Nat.reduceAdd, Nat.zero_add, List.drop_zero, List.drop_succ_cons, List.take_succ_cons, List.take_zero, HOp.looks, implies_true, true_and, and_true, Nat.reduceEqDiff, overw, List.getD_cons_succ, List.getD_cons_zero, List.contains_cons, List.contains_nil, Nat.reduceBEq, Bool.or_false, Bool.true_eq_false, false_implies, Bool.or_true, Bool.true_or, Bool.false_or, Nat.add_zero, ub33]
      | (refine condK_cases (fun h => ?_) (fun h => ?_) <;> (try simp only [h]) <;> (try simp only [decide_eq_true_eq, decide_eq_false_iff_not, Bool.not_eq_true', Bool.not_eq_false', beq_iff_eq, bne_iff_ne, Bool.not_eq_false, beq_eq_false_iff_ne, ne_eq] at h) <;> (try (exfalso; omega)))
      | (refine guardK_cases (fun h => ?_) (fun h => ?_) <;> (try simp only [h]) <;> (try simp only [decide_eq_true_eq, decide_eq_false_iff_not, Bool.not_eq_true', Bool.not_eq_false', beq_iff_eq, bne_iff_ne, Bool.not_eq_false, beq_eq_false_iff_ne, ne_eq] at h) <;> (try (exfalso; omega)))
      | (refine dgK_cases (fun h => ?_) (fun h => ?_) <;> (try simp only [h]) <;> (try simp only [decide_eq_true_eq, decide_eq_false_iff_not, Bool.not_eq_true', Bool.not_eq_false', beq_iff_eq, bne_iff_ne, Bool.not_eq_false, beq_eq_false_iff_ne, ne_eq] at h) <;> (try (exfalso; omega)))
      | refine hwp_draw mixed rfl ?_

    refine congrArg HV.bool (Eq.symm ?_)
    · rw [beq_iff_eq]
      rw [List.take_length, hl, List.take_length] at he; exact he

theorem holds12 {hs : HS} {F : List SA} {d : Nat} {a b vo vw f lt : HV} {E1 E2 : List En} (H : Sat hs (pt d (.cells 1 [a, b, vo, vw, f, lt] false false []) :: Bk vo vw E1 E2 :: F))
    (hn : (E1 ++ E2).length < 1073741824000) (hb : ∀ e ∈ E1 ++ E2, e.bs.length < 4611686018427) :
    HC Try.prog 12 [.ptr d 2] hs fun v hs' => v = .bool true ∧ hs' = hs := by
  have g := H.get
  have B := (bk_open.1 H.t)
  have ro := B.rd
  have rw := B.t.rd
  have lo := ro.len hs
  have hle : (E1 ++ E2).length = E1.length + E2.length := by simp
  have so := ro.sOk
  have sw := rw.sOk
  refine HC.wp mixed Try.func12 c12 ?_
  repeat' first
    | simp -implicitDefEqProofs (disch := first | omega | decide | exact rfl | assumption | exact Nat.le_of_ble_eq_true rfl | exact cl_int | exact cl_str | exact cl_bool | exact cl_nsl | exact cl_ptr | exact cl_sl | exact cl_nptr | exact cl_map | exact cl_nmap | exact cl_fn | exact cl_nfn | exact cl_ifc | exact cl_nifc | exact on_int | exact on_str | exact on_bool | exact on_nsl | exact on_ptr | exact on_sl | exact on_map | exact on_fn | exact on_ifc) only [vsA, evp, beq_self_eq_true, eq_self, decide_true, decide_false, HX.ev, List.length_cons, List.length_nil, List.append_nil, List.nil_append, List.cons_append, List.set_cons_succ, List.set_cons_zero, List.getElem?_cons_succ, List.getElem?_cons_zero, Option.getD_some, Option.map_some, Option.map_none, List.map_cons, List.map_nil, if_true, Bool.not_true, Bool.not_false, Bool.false_eq_true, if_false, Nat.reduceAdd, Nat.zero_add, List.drop_zero, List.drop_succ_cons, List.take_succ_cons, List.take_zero, HOp.looks, implies_true, true_and, and_true, Nat.reduceEqDiff, overw, List.getD_cons_succ, List.getD_cons_zero, List.contains_cons, List.contains_nil, Nat.reduceBEq, Bool.or_false, Bool.true_eq_false, false_implies, Bool.or_true, Bool.true_or, Bool.false_or, Nat.add_zero, h12, g, lo, ub12, frame0, List.replicate, Nat.sub]
    | (refine condK_cases (fun h => ?_) (fun h => ?_) <;> (try simp only [h]) <;> (try simp only [decide_eq_true_eq, decide_eq_false_iff_not, Bool.not_eq_true', Bool.not_eq_false', beq_iff_eq, bne_iff_ne, Bool.not_eq_false, beq_eq_false_iff_ne, ne_eq] at h) <;> (try (exfalso; omega)))
    | (refine guardK_cases (fun h => ?_) (fun h => ?_) <;> (try simp only [h]) <;> (try simp only [decide_eq_true_eq, decide_eq_false_iff_not, Bool.not_eq_true', Bool.not_eq_false', beq_iff_eq, bne_iff_ne, Bool.not_eq_false, beq_eq_false_iff_ne, ne_eq] at h) <;> (try (exfalso; omega)))
    | (refine dgK_cases (fun h => ?_) (fun h => ?_) <;> (try simp only [h]) <;> (try simp only [decide_eq_true_eq, decide_eq_false_iff_not, Bool.not_eq_true', Bool.not_eq_false', beq_iff_eq, bne_iff_ne, Bool.not_eq_false, beq_eq_false_iff_ne, ne_eq] at h) <;> (try (exfalso; omega)))
    | refine hwp_draw mixed rfl ?_

  refine HW.loopR mixed (fun i : Nat => (.ptr d 2 :: .undef :: .undef :: .undef :: .undef :: .undef :: .undef :: .undef :: vo :: .int .i64 ((E1 ++ E2).length : Nat) :: .int .i64 (i : Nat) :: .undef :: .undef :: .undef :: .undef :: .undef :: .undef :: .undef :: .undef :: .undef :: .undef :: .undef :: .undef :: .undef :: .undef :: .undef :: [])) (fun i => (E1 ++ E2).length - i) (fun i => i ≤ (E1 ++ E2).length) 0 (by omega) (by (repeat first | exact Less.nil | refine Less.undef _ ?_ | refine Less.keep _ ?_)) ?_
  rintro i hi
  by_cases h : i < (E1 ++ E2).length
  · obtain ⟨e, he⟩ : ∃ e, (E1 ++ E2)[i]? = some e := ⟨_, List.getElem?_eq_getElem h⟩
    obtain ⟨r1, r2⟩ := bk_rd H.t he
    have hbe := hb e (List.mem_of_getElem? he)
    obtain ⟨p, hp1, hp2⟩ := ro.idx1 (show ((E1 ++ E2).map En.out)[i]? = some e.out by rw [List.getElem?_map, he]; rfl) .i64
    obtain ⟨q, hq1, hq2⟩ := rw.idx1 (show ((E1 ++ E2).map En.want)[i]? = some e.want by rw [List.getElem?_map, he]; rfl) .i64
    have eqb : (e.bs == e.bs) = true := by simp
    repeat' first
      | simp -implicitDefEqProofs (disch := first | omega | decide | exact rfl | assumption | exact Nat.le_of_ble_eq_true rfl | exact cl_int | exact cl_str | exact cl_bool | exact cl_nsl | exact cl_ptr | exact cl_sl | exact cl_nptr | exact cl_map | exact cl_nmap | exact cl_fn | exact cl_nfn | exact cl_ifc | exact cl_nifc | exact on_int | exact on_str | exact on_bool | exact on_nsl | exact on_ptr | exact on_sl | exact on_map | exact on_fn | exact on_ifc) only [vsA, evp, beq_self_eq_true, eq_self, decide_true, decide_false, HX.ev, List.length_cons, List.length_nil, List.append_nil, List.nil_append, List.cons_append, List.set_cons_succ, List.set_cons_zero, List.getElem?_cons_succ, List.getElem?_cons_zero, Option.getD_some, Option.map_some, Option.map_none, List.map_cons, List.map_nil, if_true, Bool.not_true, Bool.not_false, Bool.false_eq_true, if_false, Nat.reduceAdd, Nat.zero_add, List.drop_zero, List.drop_succ_cons, List.take_succ_cons, List.take_zero, HOp.looks, implies_true, true_and, and_true, Nat.reduceEqDiff, overw, List.getD_cons_succ, List.getD_cons_zero, List.contains_cons, List.contains_nil, Nat.reduceBEq, Bool.or_false, Bool.true_eq_false, false_implies, Bool.or_true, Bool.true_or, Bool.false_or, Nat.add_zero, g, lo, so, sw, hp1, hp2, hq1, hq2, eqb, vadd1, ub12]
      | (refine condK_cases (fun h => ?_) (fun h => ?_) <;> (try simp only [h]) <;> (try simp only [decide_eq_true_eq, decide_eq_false_iff_not, Bool.not_eq_true', Bool.not_eq_false', beq_iff_eq, bne_iff_ne, Bool.not_eq_false, beq_eq_false_iff_ne, ne_eq] at h) <;> (try (exfalso; omega)))
      | (refine guardK_cases (fun h => ?_) (fun h => ?_) <;> (try simp only [h]) <;> (try simp only [decide_eq_true_eq, decide_eq_false_iff_not, Bool.not_eq_true', Bool.not_eq_false', beq_iff_eq, bne_iff_ne, Bool.not_eq_false, beq_eq_false_iff_ne, ne_eq] at h) <;> (try (exfalso; omega)))
      | (refine dgK_cases (fun h => ?_) (fun h => ?_) <;> (try simp only [h]) <;> (try simp only [decide_eq_true_eq, decide_eq_false_iff_not, Bool.not_eq_true', Bool.not_eq_false', beq_iff_eq, bne_iff_ne, Bool.not_eq_false, beq_eq_false_iff_ne, ne_eq] at h) <;> (try (exfalso; omega)))
      | (refine vcall_of ok33 rfl (same33 r1 r2 (by omega)) ?_; rintro _ _ ⟨rfl, rfl⟩)
      | (refine vdr_call ok33 rfl (same33 r1 r2 (by omega)) ?_; rintro _ _ ⟨rfl, rfl⟩)
      | refine hwp_draw mixed rfl ?_

    exact ⟨i + 1, by omega, by omega, (by (repeat first | exact Less.nil | refine Less.undef _ ?_ | refine Less.keep _ ?_))⟩
  · skip
    repeat' first
      | simp -implicitDefEqProofs (disch := first | omega | decide | exact rfl | assumption | exact Nat.le_of_ble_eq_true rfl | exact cl_int | exact cl_str | exact cl_bool | exact cl_nsl | exact cl_ptr | exact cl_sl | exact cl_nptr | exact cl_map | exact cl_nmap | exact cl_fn | exact cl_nfn | exact cl_ifc | exact cl_nifc | exact on_int | exact on_str | exact on_bool | exact on_nsl | exact on_ptr | exact on_sl | exact on_map | exact on_fn | exact on_ifc) only [vsA, evp, beq_self_eq_true, eq_self, decide_true, decide_false, HX.ev, List.length_cons, List.length_nil, List.append_nil, List.nil_append, List.cons_append, List.set_cons_succ, List.set_cons_zero, List.getElem?_cons_succ, List.getElem?_cons_zero, Option.getD_some, Option.map_some, Option.map_none, List.map_cons, List.map_nil, if_true, Bool.not_true, Bool.not_false, Bool.false_eq_true, if_false, Nat.reduceAdd, Nat.zero_add, List.drop_zero, List.drop_succ_cons, List.take_succ_cons, List.take_zero, HOp.looks, implies_true, true_and, and_true, Nat.reduceEqDiff, overw, List.getD_cons_succ, List.getD_cons_zero, List.contains_cons, List.contains_nil, Nat.reduceBEq, Bool.or_false, Bool.true_eq_false, false_implies, Bool.or_true, Bool.true_or, Bool.false_or, Nat.add_zero, ub12]
      | (refine condK_cases (fun h => ?_) (fun h => ?_) <;> (try simp only [h]) <;> (try simp only [decide_eq_true_eq, decide_eq_false_iff_not, Bool.not_eq_true', Bool.not_eq_false', beq_iff_eq, bne_iff_ne, Bool.not_eq_false, beq_eq_false_iff_ne, ne_eq] at h) <;> (try (exfalso; omega)))
      | (refine guardK_cases (fun h => ?_) (fun h => ?_) <;> (try simp only [h]) <;> (try simp only [decide_eq_true_eq, decide_eq_false_iff_not, Bool.not_eq_true', Bool.not_eq_false', beq_iff_eq, bne_iff_ne, Bool.not_eq_false, beq_eq_false_iff_ne, ne_eq] at h) <;> (try (exfalso; omega)))
      | (refine dgK_cases (fun h => ?_) (fun h => ?_) <;> (try simp only [h]) <;> (try simp only [decide_eq_true_eq, decide_eq_false_iff_not, Bool.not_eq_true', Bool.not_eq_false', beq_iff_eq, bne_iff_ne, Bool.not_eq_false, beq_eq_false_iff_ne, ne_eq] at h) <;> (try (exfalso; omega)))
      | refine hwp_draw mixed rfl ?_

end Go.Proofs.Ytccfcegmaejlnaa
