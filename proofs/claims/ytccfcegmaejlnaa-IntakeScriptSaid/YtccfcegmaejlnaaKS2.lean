/-
  stintlaw06: what the statements share: places among some, the bound of what comes, what is shown at the head.
  intake, plainly: how little is held, how much is told.
  intake: bytes that come one behind the other; items that are alike.
  stintref06: what each method of the document's answer does: as the intake's.
  stintref06: again, Body, takes, end, Next, Clone.
  stintlaw06.book: its owner writes all over what was handed out, and lets it grow.
  stintlaw06.desk: some intakes, the document's beside them.
-/
import Derived.Test.YtccfcegmaejlnaaKS1
import Derived.Test.YtccfcegmaejlnaaHLFlat
namespace Go.Proofs.Ytccfcegmaejlnaa
open Go Go.HL
set_option maxRecDepth 100000
set_option maxHeartbeats 40000000
set_option linter.unusedSimpArgs false
attribute [local irreducible] pt My Ex Vw Gr GrK each grp exs Sat takeCells happend hbuildSlice hstore hbox hslice hmakeSlice hs2b hcopy HL.unit opC
theorem ok8 : okF Try.prog 8 := ⟨_, Try.func8, by kernel_rfl, by kernel_rfl⟩
theorem ok9 : okF Try.prog 9 := ⟨_, Try.func9, by kernel_rfl, by kernel_rfl⟩
theorem ok20 : okF Try.prog 20 := ⟨_, Try.func20, by kernel_rfl, by kernel_rfl⟩
theorem ok21 : okF Try.prog 21 := ⟨_, Try.func21, by kernel_rfl, by kernel_rfl⟩
theorem ok22 : okF Try.prog 22 := ⟨_, Try.func22, by kernel_rfl, by kernel_rfl⟩
theorem ok23 : okF Try.prog 23 := ⟨_, Try.func23, by kernel_rfl, by kernel_rfl⟩
theorem ok24 : okF Try.prog 24 := ⟨_, Try.func24, by kernel_rfl, by kernel_rfl⟩
theorem ok25 : okF Try.prog 25 := ⟨_, Try.func25, by kernel_rfl, by kernel_rfl⟩
/-- an act that was handed in. -/
structure ActV where
  kind : Int
  at_ : Int
  n : Int
  v : HV
  data : List UInt8
def ActV.cells (a : ActV) : List HV := [.int .i64 a.kind, .int .i64 a.at_, .int .i64 a.n, a.v]
structure ArgsAt (hs : HS) (sv : HV) (A : List ActV) : Prop where
  row : Rd hs 4 sv A.length (A.flatMap ActV.cells)
  data : ∀ a ∈ A, Rd hs 1 a.v a.data.length (bcells a.data)
  few : A.length < 4611686018427387904
  small : ∀ a ∈ A, a.data.length < 4611686018427387904
def total (A : List ActV) : Nat := A.length + (A.map fun a => a.data.length).sum
theorem ArgsAt.idx {hs : HS} {sv : HV} {A : List ActV} (R : ArgsAt hs sv A) {i : Nat} {a : ActV} (hi : A[i]? = some a) :
    ∃ h o, hindexAddr 4 sv (.int .i64 (i : Nat)) = some (.ptr h o) ∧ hload none hs (.ptr h (o + 3)) = some a.v ∧ hload (some 4) hs (.ptr h o) = some (.agg a.cells) := by
  obtain ⟨h, o, h1, h2, h3⟩ := R.row.idxF (s := 4) (fun _ => rfl) rfl hi .i64
  exact ⟨h, o, h1, h2 3 (by omega), h3⟩
theorem sum_take {A : List ActV} {i : Nat} {a : ActV} (hi : A[i]? = some a) : ((A.take (i + 1)).map fun a => a.data.length).sum = ((A.take i).map fun a => a.data.length).sum + a.data.length := by
  rw [List.take_add_one, hi]; simp
theorem sum_le : ∀ (A : List ActV) (i : Nat), ((A.take i).map fun a => a.data.length).sum ≤ (A.map fun a => a.data.length).sum
  | [], i => by simp
  | a :: A, 0 => by simp
  | a :: A, i + 1 => by have := sum_le A i; simp only [List.take_succ_cons, List.map_cons, List.sum_cons]; omega

def amongF (i : Int) (m : Nat) : Nat := (i % (m : Int)).toNat
theorem among_lt {i : Int} {m : Nat} (h : 1 ≤ m) : amongF i m < m := by
  unfold amongF
  have h1 := Int.emod_nonneg i (show (m : Int) ≠ 0 by omega)
  have h2 := Int.emod_lt_of_pos i (show (0 : Int) < m by omega)
  omega
theorem among20 {hs : HS} (i : Int) (m : Nat) (hm : 1 ≤ m ∧ m < 4611686018427387904) : HC Try.prog 20 [.int .i64 i, .int .i64 (m : Nat)] hs fun v hs' => v = .int .i64 (amongF i m : Nat) ∧ hs' = hs := by
  refine HC.wp mixed Try.func20 c20 ?_
  · skip
    have hr : hbin .rem none (.int .i64 i) (.int .i64 (m : Nat)) = some (.int .i64 (i.tmod m)) := by
      have : hbin .rem none (.int .i64 i) (.int .i64 (m : Nat)) = if IntKind.i64 = IntKind.i64 ∧ ((m : Nat) : Int) ≠ 0 then some (.int .i64 (i.tmod m)) else none := rfl
      rw [this, if_pos ⟨rfl, by omega⟩]
    have hlt := among_lt (i := i) (m := m) (by omega)
    have h1 := Int.emod_nonneg i (show (m : Int) ≠ 0 by omega)
    have ht : i.tmod m = if i.tmod m < 0 then (amongF i m : Int) - m else (amongF i m : Int) := by
      unfold amongF
      rw [Int.toNat_of_nonneg h1, Int.tmod_eq_emod]
      have h2 := Int.emod_lt_of_pos i (show (0 : Int) < m by omega)
      by_cases hd : 0 ≤ i ∨ (m : Int) ∣ i
      · rw [if_pos hd, if_neg (by omega)]; omega
      · rw [if_neg hd, Int.natAbs_natCast, if_pos (by omega)]
    have ha : i.tmod m < 0 → hbin .add none (.int .i64 (i.tmod m)) (.int .i64 (m : Nat)) = some (.int .i64 (amongF i m : Nat)) := by
      intro h
      rw [if_pos h] at ht
      rw [vaddI (by omega)]
      congr 2; omega
    by_cases hneg : i.tmod m < 0
    · have ha := ha hneg
      repeat' first
        | simp -implicitDefEqProofs (disch := first | omega | decide | exact rfl | assumption | exact Nat.le_of_ble_eq_true rfl | exact One.c | exact One.o) only [vsA, vsB, eq_self, if_true, if_false, implies_true, false_implies, evp, HX.ev, Nat.reduceAdd, HOp.looks, Nat.reduceEqDiff, overw, Nat.reduceBEq, h20, hr, ha, ub20, frame0, List.replicate, Nat.sub]
        | (refine condK_cases (fun h => ?_) (fun h => ?_) <;> (try simp only [h]) <;> (try simp only [athA, ne_eq] at h) <;> (try (exfalso; omega)))
        | (refine guardK_cases (fun h => ?_) (fun h => ?_) <;> (try simp only [h]) <;> (try simp only [athA, ne_eq] at h) <;> (try (exfalso; omega)))

    · rw [if_neg hneg] at ht
      repeat' first
        | simp -implicitDefEqProofs (disch := first | omega | decide | exact rfl | assumption | exact Nat.le_of_ble_eq_true rfl | exact One.c | exact One.o) only [vsA, vsB, eq_self, if_true, if_false, implies_true, false_implies, evp, HX.ev, Nat.reduceAdd, HOp.looks, Nat.reduceEqDiff, overw, Nat.reduceBEq, h20, hr, ub20, frame0, List.replicate, Nat.sub]
        | (refine condK_cases (fun h => ?_) (fun h => ?_) <;> (try simp only [h]) <;> (try simp only [athA, ne_eq] at h) <;> (try (exfalso; omega)))
        | (refine guardK_cases (fun h => ?_) (fun h => ?_) <;> (try simp only [h]) <;> (try simp only [athA, ne_eq] at h) <;> (try (exfalso; omega)))

      rw [ht]
theorem beyond8 {hs : HS} {sv : HV} {A : List ActV} (R : ArgsAt hs sv A) : HC Try.prog 8 [sv] hs fun v hs' => v = .bool (decide (2147483647 < total A)) ∧ hs' = hs := by
  have ls := R.row.len hs
  have so := R.row.sOk
  have few := R.few
  refine HC.wp mixed Try.func8 c8 ?_
  repeat' first
    | simp -implicitDefEqProofs (disch := first | omega | decide | exact rfl | assumption | exact Nat.le_of_ble_eq_true rfl | exact One.c | exact One.o) only [vsA, vsB, eq_self, if_true, if_false, implies_true, false_implies, evp, HX.ev, Nat.reduceAdd, HOp.looks, Nat.reduceEqDiff, overw, Nat.reduceBEq, h8, ls, ub8, frame0, List.replicate, Nat.sub]
    | (refine condK_cases (fun h => ?_) (fun h => ?_) <;> (try simp only [h]) <;> (try simp only [athA, ne_eq] at h) <;> (try (exfalso; omega)))
    | (refine guardK_cases (fun h => ?_) (fun h => ?_) <;> (try simp only [h]) <;> (try simp only [athA, ne_eq] at h) <;> (try (exfalso; omega)))

  refine HW.loopR mixed (fun i : Nat => (sv :: .undef :: .undef :: .int .i64 ((A.length + ((A.take i).map fun a => a.data.length).sum : Nat) : Int) :: .int .i64 (i : Nat) :: .undef :: .undef :: .undef :: .undef :: .undef :: .undef :: .undef :: .undef :: .undef :: .undef :: .undef :: .undef :: .undef :: .undef :: .undef :: .undef :: .undef :: .undef :: .undef :: .undef :: .undef :: .undef :: [])) (fun i => A.length - i) (fun i => i ≤ A.length ∧ (((A.take i).map fun a => a.data.length).sum < 9223372036854775807 - A.length)) 0 ⟨by omega, by simp; omega⟩ (by (repeat first | exact Less.nil | refine Less.undef _ ?_ | refine Less.keep _ ?_)) ?_
  rintro i ⟨hi, hsum⟩
  by_cases h : i < A.length
  · obtain ⟨a, ha⟩ : ∃ a, A[i]? = some a := ⟨_, List.getElem?_eq_getElem h⟩
    obtain ⟨q, o, h1, h2, _⟩ := R.idx ha
    have hd := (R.data a (List.mem_of_getElem? ha)).len hs
    have hs1 := sum_take ha
    have hsm := R.small a (List.mem_of_getElem? ha)
    repeat' first
      | simp -implicitDefEqProofs (disch := first | omega | decide | exact rfl | assumption | exact Nat.le_of_ble_eq_true rfl | exact One.c | exact One.o) only [vsA, vsB, eq_self, if_true, if_false, implies_true, false_implies, evp, HX.ev, Nat.reduceAdd, HOp.looks, Nat.reduceEqDiff, overw, Nat.reduceBEq, ls, so, h1, h2, hd, vadd1, vaddn, ub8]
      | (refine condK_cases (fun h => ?_) (fun h => ?_) <;> (try simp only [h]) <;> (try simp only [athA, ne_eq] at h) <;> (try (exfalso; omega)))
      | (refine guardK_cases (fun h => ?_) (fun h => ?_) <;> (try simp only [h]) <;> (try simp only [athA, ne_eq] at h) <;> (try (exfalso; omega)))

    · refine ⟨i + 1, by omega, ⟨by omega, by omega⟩, ?_⟩
      rw [hs1, ← Nat.add_assoc]
      (repeat first | exact Less.nil | refine Less.undef _ ?_ | refine Less.keep _ ?_)
    · have := sum_le A i
      refine congrArg HV.bool (decide_eq_decide.2 ?_)
      unfold total
      omega
  · skip
    repeat' first
      | simp -implicitDefEqProofs (disch := first | omega | decide | exact rfl | assumption | exact Nat.le_of_ble_eq_true rfl | exact One.c | exact One.o) only [vsA, vsB, eq_self, if_true, if_false, implies_true, false_implies, evp, HX.ev, Nat.reduceAdd, HOp.looks, Nat.reduceEqDiff, overw, Nat.reduceBEq, ls, ub8]
      | (refine condK_cases (fun h => ?_) (fun h => ?_) <;> (try simp only [h]) <;> (try simp only [athA, ne_eq] at h) <;> (try (exfalso; omega)))
      | (refine guardK_cases (fun h => ?_) (fun h => ?_) <;> (try simp only [h]) <;> (try simp only [athA, ne_eq] at h) <;> (try (exfalso; omega)))

    obtain rfl : i = A.length := by omega
    rw [List.take_length]
    refine congrArg HV.bool (decide_eq_decide.2 ?_)
    unfold total
    omega

theorem shown9 {hs : HS} {l : List SA} (H : Sat hs l) (G : ∀ hs, Sat hs l → hs[0]? = some (some (HB.gint 0))) : HC Try.prog 9 [] hs fun v hs' => v = .bool true ∧ Sat hs' l := by
  have n1 := new17 H 4
  refine HC.wp mixed Try.func9 c9 ?_
  first | have f0 := Sat.pf (H) | have f0 := trivial
  first | have f1 := Sat.pf (H.t) | have f1 := trivial
  first | have f2 := Sat.pf (H.t.t) | have f2 := trivial
  first | have f3 := Sat.pf (H.t.t.t) | have f3 := trivial
  first | have f4 := Sat.pf (H.t.t.t.t) | have f4 := trivial
  first | have f5 := Sat.pf (H.t.t.t.t.t) | have f5 := trivial
  first | have f6 := Sat.pf (H.t.t.t.t.t.t) | have f6 := trivial
  first | have f7 := Sat.pf (H.t.t.t.t.t.t.t) | have f7 := trivial
  have e1 : feedF (newS 4) [97, 98, 13, 10, 120, 121, 122, 13, 10, 113] = ⟨4, 0, [97, 98, 13, 10, 120, 121, 122, 13, 10, 113], 0, 0, false, false⟩ := by kernel_rfl
  have e2 : nextS ⟨4, 0, [97, 98, 13, 10, 120, 121, 122, 13, 10, 113], 0, 0, false, false⟩ = (some ⟨1, [97, 98], []⟩, ⟨4, 0, [120, 121, 122, 13, 10, 113], 0, 0, false, false⟩) := by kernel_rfl
  have e3 : bodyS ⟨4, 0, [120, 121, 122, 13, 10, 113], 0, 0, false, false⟩ 3 = (⟨4, 2, [120, 121, 122, 13, 10, 113], 3, 0, false, false⟩, 0) := by kernel_rfl
  have e4 : nextS ⟨4, 2, [120, 121, 122, 13, 10, 113], 3, 0, false, false⟩ = (some ⟨3, [], [120, 121, 122]⟩, ⟨4, 0, [113], 3, 0, false, false⟩) := by kernel_rfl
  have hm := True.intro
  have o1 := True.intro
  have o2 := True.intro
  have rcs := True.intro
  have H := H
  repeat' first
    | ((with_reducible show Need _); refine need_of ?_; (first | have f0 := Sat.pf (H) | have f0 := trivial); (first | have f1 := Sat.pf (H.t) | have f1 := trivial); (first | have f2 := Sat.pf (H.t.t) | have f2 := trivial); (first | have f3 := Sat.pf (H.t.t.t) | have f3 := trivial); (first | have f4 := Sat.pf (H.t.t.t.t) | have f4 := trivial); (first | have f5 := Sat.pf (H.t.t.t.t.t) | have f5 := trivial); (first | have f6 := Sat.pf (H.t.t.t.t.t.t) | have f6 := trivial); (first | have f7 := Sat.pf (H.t.t.t.t.t.t.t) | have f7 := trivial); (first | have rcs := rd_b2sK (Sat.rdX H.t.t) | skip))
    | simp -implicitDefEqProofs (disch := first | omega | decide | exact rfl | assumption | exact Nat.le_of_ble_eq_true rfl | exact One.c | exact One.o) only [vsA, vsB, eq_self, if_true, if_false, implies_true, false_implies, evp, HX.ev, Nat.reduceAdd, HOp.looks, Nat.reduceEqDiff, overw, Nat.reduceBEq, h9, hm, o1, o2, rcs, u8e10, va_loadA, va_ldA, ub9, f0, f1, f2, f3, f4, f5, f6, f7, frame0, List.replicate, Nat.sub]
    | (refine condK_cases (fun h => ?_) (fun h => ?_) <;> (try simp only [h]) <;> (try simp only [athA, ne_eq] at h) <;> (try (exfalso; omega)))
    | (refine guardK_cases (fun h => ?_) (fun h => ?_) <;> (try simp only [h]) <;> (try simp only [athA, ne_eq] at h) <;> (try (exfalso; omega)))
    | (clear H f0 f1 f2 f3 f4 f5 f6 f7; (with_reducible intro v2 hs H); (try simp only [setA, overw, Nat.reduceAdd] at H); refine need ?_)
    | ((with_reducible show actK _ (HAct.call (HX.cst (HV.func (Fn.func 17) _ _)) _) _ _ _ _ _); refine vcall_of ok17 rfl (new17 H 4) ?_;  intro v hs h; rw [if_neg (by decide)] at h; obtain ⟨p, rfl, H⟩ := h; refine need ?_)
    | ((with_reducible show actK _ (HAct.call (HX.cst (HV.func (Fn.func 28) _ _)) _) _ _ _ _ _); refine vcall_of ok28 rfl (clone28 H (by decide)) ?_;  clear H f0 f1 f2 f3 f4 f5 f6 f7; rintro v hs ⟨q, rfl, H⟩; have H := H.t; refine need ?_)
    | ((with_reducible show actK _ (HAct.call (HX.cst (HV.func (Fn.func 18) _ _)) _) _ _ _ _ _); refine vcall_of ok18 rfl (feedP (bs := [97, 98, 13, 10, 120, 121, 122, 13, 10, 113]) H.p1 (fun _ h => h.rd) (by decide) (by decide)) ?_;  clear H f0 f1 f2 f3 f4 f5 f6 f7; rintro _ hs H; have H := H.p1.t; rw [show (4 : Int).toNat = 4 from rfl, e1] at H; refine need ?_)
    | ((with_reducible show actK _ (HAct.call (HX.cst (HV.func (Fn.func 26) _ _)) _) _ _ _ _ _); refine vcall_of ok26 rfl (next26 H G (by decide) (by decide) (by decide) (by decide)) ?_;  clear H f0 f1 f2 f3 f4 f5 f6 f7; rintro v hs ⟨w, rfl, H⟩; rw [e2] at H; simp only [e2, itV, itB]; refine need ?_)
    | ((with_reducible show actK _ (HAct.call (HX.cst (HV.func (Fn.func 27) _ _)) _) _ _ _ _ _); refine vcall_of ok27 rfl (body27 H.p1 3 (by decide)) ?_;  clear H f0 f1 f2 f3 f4 f5 f6 f7; rintro v hs ⟨rfl, H⟩; rw [e3] at H; simp only [e3]; refine need ?_)
    | ((with_reducible show actK _ (HAct.call (HX.cst (HV.func (Fn.func 26) _ _)) _) _ _ _ _ _); refine vcall_of ok26 rfl (next26 H (fun _ h => G _ h.t.t) (by decide) (by decide) (by decide) (by decide)) ?_;  clear H f0 f1 f2 f3 f4 f5 f6 f7; rintro v hs ⟨w2, rfl, H⟩; rw [e4] at H; simp only [e4, itV]; refine need ?_)
    | ((with_reducible show actK _ (HAct.call (HX.cst (HV.func (Fn.func 14) _ _)) _) _ _ _ _ _); refine vcall_of ok14 rfl (held14 H.p1) ?_; rintro _ _ ⟨rfl, rfl⟩)
    | refine opC_K ?_
    | ((with_reducible show opC (hbuildSlice _ _ _ _ _) _); refine sl_bsliceKM H (by decide) rfl rfl (by decide) rfl rfl ?_; clear H f0 f1 f2 f3 f4 f5 f6 f7; intro y hs H hm; refine need ?_)
    | ((with_reducible show opC (unit (hstore _ _ _ _)) _); refine sl_store1 (by with_reducible first | exact H | exact H.p1 | exact H.p2 | exact H.p3 | exact H.p4 | exact H.p5 | exact H.p6 | exact H.p7) (Nat.le_of_ble_eq_true rfl) (by first | exact rfl | (simp only [f0, f1, f2, f3, f4, f5, f6, f7]; done) | (simp only [onA, *]; done)) (by first | exact rfl | (simp only [f0, f1, f2, f3, f4, f5, f6, f7]; done) | (simp only [onA, *]; done)) ?_)
    | ((with_reducible show opC (unit (hstore _ _ _ _)) _); refine sl_storeN (by with_reducible first | exact H | exact H.p1 | exact H.p2 | exact H.p3 | exact H.p4 | exact H.p5 | exact H.p6 | exact H.p7) rfl (Nat.le_of_ble_eq_true rfl) (by first | exact rfl | (simp only [f0, f1, f2, f3, f4, f5, f6, f7]; done) | (simp only [onA, *]; done)) ?_)
    | ((with_reducible show opC (hbuildSlice _ _ _ _ _) _); refine sl_bslice1 H rfl (by first | exact rfl | (simp only [f0, f1, f2, f3, f4, f5, f6, f7]; done) | (simp only [onA, *]; done)) (by first | exact rfl | (simp only [f0, f1, f2, f3, f4, f5, f6, f7]; done) | (simp only [onA, *]; done)) ?_)
    | ((with_reducible show opC (hbox _ _) _); refine sl_box1 H (by first | exact rfl | (simp only [f0, f1, f2, f3, f4, f5, f6, f7]; done) | (simp only [onA, *]; done)) (by first | exact rfl | (simp only [f0, f1, f2, f3, f4, f5, f6, f7]; done) | (simp only [onA, *]; done)) ?_)
    | ((with_reducible show opC (hbox _ _) _); refine sl_boxA H (by first | exact rfl | (simp only [f0, f1, f2, f3, f4, f5, f6, f7]; done) | (simp only [onA, *]; done)) ?_)
    | with_reducible intro hy

  all_goals first | exact absurd rfl h | exact ⟨rfl, H.t.t.t.t.t⟩ | exact H.t.t.t.t.t | exact ⟨congrArg HV.bool (by decide), H.t.t.t.t.t⟩
/-- a text up to the first end of a line in it. -/
def cutF (s : List UInt8) : List UInt8 := match lineAt s with
  | some k => s.take k
  | none => s
theorem slStr_hi {s : List UInt8} {i : Nat} (h : i ≤ s.length) : hsliceStr (.str s) none (some (.int .i64 (i : Nat))) = some (.str (s.take i)) := by
  simp only [hsliceStr, bounds_of Lo.none (Hi.some (hi := i) (k := .i64)) (Nat.zero_le _) h (Nat.le_refl _)]
  rfl
theorem cut23 {hs : HS} (s : List UInt8) (hb : s.length < 4611686018427387904) : HC Try.prog 23 [.str s] hs fun v hs' => v = .str (cutF s) ∧ hs' = hs := by
  refine HC.wp mixed Try.func23 c23 ?_
  repeat' first
    | simp -implicitDefEqProofs (disch := first | omega | decide | exact rfl | assumption | exact Nat.le_of_ble_eq_true rfl | exact One.c | exact One.o) only [vsA, vsB, eq_self, if_true, if_false, implies_true, false_implies, evp, HX.ev, Nat.reduceAdd, HOp.looks, Nat.reduceEqDiff, overw, Nat.reduceBEq, h23, ub23, frame0, List.replicate, Nat.sub]
    | (refine condK_cases (fun h => ?_) (fun h => ?_) <;> (try simp only [h]) <;> (try simp only [athA, ne_eq] at h) <;> (try (exfalso; omega)))
    | (refine guardK_cases (fun h => ?_) (fun h => ?_) <;> (try simp only [h]) <;> (try simp only [athA, ne_eq] at h) <;> (try (exfalso; omega)))

  refine HW.loopR mixed (fun i : Nat => (.str s :: .undef :: .undef :: .int .i64 (i : Nat) :: .undef :: .undef :: .undef :: .undef :: .undef :: .undef :: .undef :: .undef :: .undef :: .undef :: .undef :: .undef :: .undef :: .undef :: .undef :: .undef :: .undef :: .undef :: .undef :: .undef :: .undef :: .undef :: [])) (fun i => s.length - i) (fun i => i ≤ s.length ∧ lineAt s = (lineAt (s.drop i)).map (· + i)) 0 ⟨by omega, by simp⟩ (by (repeat first | exact Less.nil | refine Less.undef _ ?_ | refine Less.keep _ ?_)) ?_
  rintro i ⟨hi, he⟩
  by_cases h : i + 1 < s.length
  · have g1 : hindexStr (.str s) (.int .i64 (i : Nat)) = some (.int .u8 (s[i].toNat)) := vidxStr_some (List.getElem?_eq_getElem (by omega))
    have g2 : hindexStr (.str s) (.int .i64 ((i + 1 : Nat) : Int)) = some (.int .u8 (s[i + 1].toNat)) := vidxStr_some (List.getElem?_eq_getElem h)
    have g3 := slStr_hi (s := s) (i := i) (by omega)
    have hd : s.drop i = s[i] :: s.drop (i + 1) := List.drop_eq_getElem_cons (by omega)
    have hh : (s.drop (i + 1)).head? = some s[i + 1] := by rw [List.head?_drop, List.getElem?_eq_getElem h]
    repeat' first
      | simp -implicitDefEqProofs (disch := first | omega | decide | exact rfl | assumption | exact Nat.le_of_ble_eq_true rfl | exact One.c | exact One.o) only [vsA, vsB, eq_self, if_true, if_false, implies_true, false_implies, evp, HX.ev, Nat.reduceAdd, HOp.looks, Nat.reduceEqDiff, overw, Nat.reduceBEq, g1, g2, g3, u8e10, u8e13, vadd1, ub23]
      | (refine condK_cases (fun h => ?_) (fun h => ?_) <;> (try simp only [h]) <;> (try simp only [athA, ne_eq] at h) <;> (try (exfalso; omega)))
      | (refine guardK_cases (fun h => ?_) (fun h => ?_) <;> (try simp only [h]) <;> (try simp only [athA, ne_eq] at h) <;> (try (exfalso; omega)))

    · have e : lineAt s = some i := by
        rw [he, hd, lineAt, if_pos ⟨by assumption, by rw [hh]; simp [*]⟩]; simp
      unfold cutF; rw [e]
    all_goals
      refine ⟨i + 1, by omega, ⟨by omega, ?_⟩, (by (repeat first | exact Less.nil | refine Less.undef _ ?_ | refine Less.keep _ ?_))⟩
      rw [he, hd, lineAt, if_neg (by rw [hh]; simp [*])]
      cases lineAt (s.drop (i + 1)) with
      | none => rfl
      | some k => simp only [Option.map_some, Option.some.injEq]; omega
  · skip
    repeat' first
      | simp -implicitDefEqProofs (disch := first | omega | decide | exact rfl | assumption | exact Nat.le_of_ble_eq_true rfl | exact One.c | exact One.o) only [vsA, vsB, eq_self, if_true, if_false, implies_true, false_implies, evp, HX.ev, Nat.reduceAdd, HOp.looks, Nat.reduceEqDiff, overw, Nat.reduceBEq, vadd1, ub23]
      | (refine condK_cases (fun h => ?_) (fun h => ?_) <;> (try simp only [h]) <;> (try simp only [athA, ne_eq] at h) <;> (try (exfalso; omega)))
      | (refine guardK_cases (fun h => ?_) (fun h => ?_) <;> (try simp only [h]) <;> (try simp only [athA, ne_eq] at h) <;> (try (exfalso; omega)))

    have e : lineAt s = none := by
      rw [he]
      cases hl : lineAt (s.drop i) with
      | none => rfl
      | some k => have := lineAt_le hl; simp at this; omega
    unfold cutF; rw [e]

end Go.Proofs.Ytccfcegmaejlnaa
namespace Go.Proofs.Ytccfcegmaejlnaa
open Go Go.HL
set_option maxRecDepth 100000
set_option linter.unusedSimpArgs false
theorem skipL_line : ∀ (b : List UInt8) (h : Bool), (skipL h b).2.1 = true →
    (h = true ∧ b.head? = some 10 ∧ (skipL h b).2.2 = b.tail) ∨ (¬ (h = true ∧ b.head? = some 10) ∧ ∃ k, lineAt b = some k ∧ (skipL h b).2.2 = b.drop (k + 2))
  | [], h, e => by simp [skipL] at e
  | c :: r, h, e => by
    by_cases hc : h = true ∧ c = 10
    · left
      refine ⟨hc.1, by rw [hc.2]; rfl, ?_⟩
      unfold skipL
      rw [if_pos (by simp [hc])]; rfl
    · right
      have hs : skipL h (c :: r) = skipL (c == 13) r := by
        rw [skipL, if_neg]
        simp only [Bool.and_eq_true, beq_iff_eq]; exact hc
      rw [hs] at e ⊢
      refine ⟨by simpa using hc, ?_⟩
      rcases skipL_line r (c == 13) e with ⟨h1, h2, h3⟩ | ⟨h1, k, h2, h3⟩
      · refine ⟨0, ?_, ?_⟩
        · unfold lineAt; rw [if_pos ⟨by simpa using h1, h2⟩]
        · rw [h3]; simp [List.drop_one]
      · refine ⟨k + 1, ?_, ?_⟩
        · unfold lineAt
          rw [if_neg (by simpa using h1), h2]; rfl
        · rw [h3]; rfl
theorem skipL_none : ∀ (b : List UInt8) (h : Bool), (skipL h b).2.1 = false → (skipL h b).2.2 = []
  | [], h, _ => rfl
  | c :: r, h, e => by
    unfold skipL at e ⊢
    split
    · rename_i hc; rw [if_pos hc] at e; cases e
    · rename_i hc; rw [if_neg hc] at e; exact skipL_none r _ e
theorem skipL_one {b : List UInt8} {h : Bool} (e : (skipL h b).2.1 = true) : (skipL h b).2.2.length + 1 ≤ b.length := by
  rcases skipL_line b h e with ⟨_, h2, h3⟩ | ⟨_, k, h2, h3⟩
  · rw [h3]
    cases b with
    | nil => simp at h2
    | cons c r => simp
  · have := lineAt_le h2
    rw [h3, List.length_drop]; omega
theorem lineAt_take : ∀ {b : List UInt8} {k n : Nat}, lineAt b = some k → k + 2 ≤ n → lineAt (b.take n) = some k
  | [], k, n, h, _ => by simp [lineAt] at h
  | c :: r, k, 0, h, hn => by omega
  | c :: r, k, n + 1, h, hn => by
    rw [List.take_succ_cons]
    unfold lineAt at h ⊢
    split at h
    · rename_i hc
      cases h
      rw [if_pos ⟨hc.1, by
        cases r with
        | nil => simp at hc
        | cons d r =>
          cases n with
          | zero => omega
          | succ n => simpa using hc.2⟩]
    · rename_i hc
      cases hr : lineAt r with
      | none => rw [hr] at h; simp at h
      | some j =>
        rw [hr] at h
        simp only [Option.map_some, Option.some.injEq] at h
        have hj := lineAt_le hr
        rw [if_neg (by
          rintro ⟨h1, h2⟩
          refine hc ⟨h1, ?_⟩
          cases r with
          | nil => simp at hj
          | cons d r =>
            cases n with
            | zero => omega
            | succ n => simpa using h2), lineAt_take hr (by omega)]
        simp only [Option.map_some, Option.some.injEq]; exact h
theorem lineAt_before : ∀ {b : List UInt8} {k : Nat}, lineAt b = some k → lineAt (b.take k) = none
  | [], k, h => by simp [lineAt] at h
  | c :: r, 0, h => by simp [lineAt]
  | c :: r, k + 1, h => by
    rw [List.take_succ_cons]
    unfold lineAt at h ⊢
    split at h
    · simp at h
    · rename_i hc
      cases hr : lineAt r with
      | none => rw [hr] at h; simp at h
      | some j =>
        rw [hr] at h
        simp only [Option.map_some, Option.some.injEq] at h
        obtain rfl : j = k := by omega
        rw [if_neg (by
          rintro ⟨h1, h2⟩
          refine hc ⟨h1, ?_⟩
          cases r with
          | nil => simp at h2
          | cons d r =>
            cases j with
            | zero => simp at h2
            | succ n => simpa using h2), lineAt_before hr]
        rfl

/-- how an intake stands to what came, what was told, how much it may hold. -/
structure Inv (mx : Nat) (s : St) (came told bound size g : Nat) : Prop where
  st : s.st ≤ 3
  most : s.most = mx ∧ mx ≤ 65535
  size_ : s.size ≤ 4294967295 ∧ size ≤ 4294967295 ∧ s.left ≤ 4294967297
  acc : told + s.held.length + g ≤ came
  s0 : s.st = 0 → bound = 223
  s1 : s.st = 1 → bound = 223 ∧ (s.ended = false → s.held = [] ∧ 224 ≤ g) ∧ (s.ended = true → 225 ≤ g)
  s2 : s.st = 2 → s.size = size ∧ size ≤ mx ∧ bound = size + 1
  s3 : s.st = 3 → bound = 223 ∧ mx < size ∧ size + 2 ≤ g + s.left ∧ (0 < s.left → s.held = [])
variable {mx came told bound size g : Nat} {s : St}
theorem inv_new (h : 1 ≤ mx ∧ mx ≤ 65535) : Inv mx (newS mx) 0 0 223 0 0 :=
  ⟨by simp [newS], ⟨rfl, h.2⟩, by simp [newS], by simp [newS], fun _ => rfl, by simp [newS], by simp [newS], by simp [newS]⟩
theorem inv_feed (I : Inv mx s came told bound size g) (b : List UInt8) : ∃ g', Inv mx (feedF s b) (came + b.length) told bound size g' := by
  obtain ⟨h1, h2, h3, h4, h5, h6, h7, h8⟩ := I
  by_cases c1 : s.st = 1 ∧ s.ended = false
  · obtain ⟨e1, e2⟩ := c1
    rw [feedF1 e1 e2]
    obtain ⟨q1, q2, q3⟩ := h6 e1
    obtain ⟨q4, q5⟩ := q2 e2
    have ql := skipL_len s.half b
    refine ⟨g + (b.length - (skipL s.half b).2.2.length), h1, h2, h3, ?_, fun h => by simp only at h; omega, fun _ => ⟨q1, fun h => ?_, fun h => ?_⟩, fun h => by simp only at h; omega, fun h => by simp only at h; omega⟩
    · simp only [q4, List.nil_append] at h4 ⊢; simp at h4; omega
    · simp only at h
      exact ⟨by simp only [q4, List.nil_append]; exact skipL_none b _ h, by omega⟩
    · simp only at h
      have := skipL_one h
      omega
  · by_cases c3 : s.st = 3
    · rw [feedF2 c3]
      obtain ⟨q1, q2, q3, q4⟩ := h8 c3
      refine ⟨g + min s.left b.length, h1, h2, by simp only; omega, ?_, fun h => by simp only at h; omega, fun h => by simp only at h; omega, fun h => by simp only at h; omega, fun _ => ⟨q1, q2, by simp only; omega, fun h => ?_⟩⟩
      · simp only [List.length_append, List.length_drop]; omega
      · simp only at h ⊢
        rw [q4 (by omega), List.nil_append, List.drop_eq_nil_of_le (by omega)]
    · rw [feedF3 (by
        by_cases e : s.st = 1
        · right
          cases he : s.ended with
          | true => rfl
          | false => exact absurd ⟨e, he⟩ c1
        · exact .inl e) c3]
      refine ⟨g, h1, h2, h3, by simp only [List.length_append]; omega, h5, fun h => ?_, h7, fun h => absurd h c3⟩
      obtain ⟨q1, q2, q3⟩ := h6 h
      refine ⟨q1, fun h' => absurd ⟨h, h'⟩ c1, q3⟩
/-- how much an item tells. -/
def tells (size : Nat) (i : It) : Nat := if i.kind = 1 then i.text.length + 2 else if i.kind = 2 then 225 else size + 2
theorem bodyF_cases (b : List UInt8) (n : Nat) (hn : n ≤ b.length) : ((bodyF b n).1 = 3 ∧ (bodyF b n).2.length = n) ∨ (bodyF b n).1 = 5 := by
  unfold bodyF
  split
  · exact .inl ⟨rfl, by simp; omega⟩
  · exact .inr rfl
theorem inv_next (I : Inv mx s came told bound size g) :
    match nextS s with
    | (none, s') => (∃ g', Inv mx s' came told bound size g') ∧ s'.held.length ≤ bound ∧ told + s'.held.length ≤ came
    | (some i, s') => (∃ g', Inv mx s' came (told + tells size i) 223 size g') ∧ (i.kind = 1 ∧ i.text.length ≤ 222 ∧ lineAt i.text = none ∨ i.kind = 2 ∨ (i.kind = 3 ∧ i.body.length = size ∧ size ≤ mx) ∨ (i.kind = 5 ∧ size ≤ mx) ∨ (i.kind = 4 ∧ mx < size)) ∧
        2 * s'.held.length + (if s'.st = 0 then 0 else 1) < 2 * s.held.length + (if s.st = 0 then 0 else 1) := by
  obtain ⟨h1, h2, h3, h4, h5, h6, h7, h8⟩ := I
  obtain ⟨most, st, held, sz, left, half, ended⟩ := s
  simp only at h1 h2 h3 h4 h5 h6 h7 h8
  have mk0 : ∀ (hd : List UInt8) (hf en : Bool) (lf t : Nat), lf ≤ 4294967297 → t + hd.length ≤ came → Inv mx ⟨most, 0, hd, sz, lf, hf, en⟩ came t 223 size 0 := fun hd hf en lf t hl ht =>
    ⟨by simp, h2, by simp only; omega, by simpa using ht, fun _ => rfl, fun h => by simp at h, fun h => by simp at h, fun h => by simp at h⟩
  have hst : st = 0 ∨ st = 1 ∨ st = 2 ∨ st = 3 := by omega
  rcases hst with rfl | rfl | rfl | rfl
  · unfold nextS
    rw [if_pos rfl]
    simp only
    cases hln : lineAt (held.take (min 224 held.length)) with
    | some k =>
      have hk := lineAt_le hln
      rw [List.length_take] at hk
      have hb := lineAt_before hln
      rw [List.take_take, Nat.min_eq_left (by omega)] at hb
      refine ⟨⟨0, mk0 _ _ _ _ _ h3.2.2 ?_⟩, .inl ⟨rfl, by simp; omega, hb⟩, ?_⟩
      · simp [tells]; omega
      · simp; omega
    | none =>
      simp only
      by_cases hlen : held.length < 224
      · rw [if_pos hlen]
        refine ⟨⟨g, h1, h2, h3, h4, h5, h6, h7, h8⟩, ?_, by simp only; omega⟩
        rw [h5 rfl]; simp only; omega
      · rw [if_neg hlen]
        by_cases he : (skipL false held).2.1 = true
        · rw [if_pos he]
          have hc : (skipL false held).2.2.length + 225 ≤ held.length := by
            rcases skipL_line held false he with ⟨hf, _⟩ | ⟨_, k, hk1, hk2⟩
            · cases hf
            · have hle := lineAt_le hk1
              have : ¬ k + 2 ≤ 224 := fun hh => by
                have := lineAt_take hk1 (n := min 224 held.length) (by omega)
                rw [this] at hln; cases hln
              rw [hk2, List.length_drop]; omega
          refine ⟨⟨0, mk0 _ _ _ _ _ h3.2.2 ?_⟩, .inr (.inl rfl), ?_⟩
          · simp [tells]; omega
          · simp; omega
        · rw [if_neg he]
          have hn := skipL_none held false (by simpa using he)
          refine ⟨⟨held.length, by simp, h2, h3, by simp [hn]; omega, fun h => by simp at h, fun _ => ⟨h5 rfl, fun _ => ⟨hn, by omega⟩, fun h => by simp at h⟩, fun h => by simp at h, fun h => by simp at h⟩, by simp [hn], by simp [hn]; omega⟩
  · unfold nextS
    rw [if_neg (by simp), if_pos rfl]
    simp only
    obtain ⟨q1, q2, q3⟩ := h6 rfl
    cases ended with
    | true =>
      rw [if_pos rfl]
      have := q3 rfl
      exact ⟨⟨0, mk0 _ _ _ _ _ h3.2.2 (by simp [tells]; omega)⟩, .inr (.inl rfl), by simp⟩
    | false =>
      rw [if_neg (by simp)]
      have := q2 rfl
      exact ⟨⟨g, h1, h2, h3, h4, h5, h6, h7, h8⟩, by rw [this.1]; simp, by rw [this.1] at h4 ⊢; simp at h4 ⊢; omega⟩
  · unfold nextS
    rw [if_neg (by simp), if_neg (by simp), if_pos rfl]
    simp only
    obtain ⟨q1, q2, q3⟩ := h7 rfl
    by_cases hlen : held.length < sz + 2
    · rw [if_pos hlen]
      exact ⟨⟨g, h1, h2, h3, h4, h5, h6, h7, h8⟩, by simp only; omega, by simp only; omega⟩
    · rw [if_neg hlen]
      have bc := bodyF_cases (held.take (sz + 2)) sz (by simp; omega)
      refine ⟨⟨0, mk0 _ _ _ _ _ h3.2.2 ?_⟩, ?_, ?_⟩
      · have : tells size ⟨(bodyF (held.take (sz + 2)) sz).1, [], (bodyF (held.take (sz + 2)) sz).2⟩ = size + 2 := by
          unfold tells
          simp only
          rcases bc with ⟨e, _⟩ | e <;> rw [e] <;> rfl
        rw [this]; simp only [List.length_drop]; omega
      · rcases bc with ⟨e, e2⟩ | e
        · exact .inr (.inr (.inl ⟨e, by simp only; omega, q2⟩))
        · exact .inr (.inr (.inr (.inl ⟨e, q2⟩)))
      · simp; omega
  · unfold nextS
    rw [if_neg (by simp), if_neg (by simp), if_neg (by simp)]
    simp only
    obtain ⟨q1, q2, q3, q4⟩ := h8 rfl
    by_cases hl : 0 < left
    · rw [if_pos hl]
      have := q4 hl
      exact ⟨⟨g, h1, h2, h3, h4, h5, h6, h7, h8⟩, by rw [this]; simp, by rw [this] at h4 ⊢; simp at h4 ⊢; omega⟩
    · rw [if_neg hl]
      exact ⟨⟨0, mk0 _ _ _ _ _ h3.2.2 (by simp [tells]; omega)⟩, .inr (.inr (.inr (.inr ⟨rfl, q2⟩))), by simp⟩
theorem inv_body (I : Inv mx s came told bound size g) (n : Int) : if (bodyS s n).2 = 0 then 0 ≤ n ∧ n ≤ 4294967295 ∧ ∃ g', Inv mx (bodyS s n).1 came told (if n ≤ (mx : Nat) then n.toNat + 1 else 223) n.toNat g' else (bodyS s n).1 = s := by
  obtain ⟨h1, h2, h3, h4, h5, h6, h7, h8⟩ := I
  unfold bodyS
  by_cases c : n < 0 ∨ 4294967295 < n ∨ s.st ≠ 0
  · rw [if_pos c, if_neg (by simp)]
  · rw [if_neg c]
    have c0 : s.st = 0 := by omega
    by_cases c2 : n ≤ (s.most : Nat)
    · rw [if_pos c2, if_pos rfl, if_pos (by rw [← h2.1]; exact c2)]
      refine ⟨by omega, by omega, g, by simp, h2, by simp only; omega, h4, fun h => by simp at h, fun h => by simp at h, fun _ => ⟨rfl, by omega, rfl⟩, fun h => by simp at h⟩
    · rw [if_neg c2, if_pos rfl, if_neg (by rw [← h2.1]; exact c2)]
      refine ⟨by omega, by omega, g + min (n.toNat + 2) s.held.length, by simp, h2, by simp only; omega, by simp only [List.length_drop]; omega, fun h => by simp at h, fun h => by simp at h, fun h => by simp at h, fun _ => ⟨rfl, by omega, by simp only; omega, fun h => ?_⟩⟩
      simp only at h ⊢
      exact List.drop_eq_nil_of_le (by omega)
end Go.Proofs.Ytccfcegmaejlnaa
namespace Go.Proofs.Ytccfcegmaejlnaa
open Go Go.HL
set_option maxRecDepth 100000
set_option maxHeartbeats 40000000
set_option linter.unusedSimpArgs false
attribute [local irreducible] pt My Ex Vw Gr GrK each grp exs Sat takeCells happend hbuildSlice hstore hbox hslice hmakeSlice hs2b hcopy HL.unit opC
theorem skipL_app1 : ∀ (a b : List UInt8) (h : Bool), (skipL h a).2.1 = true → skipL h (a ++ b) = ((skipL h a).1, true, (skipL h a).2.2 ++ b)
  | [], b, h, e => by simp [skipL] at e
  | c :: a, b, h, e => by
    rw [List.cons_append]
    unfold skipL at e ⊢
    split
    · rfl
    · rename_i hc
      rw [if_neg hc] at e
      exact skipL_app1 a b _ e
theorem skipL_app0 : ∀ (a b : List UInt8) (h : Bool), (skipL h a).2.1 = false → skipL h (a ++ b) = skipL (skipL h a).1 b
  | [], b, h, e => rfl
  | c :: a, b, h, e => by
    rw [List.cons_append]
    have h1 : skipL h (c :: (a ++ b)) = if (h && c == 10) = true then (h, true, a ++ b) else skipL (c == 13) (a ++ b) := rfl
    have h2 : skipL h (c :: a) = if (h && c == 10) = true then (h, true, a) else skipL (c == 13) a := rfl
    rw [h2] at e ⊢
    rw [h1]
    split
    · rename_i hc
      rw [if_pos hc] at e; cases e
    · rename_i hc
      rw [if_neg hc] at e
      exact skipL_app0 a b _ e
/-- how bytes are cut is not seen. -/
theorem feed_app (s : St) (a b : List UInt8) : feedF (feedF s a) b = feedF s (a ++ b) := by
  by_cases c1 : s.st = 1 ∧ s.ended = false
  · obtain ⟨e1, e2⟩ := c1
    rw [feedF1 (s := s) (bs := a) e1 e2, feedF1 (s := s) (bs := a ++ b) e1 e2]
    cases he : (skipL s.half a).2.1 with
    | true =>
      rw [feedF3 (.inr rfl) (by simp only; omega), skipL_app1 a b s.half he]
      simp
    | false =>
      have e3 := feedF1 (s := { s with half := (skipL s.half a).1, ended := false, held := s.held ++ (skipL s.half a).2.2 }) (bs := b) e1 rfl
      rw [e3, skipL_app0 a b s.half he, skipL_none a s.half he]
      simp
  · by_cases c3 : s.st = 3
    · have e0 := feedF2 (s := s) (bs := a) c3
      have e1 := feedF2 (s := s) (bs := a ++ b) c3
      have e2 := feedF2 (s := { s with left := s.left - min s.left a.length, held := s.held ++ a.drop (min s.left a.length) }) (bs := b) c3
      rw [e0, e1, e2]
      simp only [List.length_append]
      congr 1
      · rw [List.append_assoc]
        congr 1
        rw [List.drop_append]
        congr 1
        · by_cases hl : s.left ≤ a.length
          · rw [Nat.min_eq_left hl, Nat.min_eq_left (by omega)]
          · rw [List.drop_eq_nil_of_le (by omega), List.drop_eq_nil_of_le (by omega)]
        · congr 1; omega
      · omega
    · have h3 : s.st ≠ 1 ∨ s.ended = true := by
        by_cases e : s.st = 1
        · right
          cases he : s.ended with
          | true => rfl
          | false => exact absurd ⟨e, he⟩ c1
        · exact .inl e
      have e0 := feedF3 (s := s) (bs := a) h3 c3
      have e1 := feedF3 (s := s) (bs := a ++ b) h3 c3
      have e2 := feedF3 (s := { s with held := s.held ++ a }) (bs := b) h3 c3
      rw [e0, e1, e2]
      simp
theorem feed_len (s : St) (b : List UInt8) : (feedF s b).held.length ≤ s.held.length + b.length ∧ (feedF s b).left ≤ s.left ∧ (feedF s b).st = s.st ∧ (feedF s b).size = s.size := by
  unfold feedF
  split
  · have := skipL_len s.half b
    simp only [List.length_append, and_true, true_and]
    omega
  · split
    · simp only [List.length_append, List.length_drop]
      simp only [and_true]
      omega
    · simp

theorem alike21 {hs : HS} {l : List SA} {k k' : Int} {t t' x y : List UInt8} {va vb : HV} (H : Sat hs l) (A : Rdl l va x.length (bcells x)) (B : Rdl l vb y.length (bcells y)) (hx : x.length < 4611686018427387904) :
    HC Try.prog 21 [.agg [.int .i64 k, .str t, va], .agg [.int .i64 k', .str t', vb]] hs fun v hs' => v = .bool (decide (k = k') && (t == t') && (x == y)) ∧ Sat hs' l := by
  have a1 := (A _ H).one
  have b1 := (B _ H).one
  refine HC.wp mixed Try.func21 c21 ?_
  first | have f0 := Sat.pf (H) | have f0 := trivial
  first | have f1 := Sat.pf (H.t) | have f1 := trivial
  first | have f2 := Sat.pf (H.t.t) | have f2 := trivial
  first | have f3 := Sat.pf (H.t.t.t) | have f3 := trivial
  first | have f4 := Sat.pf (H.t.t.t.t) | have f4 := trivial
  first | have f5 := Sat.pf (H.t.t.t.t.t) | have f5 := trivial
  first | have f6 := Sat.pf (H.t.t.t.t.t.t) | have f6 := trivial
  first | have f7 := Sat.pf (H.t.t.t.t.t.t.t) | have f7 := trivial
  repeat' first
    | ((with_reducible show Need _); refine need_of ?_; (first | have f0 := Sat.pf (H) | have f0 := trivial); (first | have f1 := Sat.pf (H.t) | have f1 := trivial); (first | have f2 := Sat.pf (H.t.t) | have f2 := trivial); (first | have f3 := Sat.pf (H.t.t.t) | have f3 := trivial); (first | have f4 := Sat.pf (H.t.t.t.t) | have f4 := trivial); (first | have f5 := Sat.pf (H.t.t.t.t.t) | have f5 := trivial); (first | have f6 := Sat.pf (H.t.t.t.t.t.t) | have f6 := trivial); (first | have f7 := Sat.pf (H.t.t.t.t.t.t.t) | have f7 := trivial))
    | simp -implicitDefEqProofs (disch := first | omega | decide | exact rfl | assumption | exact Nat.le_of_ble_eq_true rfl | exact One.c | exact One.o) only [vsA, vsB, eq_self, if_true, if_false, implies_true, false_implies, evp, HX.ev, Nat.reduceAdd, HOp.looks, Nat.reduceEqDiff, overw, Nat.reduceBEq, h21, a1, b1, ub21, f0, f1, f2, f3, f4, f5, f6, f7, frame0, List.replicate, Nat.sub]
    | (refine condK_cases (fun h => ?_) (fun h => ?_) <;> (try simp only [h]) <;> (try simp only [athA, ne_eq] at h) <;> (try (exfalso; omega)))
    | (refine guardK_cases (fun h => ?_) (fun h => ?_) <;> (try simp only [h]) <;> (try simp only [athA, ne_eq] at h) <;> (try (exfalso; omega)))
    | (clear H f0 f1 f2 f3 f4 f5 f6 f7; (with_reducible intro v2 hs H); (try simp only [setA, overw, Nat.reduceAdd] at H); refine need ?_)
    | ((with_reducible show actK _ (HAct.call (HX.cst (HV.func (Fn.func 33) _ _)) _) _ _ _ _ _); refine vcall_of ok33 rfl (same33 (A _ H.t.t) (B _ H.t.t) hx) ?_; rintro _ _ ⟨rfl, rfl⟩)
    | refine opC_K ?_
    | ((with_reducible show opC (hbox _ _) _); refine sl_box1 H (by first | exact rfl | (simp only [f0, f1, f2, f3, f4, f5, f6, f7]; done) | (simp only [onA, *]; done)) (by first | exact rfl | (simp only [f0, f1, f2, f3, f4, f5, f6, f7]; done) | (simp only [onA, *]; done)) ?_)
    | ((with_reducible show opC (hbox _ _) _); refine sl_boxA H (by first | exact rfl | (simp only [f0, f1, f2, f3, f4, f5, f6, f7]; done) | (simp only [onA, *]; done)) ?_)
    | with_reducible intro hy

  all_goals exact ⟨congrArg HV.bool (by simp [*]), H.t.t⟩
end Go.Proofs.Ytccfcegmaejlnaa
namespace Go.Proofs.Ytccfcegmaejlnaa
open Go Go.HL
set_option maxRecDepth 100000
set_option maxHeartbeats 40000000
set_option linter.unusedSimpArgs false
attribute [local irreducible] pt My Ex Vw Gr GrK each grp exs Sat takeCells happend hbuildSlice hstore hbox hslice hmakeSlice hs2b hcopy HL.unit opC
theorem ok10 : okF Try.prog 10 := ⟨_, Try.func10, by kernel_rfl, by kernel_rfl⟩
theorem ok11 : okF Try.prog 11 := ⟨_, Try.func11, by kernel_rfl, by kernel_rfl⟩
theorem ok13 : okF Try.prog 13 := ⟨_, Try.func13, by kernel_rfl, by kernel_rfl⟩
theorem ok15 : okF Try.prog 15 := ⟨_, Try.func15, by kernel_rfl, by kernel_rfl⟩
theorem ok29 : okF Try.prog 29 := ⟨_, Try.func29, by kernel_rfl, by kernel_rfl⟩
theorem ok30 : okF Try.prog 30 := ⟨_, Try.func30, by kernel_rfl, by kernel_rfl⟩
theorem ok31 : okF Try.prog 31 := ⟨_, Try.func31, by kernel_rfl, by kernel_rfl⟩
theorem ok32 : okF Try.prog 32 := ⟨_, Try.func32, by kernel_rfl, by kernel_rfl⟩
theorem ok34 : okF Try.prog 34 := ⟨_, Try.func34, by kernel_rfl, by kernel_rfl⟩
theorem ok42 : okF Try.prog 42 := ⟨_, Try.func42, by kernel_rfl, by kernel_rfl⟩
theorem ok43 : okF Try.prog 43 := ⟨_, Try.func43, by kernel_rfl, by kernel_rfl⟩
theorem ok44 : okF Try.prog 44 := ⟨_, Try.func44, by kernel_rfl, by kernel_rfl⟩
theorem ok45 : okF Try.prog 45 := ⟨_, Try.func45, by kernel_rfl, by kernel_rfl⟩
theorem ok46 : okF Try.prog 46 := ⟨_, Try.func46, by kernel_rfl, by kernel_rfl⟩
/-- the document's state beside the intake's. -/
structure Sim (s : St) (n : Nat) (cr en : Bool) : Prop where
  s2 : s.st = 2 → n = s.size
  s3 : s.st = 3 → n = s.left
  s1 : s.st = 1 → en = s.ended ∧ (en = false → cr = s.half)
def RCs (s : St) (v : HV) (n : Nat) (cr en : Bool) : List HV := [.int .i64 (s.most : Nat), .int .i64 (s.st : Nat), v, .int .i64 (n : Nat), .bool cr, .bool en]
def RefP (p : Nat) (s : St) : SA := exs fun (r : HV × Nat × Bool × Bool) => grp [pur (Sim s r.2.1 r.2.2.1 r.2.2.2), pt p (.cells 1 (RCs s r.1 r.2.1 r.2.2.1 r.2.2.2) false false []), My 1 r.1 s.held.length (bcells s.held)]
theorem ref_open {hs : HS} {l : List SA} {p : Nat} {s : St} : Sat hs (RefP p s :: l) ↔ ∃ v n cr en, Sim s n cr en ∧ Sat hs (pt p (.cells 1 (RCs s v n cr en) false false []) :: My 1 v s.held.length (bcells s.held) :: l) := by
  unfold RefP
  rw [Sat.exs_iff]
  constructor
  · rintro ⟨⟨v, n, cr, en⟩, h⟩
    have h := Sat.grp_iff.1 h
    exact ⟨v, n, cr, en, Sat.pur_iff.1 h⟩
  · rintro ⟨v, n, cr, en, h⟩
    exact ⟨⟨v, n, cr, en⟩, Sat.grp_iff.2 (Sat.pur_iff.2 h)⟩
theorem rheld15 {hs : HS} {l : List SA} {p : Nat} {s : St} (H : Sat hs (RefP p s :: l)) : HC Try.prog 15 [.ptr p 0] hs fun v hs' => v = .int .i64 (s.held.length : Nat) ∧ hs' = hs := by
  obtain ⟨v, n, cr, en, hS, H⟩ := ref_open.1 H
  simp only [RCs] at H
  refine HC.wp mixed Try.func15 c15 ?_
  first | have f0 := Sat.pf (H) | have f0 := trivial
  first | have f1 := Sat.pf (H.t) | have f1 := trivial
  first | have f2 := Sat.pf (H.t.t) | have f2 := trivial
  first | have f3 := Sat.pf (H.t.t.t) | have f3 := trivial
  first | have f4 := Sat.pf (H.t.t.t.t) | have f4 := trivial
  first | have f5 := Sat.pf (H.t.t.t.t.t) | have f5 := trivial
  first | have f6 := Sat.pf (H.t.t.t.t.t.t) | have f6 := trivial
  first | have f7 := Sat.pf (H.t.t.t.t.t.t.t) | have f7 := trivial
  repeat' first
    | ((with_reducible show Need _); refine need_of ?_; (first | have f0 := Sat.pf (H) | have f0 := trivial); (first | have f1 := Sat.pf (H.t) | have f1 := trivial); (first | have f2 := Sat.pf (H.t.t) | have f2 := trivial); (first | have f3 := Sat.pf (H.t.t.t) | have f3 := trivial); (first | have f4 := Sat.pf (H.t.t.t.t) | have f4 := trivial); (first | have f5 := Sat.pf (H.t.t.t.t.t) | have f5 := trivial); (first | have f6 := Sat.pf (H.t.t.t.t.t.t) | have f6 := trivial); (first | have f7 := Sat.pf (H.t.t.t.t.t.t.t) | have f7 := trivial))
    | simp -implicitDefEqProofs (disch := first | omega | decide | exact rfl | assumption | exact Nat.le_of_ble_eq_true rfl | exact One.c | exact One.o) only [vsA, vsB, eq_self, if_true, if_false, implies_true, false_implies, evp, HX.ev, Nat.reduceAdd, HOp.looks, Nat.reduceEqDiff, overw, Nat.reduceBEq, h15, f0, f1, f2, f3, f4, f5, f6, f7, frame0, List.replicate, Nat.sub]
    | (refine condK_cases (fun h => ?_) (fun h => ?_) <;> (try simp only [h]) <;> (try simp only [athA, ne_eq] at h) <;> (try (exfalso; omega)))
    | (refine guardK_cases (fun h => ?_) (fun h => ?_) <;> (try simp only [h]) <;> (try simp only [athA, ne_eq] at h) <;> (try (exfalso; omega)))
    | (clear H f0 f1 f2 f3 f4 f5 f6 f7; (with_reducible intro v2 hs H); (try simp only [setA, overw, Nat.reduceAdd] at H); refine need ?_)
    | refine opC_K ?_
    | with_reducible intro hy

theorem rnew29 {hs : HS} {l : List SA} (H : Sat hs l) (m : Int) :
    HC Try.prog 29 [.int .i64 m] hs fun v hs' => if m < 1 ∨ 65535 < m then v = .tup [.nilPtr, .int .i64 60] ∧ Sat hs' l else ∃ p, v = .tup [.ptr p 0, .int .i64 0] ∧ Sat hs' (RefP p (newS m.toNat) :: l) := by
  refine HC.wp mixed Try.func29 c29 ?_
  first | have f0 := Sat.pf (H) | have f0 := trivial
  first | have f1 := Sat.pf (H.t) | have f1 := trivial
  first | have f2 := Sat.pf (H.t.t) | have f2 := trivial
  first | have f3 := Sat.pf (H.t.t.t) | have f3 := trivial
  first | have f4 := Sat.pf (H.t.t.t.t) | have f4 := trivial
  first | have f5 := Sat.pf (H.t.t.t.t.t) | have f5 := trivial
  first | have f6 := Sat.pf (H.t.t.t.t.t.t) | have f6 := trivial
  first | have f7 := Sat.pf (H.t.t.t.t.t.t.t) | have f7 := trivial
  repeat' first
    | ((with_reducible show Need _); refine need_of ?_; (first | have f0 := Sat.pf (H) | have f0 := trivial); (first | have f1 := Sat.pf (H.t) | have f1 := trivial); (first | have f2 := Sat.pf (H.t.t) | have f2 := trivial); (first | have f3 := Sat.pf (H.t.t.t) | have f3 := trivial); (first | have f4 := Sat.pf (H.t.t.t.t) | have f4 := trivial); (first | have f5 := Sat.pf (H.t.t.t.t.t) | have f5 := trivial); (first | have f6 := Sat.pf (H.t.t.t.t.t.t) | have f6 := trivial); (first | have f7 := Sat.pf (H.t.t.t.t.t.t.t) | have f7 := trivial))
    | simp -implicitDefEqProofs (disch := first | omega | decide | exact rfl | assumption | exact Nat.le_of_ble_eq_true rfl | exact One.c | exact One.o) only [vsA, vsB, eq_self, if_true, if_false, implies_true, false_implies, evp, HX.ev, Nat.reduceAdd, HOp.looks, Nat.reduceEqDiff, overw, Nat.reduceBEq, h29, ub29, f0, f1, f2, f3, f4, f5, f6, f7, frame0, List.replicate, Nat.sub]
    | (refine condK_cases (fun h => ?_) (fun h => ?_) <;> (try simp only [h]) <;> (try simp only [athA, ne_eq] at h) <;> (try (exfalso; omega)))
    | (refine guardK_cases (fun h => ?_) (fun h => ?_) <;> (try simp only [h]) <;> (try simp only [athA, ne_eq] at h) <;> (try (exfalso; omega)))
    | (clear H f0 f1 f2 f3 f4 f5 f6 f7; (with_reducible intro v2 hs H); (try simp only [setA, overw, Nat.reduceAdd] at H); refine need ?_)
    | refine opC_K ?_
    | ((with_reducible show opC (hbox _ _) _); refine sl_box1 H (by first | exact rfl | (simp only [f0, f1, f2, f3, f4, f5, f6, f7]; done) | (simp only [onA, *]; done)) (by first | exact rfl | (simp only [f0, f1, f2, f3, f4, f5, f6, f7]; done) | (simp only [onA, *]; done)) ?_)
    | ((with_reducible show opC (hbox _ _) _); refine sl_boxA H (by first | exact rfl | (simp only [f0, f1, f2, f3, f4, f5, f6, f7]; done) | (simp only [onA, *]; done)) ?_)
    | with_reducible intro hy

  iterate 2
    · rw [if_pos (by omega)]; exact H
  rw [if_neg (by omega)]
  obtain ⟨k, rfl⟩ := Int.eq_ofNat_of_zero_le (show 0 ≤ m by omega)
  exact ⟨_, rfl, ref_open.2 ⟨.nilSlice, 0, false, false, ⟨by simp [newS], by simp [newS], by simp [newS]⟩, H.own0.p1⟩⟩
theorem skipL1 (h : Bool) (c : UInt8) : skipL h [c] = if h && c == 10 then (h, true, []) else (c == 13, false, []) := by
  simp only [skipL]
theorem feed_take {s : St} {bs : List UInt8} {i : Nat} {c : UInt8} (h : bs[i]? = some c) : feedF s (bs.take (i + 1)) = feedF (feedF s (bs.take i)) [c] := by
  rw [feed_app, List.take_add_one, h]; rfl
theorem feed_nil (s : St) (h : s.st = 1 → s.ended = false → s.ended = false) : feedF s [] = s := by
  unfold feedF
  split
  · rename_i hc
    simp [skipL, hc.2]
    rw [← hc.2]
  · split <;> simp
theorem rfeed42 {hs : HS} {l : List SA} {p : Nat} {s : St} {b : HV} {bs : List UInt8} (H : Sat hs (RefP p s :: l)) (R : Rdl l b bs.length (bcells bs)) (hb : s.held.length + bs.length < 46116860184) (hl : s.left < 4611686018427387904) :
    HC Try.prog 42 [.ptr p 0, b] hs fun _ hs' => Sat hs' (RefP p (feedF s bs) :: l) := by
  obtain ⟨v, n, cr, en, hS, H⟩ := ref_open.1 H
  simp only [RCs] at H
  have lb := fun hs => (R _ H.t.t).len hs
  have hmax : maxLen = 9223372036854775807 := rfl
  refine HC.wp mixed Try.func42 c42 ?_
  first | have f0 := Sat.pf (H) | have f0 := trivial
  first | have f1 := Sat.pf (H.t) | have f1 := trivial
  first | have f2 := Sat.pf (H.t.t) | have f2 := trivial
  first | have f3 := Sat.pf (H.t.t.t) | have f3 := trivial
  first | have f4 := Sat.pf (H.t.t.t.t) | have f4 := trivial
  first | have f5 := Sat.pf (H.t.t.t.t.t) | have f5 := trivial
  first | have f6 := Sat.pf (H.t.t.t.t.t.t) | have f6 := trivial
  first | have f7 := Sat.pf (H.t.t.t.t.t.t.t) | have f7 := trivial
  repeat' first
    | ((with_reducible show Need _); refine need_of ?_; (first | have f0 := Sat.pf (H) | have f0 := trivial); (first | have f1 := Sat.pf (H.t) | have f1 := trivial); (first | have f2 := Sat.pf (H.t.t) | have f2 := trivial); (first | have f3 := Sat.pf (H.t.t.t) | have f3 := trivial); (first | have f4 := Sat.pf (H.t.t.t.t) | have f4 := trivial); (first | have f5 := Sat.pf (H.t.t.t.t.t) | have f5 := trivial); (first | have f6 := Sat.pf (H.t.t.t.t.t.t) | have f6 := trivial); (first | have f7 := Sat.pf (H.t.t.t.t.t.t.t) | have f7 := trivial))
    | simp -implicitDefEqProofs (disch := first | omega | decide | exact rfl | assumption | exact Nat.le_of_ble_eq_true rfl | exact One.c | exact One.o) only [vsA, vsB, eq_self, if_true, if_false, implies_true, false_implies, evp, HX.ev, Nat.reduceAdd, HOp.looks, Nat.reduceEqDiff, overw, Nat.reduceBEq, h42, lb, ub42, f0, f1, f2, f3, f4, f5, f6, f7, frame0, List.replicate, Nat.sub]
    | (refine condK_cases (fun h => ?_) (fun h => ?_) <;> (try simp only [h]) <;> (try simp only [athA, ne_eq] at h) <;> (try (exfalso; omega)))
    | (refine guardK_cases (fun h => ?_) (fun h => ?_) <;> (try simp only [h]) <;> (try simp only [athA, ne_eq] at h) <;> (try (exfalso; omega)))
    | (clear H f0 f1 f2 f3 f4 f5 f6 f7; (with_reducible intro v2 hs H); (try simp only [setA, overw, Nat.reduceAdd] at H); refine need ?_)
    | refine opC_K ?_
    | ((with_reducible show opC (unit (hstore _ _ _ _)) _); refine sl_store1 (by with_reducible first | exact H | exact H.p1 | exact H.p2 | exact H.p3 | exact H.p4 | exact H.p5 | exact H.p6 | exact H.p7) (Nat.le_of_ble_eq_true rfl) (by first | exact rfl | (simp only [f0, f1, f2, f3, f4, f5, f6, f7]; done) | (simp only [onA, *]; done)) (by first | exact rfl | (simp only [f0, f1, f2, f3, f4, f5, f6, f7]; done) | (simp only [onA, *]; done)) ?_)
    | ((with_reducible show opC (unit (hstore _ _ _ _)) _); refine sl_storeN (by with_reducible first | exact H | exact H.p1 | exact H.p2 | exact H.p3 | exact H.p4 | exact H.p5 | exact H.p6 | exact H.p7) rfl (Nat.le_of_ble_eq_true rfl) (by first | exact rfl | (simp only [f0, f1, f2, f3, f4, f5, f6, f7]; done) | (simp only [onA, *]; done)) ?_)
    | ((with_reducible show opC (happend _ _ _ _ _) _); refine sl_append (by with_reducible first | exact H | exact H.p1 | exact H.p2 | exact H.p3 | exact H.p4 | exact H.p5 | exact H.p6 | exact H.p7) (by first | assumption | with_reducible first | exact f0.2.1 | exact f1.2.1 | exact f2.2.1 | exact f3.2.1 | exact f4.2.1 | exact f5.2.1 | exact f6.2.1 | exact f7.2.1 | exact va_takeS) (by first | exact roomFor_of (by omega) | exact roomFor_wide (by omega)) (by omega) ?_)
    | ((with_reducible show opC (happend _ _ _ _ _) _); refine sl_append0X H (by first | assumption | with_reducible first | exact f0.2.1 | exact f1.2.1 | exact f2.2.1 | exact f3.2.1 | exact f4.2.1 | exact f5.2.1 | exact f6.2.1 | exact f7.2.1 | exact va_takeS) (by first | exact roomFor_of (by omega) | exact roomFor_wide (by omega)) (by omega) ?_)
    | ((with_reducible show opC (happend _ _ _ _ _) _); refine sl_appendX (by with_reducible first | exact H | exact H.p1 | exact H.p2 | exact H.p3 | exact H.p4 | exact H.p5 | exact H.p6 | exact H.p7) (by first | assumption | with_reducible first | exact f0.2.1 | exact f1.2.1 | exact f2.2.1 | exact f3.2.1 | exact f4.2.1 | exact f5.2.1 | exact f6.2.1 | exact f7.2.1 | exact va_takeS) (by first | exact roomFor_of (by omega) | exact roomFor_wide (by omega)) (by omega) ?_)
    | ((with_reducible show opC (hbuildSlice _ _ _ _ _) _); refine sl_bslice1 H rfl (by first | exact rfl | (simp only [f0, f1, f2, f3, f4, f5, f6, f7]; done) | (simp only [onA, *]; done)) (by first | exact rfl | (simp only [f0, f1, f2, f3, f4, f5, f6, f7]; done) | (simp only [onA, *]; done)) ?_)
    | with_reducible intro hy

  have f0 := feed_nil s (fun _ h => h)
  refine HW.loopA mixed (fun s : Nat × HV × Nat × Bool × Bool => (.ptr p 0 :: .undef :: .undef :: .undef :: .undef :: .undef :: b :: .int .i64 (bs.length : Nat) :: .int .i64 (s.1 : Nat) :: .undef :: .undef :: .undef :: .undef :: .undef :: .undef :: .undef :: .undef :: .undef :: .undef :: .undef :: .undef :: .undef :: .undef :: .undef :: .undef :: .undef :: .undef :: .undef :: .undef :: .undef :: .undef :: .undef :: .undef :: .undef :: .undef :: .undef :: .undef :: .undef :: .undef :: .undef :: .undef :: .undef :: .undef :: .undef :: .undef :: .undef :: .undef :: .undef :: .undef :: .undef :: .undef :: .undef :: .undef :: .undef :: .undef :: .undef :: .undef :: .undef :: .undef :: .undef :: .undef :: .undef :: .undef :: .undef :: .undef :: .undef :: .undef :: .undef :: .undef :: .undef :: []))
    (fun t => pt p (.cells 1 (RCs s t.2.1 t.2.2.1 t.2.2.2.1 t.2.2.2.2) false false []) :: My 1 t.2.1 (feedF s (bs.take t.1)).held.length (bcells (feedF s (bs.take t.1)).held) :: l)
    (fun s => bs.length - s.1) (fun t => t.1 ≤ bs.length ∧ Sim (feedF s (bs.take t.1)) t.2.2.1 t.2.2.2.1 t.2.2.2.2) (0, v, n, cr, en) ⟨by omega, by rw [List.take_zero, f0]; exact hS⟩ (by (repeat first | exact Less.nil | refine Less.undef _ ?_ | refine Less.keep _ ?_)) (by rw [List.take_zero, f0]; exact H) ?_
  clear hS H
  rintro ⟨i, v, n, cr, en⟩ hs ⟨hi, hS⟩ H
  simp only at hi hS H
  obtain ⟨ln, lf, hst, hsz⟩ := feed_len s (bs.take i)
  rw [List.length_take] at ln
  by_cases hlt : i < bs.length
  · have hc := List.getElem?_eq_getElem hlt
    have ft := feed_take (s := s) hc
    obtain ⟨q, hq1, hq2⟩ := (R _ H.t.t).idx1 (bc_get hlt) .i64
    have rb := (R _ H.t.t).sOk
    generalize bs[i] = c at *
    generalize feedF s (bs.take i) = t at *
    obtain ⟨s2, s3, s1⟩ := hS
    simp only [RCs] at H
    first | have f0 := Sat.pf (H) | have f0 := trivial
    first | have f1 := Sat.pf (H.t) | have f1 := trivial
    first | have f2 := Sat.pf (H.t.t) | have f2 := trivial
    first | have f3 := Sat.pf (H.t.t.t) | have f3 := trivial
    first | have f4 := Sat.pf (H.t.t.t.t) | have f4 := trivial
    first | have f5 := Sat.pf (H.t.t.t.t.t) | have f5 := trivial
    first | have f6 := Sat.pf (H.t.t.t.t.t.t) | have f6 := trivial
    first | have f7 := Sat.pf (H.t.t.t.t.t.t.t) | have f7 := trivial
    by_cases c1 : t.st = 1 ∧ t.ended = false
    · obtain ⟨c1, c1e⟩ := c1
      obtain ⟨g1, g2⟩ := s1 c1
      rw [c1e] at g1
      have g2 := g2 g1
      have t' := feedF1 (bs := [c]) c1 c1e
      rw [← g2, skipL1] at t'
      subst g1
      have d1 : decide ((s.st : Int) = 1) = true := by simp; omega
      cases cr with
      | true =>
        by_cases h10 : (c == 10) = true
        · rw [if_pos (by simpa using h10)] at t'
          repeat' first
            | ((with_reducible show Need _); refine need_of ?_; (first | have f0 := Sat.pf (H) | have f0 := trivial); (first | have f1 := Sat.pf (H.t) | have f1 := trivial); (first | have f2 := Sat.pf (H.t.t) | have f2 := trivial); (first | have f3 := Sat.pf (H.t.t.t) | have f3 := trivial); (first | have f4 := Sat.pf (H.t.t.t.t) | have f4 := trivial); (first | have f5 := Sat.pf (H.t.t.t.t.t) | have f5 := trivial); (first | have f6 := Sat.pf (H.t.t.t.t.t.t) | have f6 := trivial); (first | have f7 := Sat.pf (H.t.t.t.t.t.t.t) | have f7 := trivial); (first | have rb := (R _ H.t.t).sOk | skip))
            | simp -implicitDefEqProofs (disch := first | omega | decide | exact rfl | assumption | exact Nat.le_of_ble_eq_true rfl | exact One.c | exact One.o) only [vsA, vsB, eq_self, if_true, if_false, implies_true, false_implies, evp, HX.ev, Nat.reduceAdd, HOp.looks, Nat.reduceEqDiff, overw, Nat.reduceBEq, hq1, hq2, rb, u8e10, u8e13, vadd1, d1, h10, ub42, f0, f1, f2, f3, f4, f5, f6, f7]
            | (refine condK_cases (fun h => ?_) (fun h => ?_) <;> (try simp only [h]) <;> (try simp only [athA, ne_eq] at h) <;> (try (exfalso; omega)))
            | (refine guardK_cases (fun h => ?_) (fun h => ?_) <;> (try simp only [h]) <;> (try simp only [athA, ne_eq] at h) <;> (try (exfalso; omega)))
            | (clear H f0 f1 f2 f3 f4 f5 f6 f7; (with_reducible intro v2 hs H); (try simp only [setA, overw, Nat.reduceAdd] at H); refine need ?_)
            | refine opC_K ?_
            | ((with_reducible show opC (unit (hstore _ _ _ _)) _); refine sl_store1 (by with_reducible first | exact H | exact H.p1 | exact H.p2 | exact H.p3 | exact H.p4 | exact H.p5 | exact H.p6 | exact H.p7) (Nat.le_of_ble_eq_true rfl) (by first | exact rfl | (simp only [f0, f1, f2, f3, f4, f5, f6, f7]; done) | (simp only [onA, *]; done)) (by first | exact rfl | (simp only [f0, f1, f2, f3, f4, f5, f6, f7]; done) | (simp only [onA, *]; done)) ?_)
            | ((with_reducible show opC (unit (hstore _ _ _ _)) _); refine sl_storeN (by with_reducible first | exact H | exact H.p1 | exact H.p2 | exact H.p3 | exact H.p4 | exact H.p5 | exact H.p6 | exact H.p7) rfl (Nat.le_of_ble_eq_true rfl) (by first | exact rfl | (simp only [f0, f1, f2, f3, f4, f5, f6, f7]; done) | (simp only [onA, *]; done)) ?_)
            | ((with_reducible show opC (happend _ _ _ _ _) _); refine sl_append (by with_reducible first | exact H | exact H.p1 | exact H.p2 | exact H.p3 | exact H.p4 | exact H.p5 | exact H.p6 | exact H.p7) (by first | assumption | with_reducible first | exact f0.2.1 | exact f1.2.1 | exact f2.2.1 | exact f3.2.1 | exact f4.2.1 | exact f5.2.1 | exact f6.2.1 | exact f7.2.1 | exact va_takeS) (by first | exact roomFor_of (by omega) | exact roomFor_wide (by omega)) (by omega) ?_)
            | ((with_reducible show opC (happend _ _ _ _ _) _); refine sl_append0X H (by first | assumption | with_reducible first | exact f0.2.1 | exact f1.2.1 | exact f2.2.1 | exact f3.2.1 | exact f4.2.1 | exact f5.2.1 | exact f6.2.1 | exact f7.2.1 | exact va_takeS) (by first | exact roomFor_of (by omega) | exact roomFor_wide (by omega)) (by omega) ?_)
            | ((with_reducible show opC (happend _ _ _ _ _) _); refine sl_appendX (by with_reducible first | exact H | exact H.p1 | exact H.p2 | exact H.p3 | exact H.p4 | exact H.p5 | exact H.p6 | exact H.p7) (by first | assumption | with_reducible first | exact f0.2.1 | exact f1.2.1 | exact f2.2.1 | exact f3.2.1 | exact f4.2.1 | exact f5.2.1 | exact f6.2.1 | exact f7.2.1 | exact va_takeS) (by first | exact roomFor_of (by omega) | exact roomFor_wide (by omega)) (by omega) ?_)
            | ((with_reducible show opC (hbuildSlice _ _ _ _ _) _); refine sl_bslice1 H rfl (by first | exact rfl | (simp only [f0, f1, f2, f3, f4, f5, f6, f7]; done) | (simp only [onA, *]; done)) (by first | exact rfl | (simp only [f0, f1, f2, f3, f4, f5, f6, f7]; done) | (simp only [onA, *]; done)) ?_)
            | with_reducible intro hy

          refine ⟨(i + 1, v, n, c == 13, true), _, by simp only; omega, ⟨by simp only; omega, ?_⟩, (by (repeat first | exact Less.nil | refine Less.undef _ ?_ | refine Less.keep _ ?_)), Weak.refl _, ?_⟩
          · simp only; rw [ft, t']; exact ⟨by simp only; omega, by simp only; omega, by simp⟩
          · simp only [RCs]; rw [ft, t']; simp only [List.append_nil]; exact H
        · rw [if_neg (by simpa using h10)] at t'
          repeat' first
            | ((with_reducible show Need _); refine need_of ?_; (first | have f0 := Sat.pf (H) | have f0 := trivial); (first | have f1 := Sat.pf (H.t) | have f1 := trivial); (first | have f2 := Sat.pf (H.t.t) | have f2 := trivial); (first | have f3 := Sat.pf (H.t.t.t) | have f3 := trivial); (first | have f4 := Sat.pf (H.t.t.t.t) | have f4 := trivial); (first | have f5 := Sat.pf (H.t.t.t.t.t) | have f5 := trivial); (first | have f6 := Sat.pf (H.t.t.t.t.t.t) | have f6 := trivial); (first | have f7 := Sat.pf (H.t.t.t.t.t.t.t) | have f7 := trivial); (first | have rb := (R _ H.t.t).sOk | skip))
            | simp -implicitDefEqProofs (disch := first | omega | decide | exact rfl | assumption | exact Nat.le_of_ble_eq_true rfl | exact One.c | exact One.o) only [vsA, vsB, eq_self, if_true, if_false, implies_true, false_implies, evp, HX.ev, Nat.reduceAdd, HOp.looks, Nat.reduceEqDiff, overw, Nat.reduceBEq, hq1, hq2, rb, u8e10, u8e13, vadd1, d1, h10, ub42, f0, f1, f2, f3, f4, f5, f6, f7]
            | (refine condK_cases (fun h => ?_) (fun h => ?_) <;> (try simp only [h]) <;> (try simp only [athA, ne_eq] at h) <;> (try (exfalso; omega)))
            | (refine guardK_cases (fun h => ?_) (fun h => ?_) <;> (try simp only [h]) <;> (try simp only [athA, ne_eq] at h) <;> (try (exfalso; omega)))
            | (clear H f0 f1 f2 f3 f4 f5 f6 f7; (with_reducible intro v2 hs H); (try simp only [setA, overw, Nat.reduceAdd] at H); refine need ?_)
            | refine opC_K ?_
            | ((with_reducible show opC (unit (hstore _ _ _ _)) _); refine sl_store1 (by with_reducible first | exact H | exact H.p1 | exact H.p2 | exact H.p3 | exact H.p4 | exact H.p5 | exact H.p6 | exact H.p7) (Nat.le_of_ble_eq_true rfl) (by first | exact rfl | (simp only [f0, f1, f2, f3, f4, f5, f6, f7]; done) | (simp only [onA, *]; done)) (by first | exact rfl | (simp only [f0, f1, f2, f3, f4, f5, f6, f7]; done) | (simp only [onA, *]; done)) ?_)
            | ((with_reducible show opC (unit (hstore _ _ _ _)) _); refine sl_storeN (by with_reducible first | exact H | exact H.p1 | exact H.p2 | exact H.p3 | exact H.p4 | exact H.p5 | exact H.p6 | exact H.p7) rfl (Nat.le_of_ble_eq_true rfl) (by first | exact rfl | (simp only [f0, f1, f2, f3, f4, f5, f6, f7]; done) | (simp only [onA, *]; done)) ?_)
            | ((with_reducible show opC (happend _ _ _ _ _) _); refine sl_append (by with_reducible first | exact H | exact H.p1 | exact H.p2 | exact H.p3 | exact H.p4 | exact H.p5 | exact H.p6 | exact H.p7) (by first | assumption | with_reducible first | exact f0.2.1 | exact f1.2.1 | exact f2.2.1 | exact f3.2.1 | exact f4.2.1 | exact f5.2.1 | exact f6.2.1 | exact f7.2.1 | exact va_takeS) (by first | exact roomFor_of (by omega) | exact roomFor_wide (by omega)) (by omega) ?_)
            | ((with_reducible show opC (happend _ _ _ _ _) _); refine sl_append0X H (by first | assumption | with_reducible first | exact f0.2.1 | exact f1.2.1 | exact f2.2.1 | exact f3.2.1 | exact f4.2.1 | exact f5.2.1 | exact f6.2.1 | exact f7.2.1 | exact va_takeS) (by first | exact roomFor_of (by omega) | exact roomFor_wide (by omega)) (by omega) ?_)
            | ((with_reducible show opC (happend _ _ _ _ _) _); refine sl_appendX (by with_reducible first | exact H | exact H.p1 | exact H.p2 | exact H.p3 | exact H.p4 | exact H.p5 | exact H.p6 | exact H.p7) (by first | assumption | with_reducible first | exact f0.2.1 | exact f1.2.1 | exact f2.2.1 | exact f3.2.1 | exact f4.2.1 | exact f5.2.1 | exact f6.2.1 | exact f7.2.1 | exact va_takeS) (by first | exact roomFor_of (by omega) | exact roomFor_wide (by omega)) (by omega) ?_)
            | ((with_reducible show opC (hbuildSlice _ _ _ _ _) _); refine sl_bslice1 H rfl (by first | exact rfl | (simp only [f0, f1, f2, f3, f4, f5, f6, f7]; done) | (simp only [onA, *]; done)) (by first | exact rfl | (simp only [f0, f1, f2, f3, f4, f5, f6, f7]; done) | (simp only [onA, *]; done)) ?_)
            | with_reducible intro hy

          refine ⟨(i + 1, v, n, c == 13, false), _, by simp only; omega, ⟨by simp only; omega, ?_⟩, (by (repeat first | exact Less.nil | refine Less.undef _ ?_ | refine Less.keep _ ?_)), Weak.refl _, ?_⟩
          · simp only; rw [ft, t']; exact ⟨by simp only; omega, by simp only; omega, by simp⟩
          · simp only [RCs]; rw [ft, t']; simp only [List.append_nil]; exact H
      | false =>
        rw [if_neg (by simp)] at t'
        repeat' first
          | ((with_reducible show Need _); refine need_of ?_; (first | have f0 := Sat.pf (H) | have f0 := trivial); (first | have f1 := Sat.pf (H.t) | have f1 := trivial); (first | have f2 := Sat.pf (H.t.t) | have f2 := trivial); (first | have f3 := Sat.pf (H.t.t.t) | have f3 := trivial); (first | have f4 := Sat.pf (H.t.t.t.t) | have f4 := trivial); (first | have f5 := Sat.pf (H.t.t.t.t.t) | have f5 := trivial); (first | have f6 := Sat.pf (H.t.t.t.t.t.t) | have f6 := trivial); (first | have f7 := Sat.pf (H.t.t.t.t.t.t.t) | have f7 := trivial); (first | have rb := (R _ H.t.t).sOk | skip))
          | simp -implicitDefEqProofs (disch := first | omega | decide | exact rfl | assumption | exact Nat.le_of_ble_eq_true rfl | exact One.c | exact One.o) only [vsA, vsB, eq_self, if_true, if_false, implies_true, false_implies, evp, HX.ev, Nat.reduceAdd, HOp.looks, Nat.reduceEqDiff, overw, Nat.reduceBEq, hq1, hq2, rb, u8e10, u8e13, vadd1, d1, ub42, f0, f1, f2, f3, f4, f5, f6, f7]
          | (refine condK_cases (fun h => ?_) (fun h => ?_) <;> (try simp only [h]) <;> (try simp only [athA, ne_eq] at h) <;> (try (exfalso; omega)))
          | (refine guardK_cases (fun h => ?_) (fun h => ?_) <;> (try simp only [h]) <;> (try simp only [athA, ne_eq] at h) <;> (try (exfalso; omega)))
          | (clear H f0 f1 f2 f3 f4 f5 f6 f7; (with_reducible intro v2 hs H); (try simp only [setA, overw, Nat.reduceAdd] at H); refine need ?_)
          | refine opC_K ?_
          | ((with_reducible show opC (unit (hstore _ _ _ _)) _); refine sl_store1 (by with_reducible first | exact H | exact H.p1 | exact H.p2 | exact H.p3 | exact H.p4 | exact H.p5 | exact H.p6 | exact H.p7) (Nat.le_of_ble_eq_true rfl) (by first | exact rfl | (simp only [f0, f1, f2, f3, f4, f5, f6, f7]; done) | (simp only [onA, *]; done)) (by first | exact rfl | (simp only [f0, f1, f2, f3, f4, f5, f6, f7]; done) | (simp only [onA, *]; done)) ?_)
          | ((with_reducible show opC (unit (hstore _ _ _ _)) _); refine sl_storeN (by with_reducible first | exact H | exact H.p1 | exact H.p2 | exact H.p3 | exact H.p4 | exact H.p5 | exact H.p6 | exact H.p7) rfl (Nat.le_of_ble_eq_true rfl) (by first | exact rfl | (simp only [f0, f1, f2, f3, f4, f5, f6, f7]; done) | (simp only [onA, *]; done)) ?_)
          | ((with_reducible show opC (happend _ _ _ _ _) _); refine sl_append (by with_reducible first | exact H | exact H.p1 | exact H.p2 | exact H.p3 | exact H.p4 | exact H.p5 | exact H.p6 | exact H.p7) (by first | assumption | with_reducible first | exact f0.2.1 | exact f1.2.1 | exact f2.2.1 | exact f3.2.1 | exact f4.2.1 | exact f5.2.1 | exact f6.2.1 | exact f7.2.1 | exact va_takeS) (by first | exact roomFor_of (by omega) | exact roomFor_wide (by omega)) (by omega) ?_)
          | ((with_reducible show opC (happend _ _ _ _ _) _); refine sl_append0X H (by first | assumption | with_reducible first | exact f0.2.1 | exact f1.2.1 | exact f2.2.1 | exact f3.2.1 | exact f4.2.1 | exact f5.2.1 | exact f6.2.1 | exact f7.2.1 | exact va_takeS) (by first | exact roomFor_of (by omega) | exact roomFor_wide (by omega)) (by omega) ?_)
          | ((with_reducible show opC (happend _ _ _ _ _) _); refine sl_appendX (by with_reducible first | exact H | exact H.p1 | exact H.p2 | exact H.p3 | exact H.p4 | exact H.p5 | exact H.p6 | exact H.p7) (by first | assumption | with_reducible first | exact f0.2.1 | exact f1.2.1 | exact f2.2.1 | exact f3.2.1 | exact f4.2.1 | exact f5.2.1 | exact f6.2.1 | exact f7.2.1 | exact va_takeS) (by first | exact roomFor_of (by omega) | exact roomFor_wide (by omega)) (by omega) ?_)
          | ((with_reducible show opC (hbuildSlice _ _ _ _ _) _); refine sl_bslice1 H rfl (by first | exact rfl | (simp only [f0, f1, f2, f3, f4, f5, f6, f7]; done) | (simp only [onA, *]; done)) (by first | exact rfl | (simp only [f0, f1, f2, f3, f4, f5, f6, f7]; done) | (simp only [onA, *]; done)) ?_)
          | with_reducible intro hy

        refine ⟨(i + 1, v, n, c == 13, false), _, by simp only; omega, ⟨by simp only; omega, ?_⟩, (by (repeat first | exact Less.nil | refine Less.undef _ ?_ | refine Less.keep _ ?_)), Weak.refl _, ?_⟩
        · simp only; rw [ft, t']; exact ⟨by simp only; omega, by simp only; omega, by simp⟩
        · simp only [RCs]; rw [ft, t']; simp only [List.append_nil]; exact H
    · by_cases c3 : t.st = 3 ∧ 0 < t.left
      · obtain ⟨c3, c3l⟩ := c3
        have t' := feedF2 (bs := [c]) c3
        have g3 := s3 c3
        have d1 : decide ((s.st : Int) = 1) = false := by simp; omega
        have d3 : decide ((s.st : Int) = 3) = true := by simp; omega
        have hm1 : hbin .sub none (.int .i64 (n : Nat)) (.int .i64 1) = some (.int .i64 ((n - 1 : Nat) : Int)) := vsubn (j := 1) (by omega)
        repeat' first
          | ((with_reducible show Need _); refine need_of ?_; (first | have f0 := Sat.pf (H) | have f0 := trivial); (first | have f1 := Sat.pf (H.t) | have f1 := trivial); (first | have f2 := Sat.pf (H.t.t) | have f2 := trivial); (first | have f3 := Sat.pf (H.t.t.t) | have f3 := trivial); (first | have f4 := Sat.pf (H.t.t.t.t) | have f4 := trivial); (first | have f5 := Sat.pf (H.t.t.t.t.t) | have f5 := trivial); (first | have f6 := Sat.pf (H.t.t.t.t.t.t) | have f6 := trivial); (first | have f7 := Sat.pf (H.t.t.t.t.t.t.t) | have f7 := trivial); (first | have rb := (R _ H.t.t).sOk | skip))
          | simp -implicitDefEqProofs (disch := first | omega | decide | exact rfl | assumption | exact Nat.le_of_ble_eq_true rfl | exact One.c | exact One.o) only [vsA, vsB, eq_self, if_true, if_false, implies_true, false_implies, evp, HX.ev, Nat.reduceAdd, HOp.looks, Nat.reduceEqDiff, overw, Nat.reduceBEq, hq1, hq2, rb, vadd1, d1, d3, hm1, ub42, f0, f1, f2, f3, f4, f5, f6, f7]
          | (refine condK_cases (fun h => ?_) (fun h => ?_) <;> (try simp only [h]) <;> (try simp only [athA, ne_eq] at h) <;> (try (exfalso; omega)))
          | (refine guardK_cases (fun h => ?_) (fun h => ?_) <;> (try simp only [h]) <;> (try simp only [athA, ne_eq] at h) <;> (try (exfalso; omega)))
          | (clear H f0 f1 f2 f3 f4 f5 f6 f7; (with_reducible intro v2 hs H); (try simp only [setA, overw, Nat.reduceAdd] at H); refine need ?_)
          | refine opC_K ?_
          | ((with_reducible show opC (unit (hstore _ _ _ _)) _); refine sl_store1 (by with_reducible first | exact H | exact H.p1 | exact H.p2 | exact H.p3 | exact H.p4 | exact H.p5 | exact H.p6 | exact H.p7) (Nat.le_of_ble_eq_true rfl) (by first | exact rfl | (simp only [f0, f1, f2, f3, f4, f5, f6, f7]; done) | (simp only [onA, *]; done)) (by first | exact rfl | (simp only [f0, f1, f2, f3, f4, f5, f6, f7]; done) | (simp only [onA, *]; done)) ?_)
          | ((with_reducible show opC (unit (hstore _ _ _ _)) _); refine sl_storeN (by with_reducible first | exact H | exact H.p1 | exact H.p2 | exact H.p3 | exact H.p4 | exact H.p5 | exact H.p6 | exact H.p7) rfl (Nat.le_of_ble_eq_true rfl) (by first | exact rfl | (simp only [f0, f1, f2, f3, f4, f5, f6, f7]; done) | (simp only [onA, *]; done)) ?_)
          | ((with_reducible show opC (happend _ _ _ _ _) _); refine sl_append (by with_reducible first | exact H | exact H.p1 | exact H.p2 | exact H.p3 | exact H.p4 | exact H.p5 | exact H.p6 | exact H.p7) (by first | assumption | with_reducible first | exact f0.2.1 | exact f1.2.1 | exact f2.2.1 | exact f3.2.1 | exact f4.2.1 | exact f5.2.1 | exact f6.2.1 | exact f7.2.1 | exact va_takeS) (by first | exact roomFor_of (by omega) | exact roomFor_wide (by omega)) (by omega) ?_)
          | ((with_reducible show opC (happend _ _ _ _ _) _); refine sl_append0X H (by first | assumption | with_reducible first | exact f0.2.1 | exact f1.2.1 | exact f2.2.1 | exact f3.2.1 | exact f4.2.1 | exact f5.2.1 | exact f6.2.1 | exact f7.2.1 | exact va_takeS) (by first | exact roomFor_of (by omega) | exact roomFor_wide (by omega)) (by omega) ?_)
          | ((with_reducible show opC (happend _ _ _ _ _) _); refine sl_appendX (by with_reducible first | exact H | exact H.p1 | exact H.p2 | exact H.p3 | exact H.p4 | exact H.p5 | exact H.p6 | exact H.p7) (by first | assumption | with_reducible first | exact f0.2.1 | exact f1.2.1 | exact f2.2.1 | exact f3.2.1 | exact f4.2.1 | exact f5.2.1 | exact f6.2.1 | exact f7.2.1 | exact va_takeS) (by first | exact roomFor_of (by omega) | exact roomFor_wide (by omega)) (by omega) ?_)
          | ((with_reducible show opC (hbuildSlice _ _ _ _ _) _); refine sl_bslice1 H rfl (by first | exact rfl | (simp only [f0, f1, f2, f3, f4, f5, f6, f7]; done) | (simp only [onA, *]; done)) (by first | exact rfl | (simp only [f0, f1, f2, f3, f4, f5, f6, f7]; done) | (simp only [onA, *]; done)) ?_)
          | with_reducible intro hy

        refine ⟨(i + 1, v, n - 1, cr, en), _, by simp only; omega, ⟨by simp only; omega, ?_⟩, (by (repeat first | exact Less.nil | refine Less.undef _ ?_ | refine Less.keep _ ?_)), Weak.refl _, ?_⟩
        · simp only; rw [ft, t']; exact ⟨by simp only; omega, by simp only [List.length_singleton]; omega, fun h => absurd h (by simp only; omega)⟩
        · simp only [RCs]; rw [ft, t']
          have e : [c].drop (min t.left [c].length) = [] := by rw [List.length_singleton, Nat.min_eq_right (by omega)]; rfl
          rw [e]; simp only [List.append_nil]; exact H
      · have t' : feedF t [c] = { t with held := t.held ++ [c] } := by
          by_cases c3' : t.st = 3
          · rw [feedF2 c3', show t.left = 0 by omega]; simp
          · refine feedF3 ?_ c3'
            by_cases e : t.st = 1
            · right
              cases he : t.ended with
              | true => rfl
              | false => exact absurd ⟨e, he⟩ c1
            · exact .inl e
        have fin : ∀ (v' : HV) (hs' : HS), Sat hs' (My 1 v' (t.held.length + 1) (bcells t.held ++ [.int .u8 c.toNat]) :: pt p (.cells 1 [.int .i64 (s.most : Nat), .int .i64 (s.st : Nat), v', .int .i64 (n : Nat), .bool cr, .bool en] false false []) :: l) →
            Sim (feedF s (bs.take (i + 1))) n cr en ∧ Sat hs' (pt p (.cells 1 (RCs s v' n cr en) false false []) :: My 1 v' (feedF s (bs.take (i + 1))).held.length (bcells (feedF s (bs.take (i + 1))).held) :: l) := by
          intro v' hs' H
          rw [ft, t']
          refine ⟨⟨s2, s3, s1⟩, ?_⟩
          simp only [List.length_append, List.length_singleton]
          rw [show bcells (t.held ++ [c]) = bcells t.held ++ [.int .u8 c.toNat] from bcells_app _ _]
          exact H.p1
        have stop : ∀ (v' : HV) (hs' : HS), Sat hs' (My 1 v' (t.held.length + 1) (bcells t.held ++ [.int .u8 c.toNat]) :: pt p (.cells 1 [.int .i64 (s.most : Nat), .int .i64 (s.st : Nat), v', .int .i64 (n : Nat), .bool cr, .bool en] false false []) :: l) →
            ∃ (t2 : Nat × HV × Nat × Bool × Bool) (hs2 : HS), bs.length - t2.1 < bs.length - i ∧ (t2.1 ≤ bs.length ∧ Sim (feedF s (bs.take t2.1)) t2.2.2.1 t2.2.2.2.1 t2.2.2.2.2) ∧ t2.1 = i + 1 ∧ Weak hs' hs2 ∧ Sat hs2 (pt p (.cells 1 (RCs s t2.2.1 t2.2.2.1 t2.2.2.2.1 t2.2.2.2.2) false false []) :: My 1 t2.2.1 (feedF s (bs.take t2.1)).held.length (bcells (feedF s (bs.take t2.1)).held) :: l) := by
          intro v' hs' H
          obtain ⟨g1, g2⟩ := fin v' hs' H
          exact ⟨(i + 1, v', n, cr, en), hs', by simp only; omega, ⟨by simp only; omega, g1⟩, rfl, Weak.refl _, g2⟩
        by_cases h1 : t.st = 1
        · obtain ⟨g1, _⟩ := s1 h1
          have g1 : en = true := by
            rw [g1]
            cases he : t.ended with
            | true => rfl
            | false => exact absurd ⟨h1, he⟩ c1
          subst g1
          have d1 : decide ((s.st : Int) = 1) = true := by simp; omega
          have d3 : decide ((s.st : Int) = 3) = false := by simp; omega
          repeat' first
            | ((with_reducible show Need _); refine need_of ?_; (first | have f0 := Sat.pf (H) | have f0 := trivial); (first | have f1 := Sat.pf (H.t) | have f1 := trivial); (first | have f2 := Sat.pf (H.t.t) | have f2 := trivial); (first | have f3 := Sat.pf (H.t.t.t) | have f3 := trivial); (first | have f4 := Sat.pf (H.t.t.t.t) | have f4 := trivial); (first | have f5 := Sat.pf (H.t.t.t.t.t) | have f5 := trivial); (first | have f6 := Sat.pf (H.t.t.t.t.t.t) | have f6 := trivial); (first | have f7 := Sat.pf (H.t.t.t.t.t.t.t) | have f7 := trivial); (first | have rb := (R _ (by first | exact H.t.t | exact H.t.t.t)).sOk | skip))
            | simp -implicitDefEqProofs (disch := first | omega | decide | exact rfl | assumption | exact Nat.le_of_ble_eq_true rfl | exact One.c | exact One.o) only [vsA, vsB, eq_self, if_true, if_false, implies_true, false_implies, evp, HX.ev, Nat.reduceAdd, HOp.looks, Nat.reduceEqDiff, overw, Nat.reduceBEq, hq1, hq2, rb, vadd1, d1, d3, ub42, f0, f1, f2, f3, f4, f5, f6, f7]
            | (refine condK_cases (fun h => ?_) (fun h => ?_) <;> (try simp only [h]) <;> (try simp only [athA, ne_eq] at h) <;> (try (exfalso; omega)))
            | (refine guardK_cases (fun h => ?_) (fun h => ?_) <;> (try simp only [h]) <;> (try simp only [athA, ne_eq] at h) <;> (try (exfalso; omega)))
            | (clear H f0 f1 f2 f3 f4 f5 f6 f7; (with_reducible intro v2 hs H); (try simp only [setA, overw, Nat.reduceAdd] at H); refine need ?_)
            | refine opC_K ?_
            | ((with_reducible show opC (unit (hstore _ _ _ _)) _); refine sl_store1 (by with_reducible first | exact H | exact H.p1 | exact H.p2 | exact H.p3 | exact H.p4 | exact H.p5 | exact H.p6 | exact H.p7) (Nat.le_of_ble_eq_true rfl) (by first | exact rfl | (simp only [f0, f1, f2, f3, f4, f5, f6, f7]; done) | (simp only [onA, *]; done)) (by first | exact rfl | (simp only [f0, f1, f2, f3, f4, f5, f6, f7]; done) | (simp only [onA, *]; done)) ?_)
            | ((with_reducible show opC (unit (hstore _ _ _ _)) _); refine sl_storeN (by with_reducible first | exact H | exact H.p1 | exact H.p2 | exact H.p3 | exact H.p4 | exact H.p5 | exact H.p6 | exact H.p7) rfl (Nat.le_of_ble_eq_true rfl) (by first | exact rfl | (simp only [f0, f1, f2, f3, f4, f5, f6, f7]; done) | (simp only [onA, *]; done)) ?_)
            | ((with_reducible show opC (happend _ _ _ _ _) _); refine sl_append (by with_reducible first | exact H | exact H.p1 | exact H.p2 | exact H.p3 | exact H.p4 | exact H.p5 | exact H.p6 | exact H.p7) (by first | assumption | with_reducible first | exact f0.2.1 | exact f1.2.1 | exact f2.2.1 | exact f3.2.1 | exact f4.2.1 | exact f5.2.1 | exact f6.2.1 | exact f7.2.1 | exact va_takeS) (by first | exact roomFor_of (by omega) | exact roomFor_wide (by omega)) (by omega) ?_)
            | ((with_reducible show opC (happend _ _ _ _ _) _); refine sl_append0X H (by first | assumption | with_reducible first | exact f0.2.1 | exact f1.2.1 | exact f2.2.1 | exact f3.2.1 | exact f4.2.1 | exact f5.2.1 | exact f6.2.1 | exact f7.2.1 | exact va_takeS) (by first | exact roomFor_of (by omega) | exact roomFor_wide (by omega)) (by omega) ?_)
            | ((with_reducible show opC (happend _ _ _ _ _) _); refine sl_appendX (by with_reducible first | exact H | exact H.p1 | exact H.p2 | exact H.p3 | exact H.p4 | exact H.p5 | exact H.p6 | exact H.p7) (by first | assumption | with_reducible first | exact f0.2.1 | exact f1.2.1 | exact f2.2.1 | exact f3.2.1 | exact f4.2.1 | exact f5.2.1 | exact f6.2.1 | exact f7.2.1 | exact va_takeS) (by first | exact roomFor_of (by omega) | exact roomFor_wide (by omega)) (by omega) ?_)
            | ((with_reducible show opC (hbuildSlice _ _ _ _ _) _); refine sl_bslice1 H rfl (by first | exact rfl | (simp only [f0, f1, f2, f3, f4, f5, f6, f7]; done) | (simp only [onA, *]; done)) (by first | exact rfl | (simp only [f0, f1, f2, f3, f4, f5, f6, f7]; done) | (simp only [onA, *]; done)) ?_)
            | with_reducible intro hy

          obtain ⟨⟨_, v', n', cr', en'⟩, hs2, g1, g2, rfl, g3, g4⟩ := stop _ _ H.p1
          exact ⟨_, hs2, g1, g2, (by (repeat first | exact Less.nil | refine Less.undef _ ?_ | refine Less.keep _ ?_)), g3, g4⟩
        · have d1 : decide ((s.st : Int) = 1) = false := by simp; omega
          by_cases h3 : t.st = 3
          · have g3 := s3 h3
            have d3 : decide ((s.st : Int) = 3) = true := by simp; omega
            have dn : decide ((0 : Int) < (n : Nat)) = false := by simp; omega
            repeat' first
              | ((with_reducible show Need _); refine need_of ?_; (first | have f0 := Sat.pf (H) | have f0 := trivial); (first | have f1 := Sat.pf (H.t) | have f1 := trivial); (first | have f2 := Sat.pf (H.t.t) | have f2 := trivial); (first | have f3 := Sat.pf (H.t.t.t) | have f3 := trivial); (first | have f4 := Sat.pf (H.t.t.t.t) | have f4 := trivial); (first | have f5 := Sat.pf (H.t.t.t.t.t) | have f5 := trivial); (first | have f6 := Sat.pf (H.t.t.t.t.t.t) | have f6 := trivial); (first | have f7 := Sat.pf (H.t.t.t.t.t.t.t) | have f7 := trivial); (first | have rb := (R _ (by first | exact H.t.t | exact H.t.t.t)).sOk | skip))
              | simp -implicitDefEqProofs (disch := first | omega | decide | exact rfl | assumption | exact Nat.le_of_ble_eq_true rfl | exact One.c | exact One.o) only [vsA, vsB, eq_self, if_true, if_false, implies_true, false_implies, evp, HX.ev, Nat.reduceAdd, HOp.looks, Nat.reduceEqDiff, overw, Nat.reduceBEq, hq1, hq2, rb, vadd1, d1, d3, dn, ub42, f0, f1, f2, f3, f4, f5, f6, f7]
              | (refine condK_cases (fun h => ?_) (fun h => ?_) <;> (try simp only [h]) <;> (try simp only [athA, ne_eq] at h) <;> (try (exfalso; omega)))
              | (refine guardK_cases (fun h => ?_) (fun h => ?_) <;> (try simp only [h]) <;> (try simp only [athA, ne_eq] at h) <;> (try (exfalso; omega)))
              | (clear H f0 f1 f2 f3 f4 f5 f6 f7; (with_reducible intro v2 hs H); (try simp only [setA, overw, Nat.reduceAdd] at H); refine need ?_)
              | refine opC_K ?_
              | ((with_reducible show opC (unit (hstore _ _ _ _)) _); refine sl_store1 (by with_reducible first | exact H | exact H.p1 | exact H.p2 | exact H.p3 | exact H.p4 | exact H.p5 | exact H.p6 | exact H.p7) (Nat.le_of_ble_eq_true rfl) (by first | exact rfl | (simp only [f0, f1, f2, f3, f4, f5, f6, f7]; done) | (simp only [onA, *]; done)) (by first | exact rfl | (simp only [f0, f1, f2, f3, f4, f5, f6, f7]; done) | (simp only [onA, *]; done)) ?_)
              | ((with_reducible show opC (unit (hstore _ _ _ _)) _); refine sl_storeN (by with_reducible first | exact H | exact H.p1 | exact H.p2 | exact H.p3 | exact H.p4 | exact H.p5 | exact H.p6 | exact H.p7) rfl (Nat.le_of_ble_eq_true rfl) (by first | exact rfl | (simp only [f0, f1, f2, f3, f4, f5, f6, f7]; done) | (simp only [onA, *]; done)) ?_)
              | ((with_reducible show opC (happend _ _ _ _ _) _); refine sl_append (by with_reducible first | exact H | exact H.p1 | exact H.p2 | exact H.p3 | exact H.p4 | exact H.p5 | exact H.p6 | exact H.p7) (by first | assumption | with_reducible first | exact f0.2.1 | exact f1.2.1 | exact f2.2.1 | exact f3.2.1 | exact f4.2.1 | exact f5.2.1 | exact f6.2.1 | exact f7.2.1 | exact va_takeS) (by first | exact roomFor_of (by omega) | exact roomFor_wide (by omega)) (by omega) ?_)
              | ((with_reducible show opC (happend _ _ _ _ _) _); refine sl_append0X H (by first | assumption | with_reducible first | exact f0.2.1 | exact f1.2.1 | exact f2.2.1 | exact f3.2.1 | exact f4.2.1 | exact f5.2.1 | exact f6.2.1 | exact f7.2.1 | exact va_takeS) (by first | exact roomFor_of (by omega) | exact roomFor_wide (by omega)) (by omega) ?_)
              | ((with_reducible show opC (happend _ _ _ _ _) _); refine sl_appendX (by with_reducible first | exact H | exact H.p1 | exact H.p2 | exact H.p3 | exact H.p4 | exact H.p5 | exact H.p6 | exact H.p7) (by first | assumption | with_reducible first | exact f0.2.1 | exact f1.2.1 | exact f2.2.1 | exact f3.2.1 | exact f4.2.1 | exact f5.2.1 | exact f6.2.1 | exact f7.2.1 | exact va_takeS) (by first | exact roomFor_of (by omega) | exact roomFor_wide (by omega)) (by omega) ?_)
              | ((with_reducible show opC (hbuildSlice _ _ _ _ _) _); refine sl_bslice1 H rfl (by first | exact rfl | (simp only [f0, f1, f2, f3, f4, f5, f6, f7]; done) | (simp only [onA, *]; done)) (by first | exact rfl | (simp only [f0, f1, f2, f3, f4, f5, f6, f7]; done) | (simp only [onA, *]; done)) ?_)
              | with_reducible intro hy

            obtain ⟨⟨_, v', n', cr', en'⟩, hs2, g1, g2, rfl, g3, g4⟩ := stop _ _ H.p1
            exact ⟨_, hs2, g1, g2, (by (repeat first | exact Less.nil | refine Less.undef _ ?_ | refine Less.keep _ ?_)), g3, g4⟩
          · have d3 : decide ((s.st : Int) = 3) = false := by simp; omega
            repeat' first
              | ((with_reducible show Need _); refine need_of ?_; (first | have f0 := Sat.pf (H) | have f0 := trivial); (first | have f1 := Sat.pf (H.t) | have f1 := trivial); (first | have f2 := Sat.pf (H.t.t) | have f2 := trivial); (first | have f3 := Sat.pf (H.t.t.t) | have f3 := trivial); (first | have f4 := Sat.pf (H.t.t.t.t) | have f4 := trivial); (first | have f5 := Sat.pf (H.t.t.t.t.t) | have f5 := trivial); (first | have f6 := Sat.pf (H.t.t.t.t.t.t) | have f6 := trivial); (first | have f7 := Sat.pf (H.t.t.t.t.t.t.t) | have f7 := trivial); (first | have rb := (R _ (by first | exact H.t.t | exact H.t.t.t)).sOk | skip))
              | simp -implicitDefEqProofs (disch := first | omega | decide | exact rfl | assumption | exact Nat.le_of_ble_eq_true rfl | exact One.c | exact One.o) only [vsA, vsB, eq_self, if_true, if_false, implies_true, false_implies, evp, HX.ev, Nat.reduceAdd, HOp.looks, Nat.reduceEqDiff, overw, Nat.reduceBEq, hq1, hq2, rb, vadd1, d1, d3, ub42, f0, f1, f2, f3, f4, f5, f6, f7]
              | (refine condK_cases (fun h => ?_) (fun h => ?_) <;> (try simp only [h]) <;> (try simp only [athA, ne_eq] at h) <;> (try (exfalso; omega)))
              | (refine guardK_cases (fun h => ?_) (fun h => ?_) <;> (try simp only [h]) <;> (try simp only [athA, ne_eq] at h) <;> (try (exfalso; omega)))
              | (clear H f0 f1 f2 f3 f4 f5 f6 f7; (with_reducible intro v2 hs H); (try simp only [setA, overw, Nat.reduceAdd] at H); refine need ?_)
              | refine opC_K ?_
              | ((with_reducible show opC (unit (hstore _ _ _ _)) _); refine sl_store1 (by with_reducible first | exact H | exact H.p1 | exact H.p2 | exact H.p3 | exact H.p4 | exact H.p5 | exact H.p6 | exact H.p7) (Nat.le_of_ble_eq_true rfl) (by first | exact rfl | (simp only [f0, f1, f2, f3, f4, f5, f6, f7]; done) | (simp only [onA, *]; done)) (by first | exact rfl | (simp only [f0, f1, f2, f3, f4, f5, f6, f7]; done) | (simp only [onA, *]; done)) ?_)
              | ((with_reducible show opC (unit (hstore _ _ _ _)) _); refine sl_storeN (by with_reducible first | exact H | exact H.p1 | exact H.p2 | exact H.p3 | exact H.p4 | exact H.p5 | exact H.p6 | exact H.p7) rfl (Nat.le_of_ble_eq_true rfl) (by first | exact rfl | (simp only [f0, f1, f2, f3, f4, f5, f6, f7]; done) | (simp only [onA, *]; done)) ?_)
              | ((with_reducible show opC (happend _ _ _ _ _) _); refine sl_append (by with_reducible first | exact H | exact H.p1 | exact H.p2 | exact H.p3 | exact H.p4 | exact H.p5 | exact H.p6 | exact H.p7) (by first | assumption | with_reducible first | exact f0.2.1 | exact f1.2.1 | exact f2.2.1 | exact f3.2.1 | exact f4.2.1 | exact f5.2.1 | exact f6.2.1 | exact f7.2.1 | exact va_takeS) (by first | exact roomFor_of (by omega) | exact roomFor_wide (by omega)) (by omega) ?_)
              | ((with_reducible show opC (happend _ _ _ _ _) _); refine sl_append0X H (by first | assumption | with_reducible first | exact f0.2.1 | exact f1.2.1 | exact f2.2.1 | exact f3.2.1 | exact f4.2.1 | exact f5.2.1 | exact f6.2.1 | exact f7.2.1 | exact va_takeS) (by first | exact roomFor_of (by omega) | exact roomFor_wide (by omega)) (by omega) ?_)
              | ((with_reducible show opC (happend _ _ _ _ _) _); refine sl_appendX (by with_reducible first | exact H | exact H.p1 | exact H.p2 | exact H.p3 | exact H.p4 | exact H.p5 | exact H.p6 | exact H.p7) (by first | assumption | with_reducible first | exact f0.2.1 | exact f1.2.1 | exact f2.2.1 | exact f3.2.1 | exact f4.2.1 | exact f5.2.1 | exact f6.2.1 | exact f7.2.1 | exact va_takeS) (by first | exact roomFor_of (by omega) | exact roomFor_wide (by omega)) (by omega) ?_)
              | ((with_reducible show opC (hbuildSlice _ _ _ _ _) _); refine sl_bslice1 H rfl (by first | exact rfl | (simp only [f0, f1, f2, f3, f4, f5, f6, f7]; done) | (simp only [onA, *]; done)) (by first | exact rfl | (simp only [f0, f1, f2, f3, f4, f5, f6, f7]; done) | (simp only [onA, *]; done)) ?_)
              | with_reducible intro hy

            obtain ⟨⟨_, v', n', cr', en'⟩, hs2, g1, g2, rfl, g3, g4⟩ := stop _ _ H.p1
            exact ⟨_, hs2, g1, g2, (by (repeat first | exact Less.nil | refine Less.undef _ ?_ | refine Less.keep _ ?_)), g3, g4⟩
  · obtain rfl : i = bs.length := by omega
    rw [List.take_length] at H hS
    first | have f0 := Sat.pf (H) | have f0 := trivial
    first | have f1 := Sat.pf (H.t) | have f1 := trivial
    first | have f2 := Sat.pf (H.t.t) | have f2 := trivial
    first | have f3 := Sat.pf (H.t.t.t) | have f3 := trivial
    first | have f4 := Sat.pf (H.t.t.t.t) | have f4 := trivial
    first | have f5 := Sat.pf (H.t.t.t.t.t) | have f5 := trivial
    first | have f6 := Sat.pf (H.t.t.t.t.t.t) | have f6 := trivial
    first | have f7 := Sat.pf (H.t.t.t.t.t.t.t) | have f7 := trivial
    repeat' first
      | ((with_reducible show Need _); refine need_of ?_; (first | have f0 := Sat.pf (H) | have f0 := trivial); (first | have f1 := Sat.pf (H.t) | have f1 := trivial); (first | have f2 := Sat.pf (H.t.t) | have f2 := trivial); (first | have f3 := Sat.pf (H.t.t.t) | have f3 := trivial); (first | have f4 := Sat.pf (H.t.t.t.t) | have f4 := trivial); (first | have f5 := Sat.pf (H.t.t.t.t.t) | have f5 := trivial); (first | have f6 := Sat.pf (H.t.t.t.t.t.t) | have f6 := trivial); (first | have f7 := Sat.pf (H.t.t.t.t.t.t.t) | have f7 := trivial))
      | simp -implicitDefEqProofs (disch := first | omega | decide | exact rfl | assumption | exact Nat.le_of_ble_eq_true rfl | exact One.c | exact One.o) only [vsA, vsB, eq_self, if_true, if_false, implies_true, false_implies, evp, HX.ev, Nat.reduceAdd, HOp.looks, Nat.reduceEqDiff, overw, Nat.reduceBEq, ub42, f0, f1, f2, f3, f4, f5, f6, f7]
      | (refine condK_cases (fun h => ?_) (fun h => ?_) <;> (try simp only [h]) <;> (try simp only [athA, ne_eq] at h) <;> (try (exfalso; omega)))
      | (refine guardK_cases (fun h => ?_) (fun h => ?_) <;> (try simp only [h]) <;> (try simp only [athA, ne_eq] at h) <;> (try (exfalso; omega)))
      | (clear H f0 f1 f2 f3 f4 f5 f6 f7; (with_reducible intro v2 hs H); (try simp only [setA, overw, Nat.reduceAdd] at H); refine need ?_)
      | refine opC_K ?_
      | ((with_reducible show opC (unit (hstore _ _ _ _)) _); refine sl_store1 (by with_reducible first | exact H | exact H.p1 | exact H.p2 | exact H.p3 | exact H.p4 | exact H.p5 | exact H.p6 | exact H.p7) (Nat.le_of_ble_eq_true rfl) (by first | exact rfl | (simp only [f0, f1, f2, f3, f4, f5, f6, f7]; done) | (simp only [onA, *]; done)) (by first | exact rfl | (simp only [f0, f1, f2, f3, f4, f5, f6, f7]; done) | (simp only [onA, *]; done)) ?_)
      | ((with_reducible show opC (unit (hstore _ _ _ _)) _); refine sl_storeN (by with_reducible first | exact H | exact H.p1 | exact H.p2 | exact H.p3 | exact H.p4 | exact H.p5 | exact H.p6 | exact H.p7) rfl (Nat.le_of_ble_eq_true rfl) (by first | exact rfl | (simp only [f0, f1, f2, f3, f4, f5, f6, f7]; done) | (simp only [onA, *]; done)) ?_)
      | ((with_reducible show opC (happend _ _ _ _ _) _); refine sl_append (by with_reducible first | exact H | exact H.p1 | exact H.p2 | exact H.p3 | exact H.p4 | exact H.p5 | exact H.p6 | exact H.p7) (by first | assumption | with_reducible first | exact f0.2.1 | exact f1.2.1 | exact f2.2.1 | exact f3.2.1 | exact f4.2.1 | exact f5.2.1 | exact f6.2.1 | exact f7.2.1 | exact va_takeS) (by first | exact roomFor_of (by omega) | exact roomFor_wide (by omega)) (by omega) ?_)
      | ((with_reducible show opC (happend _ _ _ _ _) _); refine sl_append0X H (by first | assumption | with_reducible first | exact f0.2.1 | exact f1.2.1 | exact f2.2.1 | exact f3.2.1 | exact f4.2.1 | exact f5.2.1 | exact f6.2.1 | exact f7.2.1 | exact va_takeS) (by first | exact roomFor_of (by omega) | exact roomFor_wide (by omega)) (by omega) ?_)
      | ((with_reducible show opC (happend _ _ _ _ _) _); refine sl_appendX (by with_reducible first | exact H | exact H.p1 | exact H.p2 | exact H.p3 | exact H.p4 | exact H.p5 | exact H.p6 | exact H.p7) (by first | assumption | with_reducible first | exact f0.2.1 | exact f1.2.1 | exact f2.2.1 | exact f3.2.1 | exact f4.2.1 | exact f5.2.1 | exact f6.2.1 | exact f7.2.1 | exact va_takeS) (by first | exact roomFor_of (by omega) | exact roomFor_wide (by omega)) (by omega) ?_)
      | ((with_reducible show opC (hbuildSlice _ _ _ _ _) _); refine sl_bslice1 H rfl (by first | exact rfl | (simp only [f0, f1, f2, f3, f4, f5, f6, f7]; done) | (simp only [onA, *]; done)) (by first | exact rfl | (simp only [f0, f1, f2, f3, f4, f5, f6, f7]; done) | (simp only [onA, *]; done)) ?_)
      | with_reducible intro hy

    have hm : (feedF s bs).most = s.most ∧ (feedF s bs).st = s.st := by
      unfold feedF
      split
      · exact ⟨rfl, rfl⟩
      · split <;> exact ⟨rfl, rfl⟩
    refine ref_open.2 ⟨v, n, cr, en, hS, ?_⟩
    simp only [RCs, hm.1, hm.2] at H ⊢
    exact H
end Go.Proofs.Ytccfcegmaejlnaa
namespace Go.Proofs.Ytccfcegmaejlnaa
open Go Go.HL
set_option maxRecDepth 100000
set_option maxHeartbeats 40000000
set_option linter.unusedSimpArgs false
attribute [local irreducible] pt My Ex Vw Gr GrK each grp exs Sat takeCells happend hbuildSlice hstore hbox hslice hmakeSlice hs2b hcopy HL.unit opC
theorem again43 {hs : HS} {l : List SA} {p : Nat} {s : St} (H : Sat hs (RefP p s :: l)) (hb : s.held.length < 4611686018) (hl : s.left < 4611686018427387904) :
    HC Try.prog 43 [.ptr p 0] hs fun _ hs' => Sat hs' (RefP p (feedF { s with held := [] } s.held) :: l) := by
  obtain ⟨v, n, cr, en, hS, H⟩ := ref_open.1 H
  simp only [RCs] at H
  refine HC.wp mixed Try.func43 c43 ?_
  first | have f0 := Sat.pf (H) | have f0 := trivial
  first | have f1 := Sat.pf (H.t) | have f1 := trivial
  first | have f2 := Sat.pf (H.t.t) | have f2 := trivial
  first | have f3 := Sat.pf (H.t.t.t) | have f3 := trivial
  first | have f4 := Sat.pf (H.t.t.t.t) | have f4 := trivial
  first | have f5 := Sat.pf (H.t.t.t.t.t) | have f5 := trivial
  first | have f6 := Sat.pf (H.t.t.t.t.t.t) | have f6 := trivial
  first | have f7 := Sat.pf (H.t.t.t.t.t.t.t) | have f7 := trivial
  repeat' first
    | ((with_reducible show Need _); refine need_of ?_; (first | have f0 := Sat.pf (H) | have f0 := trivial); (first | have f1 := Sat.pf (H.t) | have f1 := trivial); (first | have f2 := Sat.pf (H.t.t) | have f2 := trivial); (first | have f3 := Sat.pf (H.t.t.t) | have f3 := trivial); (first | have f4 := Sat.pf (H.t.t.t.t) | have f4 := trivial); (first | have f5 := Sat.pf (H.t.t.t.t.t) | have f5 := trivial); (first | have f6 := Sat.pf (H.t.t.t.t.t.t) | have f6 := trivial); (first | have f7 := Sat.pf (H.t.t.t.t.t.t.t) | have f7 := trivial))
    | simp -implicitDefEqProofs (disch := first | omega | decide | exact rfl | assumption | exact Nat.le_of_ble_eq_true rfl | exact One.c | exact One.o) only [vsA, vsB, eq_self, if_true, if_false, implies_true, false_implies, evp, HX.ev, Nat.reduceAdd, HOp.looks, Nat.reduceEqDiff, overw, Nat.reduceBEq, h43, f0, f1, f2, f3, f4, f5, f6, f7, frame0, List.replicate, Nat.sub]
    | (refine condK_cases (fun h => ?_) (fun h => ?_) <;> (try simp only [h]) <;> (try simp only [athA, ne_eq] at h) <;> (try (exfalso; omega)))
    | (refine guardK_cases (fun h => ?_) (fun h => ?_) <;> (try simp only [h]) <;> (try simp only [athA, ne_eq] at h) <;> (try (exfalso; omega)))
    | (clear H f0 f1 f2 f3 f4 f5 f6 f7; (with_reducible intro v2 hs H); (try simp only [setA, overw, Nat.reduceAdd] at H); refine need ?_)
    | ((with_reducible show actK _ (HAct.call (HX.cst (HV.func (Fn.func 42) _ _)) _) _ _ _ _ _); refine vcall_of ok42 rfl (rfeed42 (s := { s with held := [] }) (bs := s.held) (ref_open.2 ⟨.nilSlice, n, cr, en, ⟨hS.s2, hS.s3, hS.s1⟩, H.own0.p1⟩) (fun _ h => h.rd) (by simp; omega) (by simp only; omega)) ?_;  clear H f0 f1 f2 f3 f4 f5 f6 f7; rintro _ hs H; refine need ?_)
    | refine opC_K ?_
    | ((with_reducible show opC (unit (hstore _ _ _ _)) _); refine sl_store1 (by with_reducible first | exact H | exact H.p1 | exact H.p2 | exact H.p3 | exact H.p4 | exact H.p5 | exact H.p6 | exact H.p7) (Nat.le_of_ble_eq_true rfl) (by first | exact rfl | (simp only [f0, f1, f2, f3, f4, f5, f6, f7]; done) | (simp only [onA, *]; done)) (by first | exact rfl | (simp only [f0, f1, f2, f3, f4, f5, f6, f7]; done) | (simp only [onA, *]; done)) ?_)
    | ((with_reducible show opC (unit (hstore _ _ _ _)) _); refine sl_storeN (by with_reducible first | exact H | exact H.p1 | exact H.p2 | exact H.p3 | exact H.p4 | exact H.p5 | exact H.p6 | exact H.p7) rfl (Nat.le_of_ble_eq_true rfl) (by first | exact rfl | (simp only [f0, f1, f2, f3, f4, f5, f6, f7]; done) | (simp only [onA, *]; done)) ?_)
    | with_reducible intro hy

  exact H.d1
theorem rbody31 {hs : HS} {l : List SA} {p : Nat} {s : St} (H : Sat hs (RefP p s :: l)) (n : Int) (hb : s.held.length < 4611686018) :
    HC Try.prog 31 [.ptr p 0, .int .i64 n] hs fun v hs' => v = .int .i64 (bodyS s n).2 ∧ Sat hs' (RefP p (bodyS s n).1 :: l) := by
  have H0 := H
  obtain ⟨v, m, cr, en, hS, H⟩ := ref_open.1 H
  simp only [RCs] at H
  refine HC.wp mixed Try.func31 c31 ?_
  first | have f0 := Sat.pf (H) | have f0 := trivial
  first | have f1 := Sat.pf (H.t) | have f1 := trivial
  first | have f2 := Sat.pf (H.t.t) | have f2 := trivial
  first | have f3 := Sat.pf (H.t.t.t) | have f3 := trivial
  first | have f4 := Sat.pf (H.t.t.t.t) | have f4 := trivial
  first | have f5 := Sat.pf (H.t.t.t.t.t) | have f5 := trivial
  first | have f6 := Sat.pf (H.t.t.t.t.t.t) | have f6 := trivial
  first | have f7 := Sat.pf (H.t.t.t.t.t.t.t) | have f7 := trivial
  by_cases hn : 0 ≤ n ∧ n ≤ 4294967295
  · obtain ⟨k, rfl⟩ := Int.eq_ofNat_of_zero_le hn.1
    repeat' first
      | ((with_reducible show Need _); refine need_of ?_; (first | have f0 := Sat.pf (H) | have f0 := trivial); (first | have f1 := Sat.pf (H.t) | have f1 := trivial); (first | have f2 := Sat.pf (H.t.t) | have f2 := trivial); (first | have f3 := Sat.pf (H.t.t.t) | have f3 := trivial); (first | have f4 := Sat.pf (H.t.t.t.t) | have f4 := trivial); (first | have f5 := Sat.pf (H.t.t.t.t.t) | have f5 := trivial); (first | have f6 := Sat.pf (H.t.t.t.t.t.t) | have f6 := trivial); (first | have f7 := Sat.pf (H.t.t.t.t.t.t.t) | have f7 := trivial))
      | simp -implicitDefEqProofs (disch := first | omega | decide | exact rfl | assumption | exact Nat.le_of_ble_eq_true rfl | exact One.c | exact One.o) only [vsA, vsB, eq_self, if_true, if_false, implies_true, false_implies, evp, HX.ev, Nat.reduceAdd, HOp.looks, Nat.reduceEqDiff, overw, Nat.reduceBEq, h31, ub31, f0, f1, f2, f3, f4, f5, f6, f7, frame0, List.replicate, Nat.sub]
      | (refine condK_cases (fun h => ?_) (fun h => ?_) <;> (try simp only [h]) <;> (try simp only [athA, ne_eq] at h) <;> (try (exfalso; omega)))
      | (refine guardK_cases (fun h => ?_) (fun h => ?_) <;> (try simp only [h]) <;> (try simp only [athA, ne_eq] at h) <;> (try (exfalso; omega)))
      | (clear H f0 f1 f2 f3 f4 f5 f6 f7; (with_reducible intro v2 hs H); (try simp only [setA, overw, Nat.reduceAdd] at H); refine need ?_)
      | ((with_reducible show actK _ (HAct.call (HX.cst (HV.func (Fn.func 43) _ _)) _) _ _ _ _ _); refine vcall_of ok43 rfl (again43 (s := { s with st := 3, left := k + 2 }) (ref_open.2 ⟨v, k + 2, cr, en, ⟨by simp, by simp, by simp⟩, H⟩) (by simp only; omega) (by simp only; omega)) ?_;  clear H f0 f1 f2 f3 f4 f5 f6 f7; rintro _ hs H; refine need ?_)
      | refine opC_K ?_
      | ((with_reducible show opC (unit (hstore _ _ _ _)) _); refine sl_store1 (by with_reducible first | exact H | exact H.p1 | exact H.p2 | exact H.p3 | exact H.p4 | exact H.p5 | exact H.p6 | exact H.p7) (Nat.le_of_ble_eq_true rfl) (by first | exact rfl | (simp only [f0, f1, f2, f3, f4, f5, f6, f7]; done) | (simp only [onA, *]; done)) (by first | exact rfl | (simp only [f0, f1, f2, f3, f4, f5, f6, f7]; done) | (simp only [onA, *]; done)) ?_)
      | ((with_reducible show opC (unit (hstore _ _ _ _)) _); refine sl_storeN (by with_reducible first | exact H | exact H.p1 | exact H.p2 | exact H.p3 | exact H.p4 | exact H.p5 | exact H.p6 | exact H.p7) rfl (Nat.le_of_ble_eq_true rfl) (by first | exact rfl | (simp only [f0, f1, f2, f3, f4, f5, f6, f7]; done) | (simp only [onA, *]; done)) ?_)
      | with_reducible intro hy

    · have e : bodyS s (k : Nat) = (s, 61) := if_pos (.inr (.inr (by omega)))
      rw [e]
      exact ⟨rfl, ref_open.2 ⟨_, _, _, _, hS, H⟩⟩
    · have e : bodyS s (k : Nat) = ({ s with st := 2, size := k }, 0) := (if_neg (by omega)).trans (if_pos (by omega))
      rw [e]
      exact ⟨rfl, ref_open.2 ⟨v, k, cr, en, ⟨by simp, by simp, by simp⟩, H⟩⟩
    · have e : bodyS s (k : Nat) = ({ s with st := 3, left := k + 2 - min (k + 2) s.held.length, held := s.held.drop (min (k + 2) s.held.length) }, 0) := (if_neg (by omega)).trans (if_neg (by omega))
      rw [e]
      refine ⟨rfl, ?_⟩
      rw [feedF2 rfl] at H
      simp only [List.nil_append] at H
      exact H
  · skip
    repeat' first
      | ((with_reducible show Need _); refine need_of ?_; (first | have f0 := Sat.pf (H) | have f0 := trivial); (first | have f1 := Sat.pf (H.t) | have f1 := trivial); (first | have f2 := Sat.pf (H.t.t) | have f2 := trivial); (first | have f3 := Sat.pf (H.t.t.t) | have f3 := trivial); (first | have f4 := Sat.pf (H.t.t.t.t) | have f4 := trivial); (first | have f5 := Sat.pf (H.t.t.t.t.t) | have f5 := trivial); (first | have f6 := Sat.pf (H.t.t.t.t.t.t) | have f6 := trivial); (first | have f7 := Sat.pf (H.t.t.t.t.t.t.t) | have f7 := trivial))
      | simp -implicitDefEqProofs (disch := first | omega | decide | exact rfl | assumption | exact Nat.le_of_ble_eq_true rfl | exact One.c | exact One.o) only [vsA, vsB, eq_self, if_true, if_false, implies_true, false_implies, evp, HX.ev, Nat.reduceAdd, HOp.looks, Nat.reduceEqDiff, overw, Nat.reduceBEq, h31, ub31, f0, f1, f2, f3, f4, f5, f6, f7, frame0, List.replicate, Nat.sub]
      | (refine condK_cases (fun h => ?_) (fun h => ?_) <;> (try simp only [h]) <;> (try simp only [athA, ne_eq] at h) <;> (try (exfalso; omega)))
      | (refine guardK_cases (fun h => ?_) (fun h => ?_) <;> (try simp only [h]) <;> (try simp only [athA, ne_eq] at h) <;> (try (exfalso; omega)))
      | (clear H f0 f1 f2 f3 f4 f5 f6 f7; (with_reducible intro v2 hs H); (try simp only [setA, overw, Nat.reduceAdd] at H); refine need ?_)
      | refine opC_K ?_
      | ((with_reducible show opC (unit (hstore _ _ _ _)) _); refine sl_store1 (by with_reducible first | exact H | exact H.p1 | exact H.p2 | exact H.p3 | exact H.p4 | exact H.p5 | exact H.p6 | exact H.p7) (Nat.le_of_ble_eq_true rfl) (by first | exact rfl | (simp only [f0, f1, f2, f3, f4, f5, f6, f7]; done) | (simp only [onA, *]; done)) (by first | exact rfl | (simp only [f0, f1, f2, f3, f4, f5, f6, f7]; done) | (simp only [onA, *]; done)) ?_)
      | ((with_reducible show opC (unit (hstore _ _ _ _)) _); refine sl_storeN (by with_reducible first | exact H | exact H.p1 | exact H.p2 | exact H.p3 | exact H.p4 | exact H.p5 | exact H.p6 | exact H.p7) rfl (Nat.le_of_ble_eq_true rfl) (by first | exact rfl | (simp only [f0, f1, f2, f3, f4, f5, f6, f7]; done) | (simp only [onA, *]; done)) ?_)
      | with_reducible intro hy

    all_goals
      have e : bodyS s n = (s, 61) := if_pos (by omega)
      rw [e]
      exact ⟨rfl, ref_open.2 ⟨_, _, _, _, hS, H⟩⟩
theorem takes46 {hs : HS} {l : List SA} {p k : Nat} {s : St} (H : Sat hs (RefP p s :: l)) (hk : k ≤ s.held.length) (hb : s.held.length < 4611686018) :
    HC Try.prog 46 [.ptr p 0, .int .i64 (k : Nat)] hs fun w hs' => Sat hs' (RefP p { s with held := s.held.drop k } :: Ex 1 w k (bcells (s.held.take k)) :: l) := by
  have hmax : maxLen = 9223372036854775807 := rfl
  obtain ⟨v, n, cr, en, hS, H⟩ := ref_open.1 H
  simp only [RCs] at H
  obtain ⟨most, st, held, size, left, half, ended⟩ := s
  simp only at H hk hb
  have Rx : ∃ x, hslice v none (some (.int .i64 (k : Nat))) none = some x ∧ ∀ hs l, Sat hs (My 1 v held.length (bcells held) :: l) → Rd hs 1 x k (bcells (held.take k)) := by
    obtain ⟨x, hx, _⟩ := rd_cut (H.t.rd) rfl (lo := 0) (hi := k) Lo.none (Hi.some (k := .i64)) (by omega) (by omega)
    refine ⟨x, hx, fun hs l H => ?_⟩
    obtain ⟨x2, hx2, r2⟩ := rd_cut H.rd rfl (lo := 0) (hi := k) Lo.none (Hi.some (k := .i64)) (by omega) (by omega)
    rw [hx] at hx2; cases hx2; simpa using r2
  have Ry : ∃ y, hslice v (some (.int .i64 (k : Nat))) none none = some y ∧ ∀ hs l, Sat hs (My 1 v held.length (bcells held) :: l) → Rd hs 1 y (held.length - k) (bcells (held.drop k)) := by
    obtain ⟨x, hx, _⟩ := rd_cut (H.t.rd) rfl (lo := k) (hi := held.length) (Lo.some (k := .i64)) Hi.none (by omega) (by omega)
    refine ⟨x, hx, fun hs l H => ?_⟩
    obtain ⟨x2, hx2, r2⟩ := rd_cut H.rd rfl (lo := k) (hi := held.length) (Lo.some (k := .i64)) Hi.none (by omega) (by omega)
    rw [hx] at hx2; cases hx2
    rwa [List.take_of_length_le (by rw [List.length_drop]; omega)] at r2
  obtain ⟨x, hx, Rx⟩ := Rx
  obtain ⟨y, hy, Ry⟩ := Ry
  have Tx := (Rx _ _ H.t).take
  have Ty := (Ry _ _ H.t).take
  refine HC.wp mixed Try.func46 c46 ?_
  first | have f0 := Sat.pf (H) | have f0 := trivial
  first | have f1 := Sat.pf (H.t) | have f1 := trivial
  first | have f2 := Sat.pf (H.t.t) | have f2 := trivial
  first | have f3 := Sat.pf (H.t.t.t) | have f3 := trivial
  first | have f4 := Sat.pf (H.t.t.t.t) | have f4 := trivial
  first | have f5 := Sat.pf (H.t.t.t.t.t) | have f5 := trivial
  first | have f6 := Sat.pf (H.t.t.t.t.t.t) | have f6 := trivial
  first | have f7 := Sat.pf (H.t.t.t.t.t.t.t) | have f7 := trivial
  repeat' first
    | ((with_reducible show Need _); refine need_of ?_; (first | have f0 := Sat.pf (H) | have f0 := trivial); (first | have f1 := Sat.pf (H.t) | have f1 := trivial); (first | have f2 := Sat.pf (H.t.t) | have f2 := trivial); (first | have f3 := Sat.pf (H.t.t.t) | have f3 := trivial); (first | have f4 := Sat.pf (H.t.t.t.t) | have f4 := trivial); (first | have f5 := Sat.pf (H.t.t.t.t.t) | have f5 := trivial); (first | have f6 := Sat.pf (H.t.t.t.t.t.t) | have f6 := trivial); (first | have f7 := Sat.pf (H.t.t.t.t.t.t.t) | have f7 := trivial); (first | have Tx := (Rx _ _ (by first | exact H.t | exact H.t.t | exact H.t.t.t)).take | skip); (first | have Ty := (Ry _ _ (by first | exact H.t | exact H.t.t | exact H.t.t.t)).take | skip))
    | simp -implicitDefEqProofs (disch := first | omega | decide | exact rfl | assumption | exact Nat.le_of_ble_eq_true rfl | exact One.c | exact One.o) only [vsA, vsB, eq_self, if_true, if_false, implies_true, false_implies, evp, HX.ev, Nat.reduceAdd, HOp.looks, Nat.reduceEqDiff, overw, Nat.reduceBEq, h46, hx, hy, ub46, f0, f1, f2, f3, f4, f5, f6, f7, frame0, List.replicate, Nat.sub]
    | (refine condK_cases (fun h => ?_) (fun h => ?_) <;> (try simp only [h]) <;> (try simp only [athA, ne_eq] at h) <;> (try (exfalso; omega)))
    | (refine guardK_cases (fun h => ?_) (fun h => ?_) <;> (try simp only [h]) <;> (try simp only [athA, ne_eq] at h) <;> (try (exfalso; omega)))
    | (clear H f0 f1 f2 f3 f4 f5 f6 f7; (with_reducible intro v2 hs H); (try simp only [setA, overw, Nat.reduceAdd] at H); refine need ?_)
    | refine opC_K ?_
    | ((with_reducible show opC (unit (hstore _ _ _ _)) _); refine sl_store1 (by with_reducible first | exact H | exact H.p1 | exact H.p2 | exact H.p3 | exact H.p4 | exact H.p5 | exact H.p6 | exact H.p7) (Nat.le_of_ble_eq_true rfl) (by first | exact rfl | (simp only [f0, f1, f2, f3, f4, f5, f6, f7]; done) | (simp only [onA, *]; done)) (by first | exact rfl | (simp only [f0, f1, f2, f3, f4, f5, f6, f7]; done) | (simp only [onA, *]; done)) ?_)
    | ((with_reducible show opC (unit (hstore _ _ _ _)) _); refine sl_storeN (by with_reducible first | exact H | exact H.p1 | exact H.p2 | exact H.p3 | exact H.p4 | exact H.p5 | exact H.p6 | exact H.p7) rfl (Nat.le_of_ble_eq_true rfl) (by first | exact rfl | (simp only [f0, f1, f2, f3, f4, f5, f6, f7]; done) | (simp only [onA, *]; done)) ?_)
    | ((with_reducible show opC (happend _ _ _ _ _) _); refine sl_append (by with_reducible first | exact H | exact H.p1 | exact H.p2 | exact H.p3 | exact H.p4 | exact H.p5 | exact H.p6 | exact H.p7) (by first | assumption | with_reducible first | exact f0.2.1 | exact f1.2.1 | exact f2.2.1 | exact f3.2.1 | exact f4.2.1 | exact f5.2.1 | exact f6.2.1 | exact f7.2.1 | exact va_takeS) (by first | exact roomFor_of (by omega) | exact roomFor_wide (by omega)) (by omega) ?_)
    | ((with_reducible show opC (happend _ _ _ _ _) _); refine sl_append0X H (by first | assumption | with_reducible first | exact f0.2.1 | exact f1.2.1 | exact f2.2.1 | exact f3.2.1 | exact f4.2.1 | exact f5.2.1 | exact f6.2.1 | exact f7.2.1 | exact va_takeS) (by first | exact roomFor_of (by omega) | exact roomFor_wide (by omega)) (by omega) ?_)
    | ((with_reducible show opC (happend _ _ _ _ _) _); refine sl_appendX (by with_reducible first | exact H | exact H.p1 | exact H.p2 | exact H.p3 | exact H.p4 | exact H.p5 | exact H.p6 | exact H.p7) (by first | assumption | with_reducible first | exact f0.2.1 | exact f1.2.1 | exact f2.2.1 | exact f3.2.1 | exact f4.2.1 | exact f5.2.1 | exact f6.2.1 | exact f7.2.1 | exact va_takeS) (by first | exact roomFor_of (by omega) | exact roomFor_wide (by omega)) (by omega) ?_)
    | with_reducible intro hy

  have H3 := (Sat.my H.p3.t.p2.p1.p2).p1
  rw [show held.length - k = (held.drop k).length by simp] at H3
  exact ref_open.2 ⟨_, n, cr, en, ⟨hS.s2, hS.s3, hS.s1⟩, H3⟩
theorem end45 {hs : HS} {b : HV} {bs : List UInt8} (R : Rd hs 1 b bs.length (bcells bs)) (hb : bs.length < 4611686018427) :
    HC Try.prog 45 [b, .int .i64 224] hs fun v hs' => v = .int .i64 (match lineAt (bs.take (min 224 bs.length)) with | some k => (k : Int) | none => -1) ∧ hs' = hs := by
  have lb := R.len hs
  have rb := R.sOk
  have lm : (bs.take (min 224 bs.length)).length = min 224 bs.length := by simp
  generalize hX : bs.take (min 224 bs.length) = X at *
  refine HC.wp mixed Try.func45 c45 ?_
  repeat' first
    | simp -implicitDefEqProofs (disch := first | omega | decide | exact rfl | assumption | exact Nat.le_of_ble_eq_true rfl | exact One.c | exact One.o) only [vsA, vsB, eq_self, if_true, if_false, implies_true, false_implies, evp, HX.ev, Nat.reduceAdd, HOp.looks, Nat.reduceEqDiff, overw, Nat.reduceBEq, h45, lb, ub45, frame0, List.replicate, Nat.sub]
    | (refine condK_cases (fun h => ?_) (fun h => ?_) <;> (try simp only [h]) <;> (try simp only [athA, ne_eq] at h) <;> (try (exfalso; omega)))
    | (refine guardK_cases (fun h => ?_) (fun h => ?_) <;> (try simp only [h]) <;> (try simp only [athA, ne_eq] at h) <;> (try (exfalso; omega)))

  refine HW.loopR mixed (fun i : Nat => (b :: .int .i64 224 :: .undef :: .undef :: .undef :: .int .i64 (i : Nat) :: .undef :: .undef :: .undef :: .undef :: .undef :: .undef :: .undef :: .undef :: .undef :: .undef :: .undef :: .undef :: .undef :: .undef :: .undef :: .undef :: .undef :: .undef :: .undef :: .undef :: .undef :: .undef :: .undef :: .undef :: .undef :: .undef :: .undef :: [])) (fun i => X.length - i) (fun i => i ≤ X.length ∧ lineAt X = (lineAt (X.drop i)).map (· + i)) 0 ⟨by omega, by simp⟩ (by (repeat first | exact Less.nil | refine Less.undef _ ?_ | refine Less.keep _ ?_)) ?_
  rintro i ⟨hi, he⟩
  by_cases h : i + 1 < X.length
  · obtain ⟨q, hq1, hq2⟩ := R.idx1 (bc_get (show i < bs.length by omega)) .i64
    obtain ⟨q', hq1', hq2'⟩ := R.idx1 (bc_get (show i + 1 < bs.length by omega)) .i64
    have x0 : (bs.take (min 224 bs.length))[i]? = some bs[i] := by rw [List.getElem?_take_of_lt (by omega), List.getElem?_eq_getElem]
    have x1 : (bs.take (min 224 bs.length))[i + 1]? = some bs[i + 1] := by rw [List.getElem?_take_of_lt (by omega), List.getElem?_eq_getElem]
    rw [hX] at x0 x1
    have hd : X.drop i = bs[i] :: X.drop (i + 1) := by
      rw [List.drop_eq_getElem_cons (by omega)]
      rw [List.getElem?_eq_getElem (by omega)] at x0
      rw [Option.some.inj x0]
    have hh : (X.drop (i + 1)).head? = some bs[i + 1] := by rw [List.head?_drop, x1]
    have i1 : decide (((i + 1 : Nat) : Int) < (bs.length : Nat)) = true := by simp; omega
    have i2 : decide (((i + 1 : Nat) : Int) < 224) = true := by simp; omega
    repeat' first
      | simp -implicitDefEqProofs (disch := first | omega | decide | exact rfl | assumption | exact Nat.le_of_ble_eq_true rfl | exact One.c | exact One.o) only [vsA, vsB, eq_self, if_true, if_false, implies_true, false_implies, evp, HX.ev, Nat.reduceAdd, HOp.looks, Nat.reduceEqDiff, overw, Nat.reduceBEq, lb, rb, hq1, hq2, hq1', hq2', u8e10, u8e13, vadd1, i1, i2, ub45]
      | (refine condK_cases (fun h => ?_) (fun h => ?_) <;> (try simp only [h]) <;> (try simp only [athA, ne_eq] at h) <;> (try (exfalso; omega)))
      | (refine guardK_cases (fun h => ?_) (fun h => ?_) <;> (try simp only [h]) <;> (try simp only [athA, ne_eq] at h) <;> (try (exfalso; omega)))

    · have e : lineAt X = some i := by
        rw [he, hd, lineAt, if_pos ⟨by simpa using (by assumption), by rw [hh]; simp [*]⟩]; simp
      rw [e]
    all_goals
      refine ⟨i + 1, by omega, ⟨by omega, ?_⟩, (by (repeat first | exact Less.nil | refine Less.undef _ ?_ | refine Less.keep _ ?_))⟩
      rw [he, hd, lineAt, if_neg (by rw [hh]; simp [*])]
      cases lineAt (X.drop (i + 1)) with
      | none => rfl
      | some k => simp only [Option.map_some, Option.some.injEq]; omega
  · have e : lineAt X = none := by
      rw [he]
      cases hl : lineAt (X.drop i) with
      | none => rfl
      | some k => have := lineAt_le hl; simp at this; omega
    have hor : bs.length ≤ i + 1 ∨ 224 ≤ i + 1 := by omega
    repeat' first
      | simp -implicitDefEqProofs (disch := first | omega | decide | exact rfl | assumption | exact Nat.le_of_ble_eq_true rfl | exact One.c | exact One.o) only [vsA, vsB, eq_self, if_true, if_false, implies_true, false_implies, evp, HX.ev, Nat.reduceAdd, HOp.looks, Nat.reduceEqDiff, overw, Nat.reduceBEq, lb, vadd1, ub45]
      | (refine condK_cases (fun h => ?_) (fun h => ?_) <;> (try simp only [h]) <;> (try simp only [athA, ne_eq] at h) <;> (try (exfalso; omega)))
      | (refine guardK_cases (fun h => ?_) (fun h => ?_) <;> (try simp only [h]) <;> (try simp only [athA, ne_eq] at h) <;> (try (exfalso; omega)))

    all_goals
      rw [e]
theorem rclone44 {hs : HS} {l : List SA} {p : Nat} {s : St} (H : Sat hs (RefP p s :: l)) (hb : s.held.length < 4611686018) :
    HC Try.prog 44 [.ptr p 0] hs fun v hs' => ∃ q, v = .ptr q 0 ∧ Sat hs' (RefP q s :: RefP p s :: l) := by
  have hmax : maxLen = 9223372036854775807 := rfl
  obtain ⟨v, n, cr, en, hS, H⟩ := ref_open.1 H
  simp only [RCs] at H
  refine HC.wp mixed Try.func44 c44 ?_
  first | have f0 := Sat.pf (H) | have f0 := trivial
  first | have f1 := Sat.pf (H.t) | have f1 := trivial
  first | have f2 := Sat.pf (H.t.t) | have f2 := trivial
  first | have f3 := Sat.pf (H.t.t.t) | have f3 := trivial
  first | have f4 := Sat.pf (H.t.t.t.t) | have f4 := trivial
  first | have f5 := Sat.pf (H.t.t.t.t.t) | have f5 := trivial
  first | have f6 := Sat.pf (H.t.t.t.t.t.t) | have f6 := trivial
  first | have f7 := Sat.pf (H.t.t.t.t.t.t.t) | have f7 := trivial
  repeat' first
    | ((with_reducible show Need _); refine need_of ?_; (first | have f0 := Sat.pf (H) | have f0 := trivial); (first | have f1 := Sat.pf (H.t) | have f1 := trivial); (first | have f2 := Sat.pf (H.t.t) | have f2 := trivial); (first | have f3 := Sat.pf (H.t.t.t) | have f3 := trivial); (first | have f4 := Sat.pf (H.t.t.t.t) | have f4 := trivial); (first | have f5 := Sat.pf (H.t.t.t.t.t) | have f5 := trivial); (first | have f6 := Sat.pf (H.t.t.t.t.t.t) | have f6 := trivial); (first | have f7 := Sat.pf (H.t.t.t.t.t.t.t) | have f7 := trivial))
    | simp -implicitDefEqProofs (disch := first | omega | decide | exact rfl | assumption | exact Nat.le_of_ble_eq_true rfl | exact One.c | exact One.o) only [vsA, vsB, eq_self, if_true, if_false, implies_true, false_implies, evp, HX.ev, Nat.reduceAdd, HOp.looks, Nat.reduceEqDiff, overw, Nat.reduceBEq, h44, ub44, f0, f1, f2, f3, f4, f5, f6, f7, frame0, List.replicate, Nat.sub]
    | (refine condK_cases (fun h => ?_) (fun h => ?_) <;> (try simp only [h]) <;> (try simp only [athA, ne_eq] at h) <;> (try (exfalso; omega)))
    | (refine guardK_cases (fun h => ?_) (fun h => ?_) <;> (try simp only [h]) <;> (try simp only [athA, ne_eq] at h) <;> (try (exfalso; omega)))
    | (refine dgK_cases (fun h => ?_) (fun h => ?_) <;> (try simp only [h]) <;> (try simp only [athA, ne_eq] at h) <;> (try (exfalso; omega)))
    | (clear H f0 f1 f2 f3 f4 f5 f6 f7; (with_reducible intro v2 hs H); (try simp only [setA, overw, Nat.reduceAdd] at H); refine need ?_)
    | refine opC_K ?_
    | refine opC_D ?_
    | ((with_reducible show opC (unit (hstore _ _ _ _)) _); refine sl_store1 (by with_reducible first | exact H | exact H.p1 | exact H.p2 | exact H.p3 | exact H.p4 | exact H.p5 | exact H.p6 | exact H.p7) (Nat.le_of_ble_eq_true rfl) (by first | exact rfl | (simp only [f0, f1, f2, f3, f4, f5, f6, f7]; done) | (simp only [onA, *]; done)) (by first | exact rfl | (simp only [f0, f1, f2, f3, f4, f5, f6, f7]; done) | (simp only [onA, *]; done)) ?_)
    | ((with_reducible show opC (unit (hstore _ _ _ _)) _); refine sl_storeN (by with_reducible first | exact H | exact H.p1 | exact H.p2 | exact H.p3 | exact H.p4 | exact H.p5 | exact H.p6 | exact H.p7) rfl (Nat.le_of_ble_eq_true rfl) (by first | exact rfl | (simp only [f0, f1, f2, f3, f4, f5, f6, f7]; done) | (simp only [onA, *]; done)) ?_)
    | ((with_reducible show opC (happend _ _ _ _ _) _); refine sl_append (by with_reducible first | exact H | exact H.p1 | exact H.p2 | exact H.p3 | exact H.p4 | exact H.p5 | exact H.p6 | exact H.p7) (by first | assumption | with_reducible first | exact f0.2.1 | exact f1.2.1 | exact f2.2.1 | exact f3.2.1 | exact f4.2.1 | exact f5.2.1 | exact f6.2.1 | exact f7.2.1 | exact va_takeS) (by first | exact roomFor_of (by omega) | exact roomFor_wide (by omega)) (by omega) ?_)
    | ((with_reducible show opC (happend _ _ _ _ _) _); refine sl_append0X H (by first | assumption | with_reducible first | exact f0.2.1 | exact f1.2.1 | exact f2.2.1 | exact f3.2.1 | exact f4.2.1 | exact f5.2.1 | exact f6.2.1 | exact f7.2.1 | exact va_takeS) (by first | exact roomFor_of (by omega) | exact roomFor_wide (by omega)) (by omega) ?_)
    | ((with_reducible show opC (happend _ _ _ _ _) _); refine sl_appendX (by with_reducible first | exact H | exact H.p1 | exact H.p2 | exact H.p3 | exact H.p4 | exact H.p5 | exact H.p6 | exact H.p7) (by first | assumption | with_reducible first | exact f0.2.1 | exact f1.2.1 | exact f2.2.1 | exact f3.2.1 | exact f4.2.1 | exact f5.2.1 | exact f6.2.1 | exact f7.2.1 | exact va_takeS) (by first | exact roomFor_of (by omega) | exact roomFor_wide (by omega)) (by omega) ?_)
    | ((with_reducible show opC (hbox _ _) _); refine sl_box1 H (by first | exact rfl | (simp only [f0, f1, f2, f3, f4, f5, f6, f7]; done) | (simp only [onA, *]; done)) (by first | exact rfl | (simp only [f0, f1, f2, f3, f4, f5, f6, f7]; done) | (simp only [onA, *]; done)) ?_)
    | ((with_reducible show opC (hbox _ _) _); refine sl_boxA H (by first | exact rfl | (simp only [f0, f1, f2, f3, f4, f5, f6, f7]; done) | (simp only [onA, *]; done)) ?_)
    | refine hwp_draw mixed rfl ?_
    | with_reducible intro hy

  have H := Sat.my H.p3.p3.p2.p3
  have H := ref_open.2 ⟨_, _, _, _, hS, H.p1.p3.p3⟩
  exact ⟨_, rfl, ref_open.2 ⟨_, _, _, _, hS, H.p2.p2⟩⟩
theorem rnext34 {hs : HS} {l : List SA} {p : Nat} {s : St} (H : Sat hs (RefP p s :: l)) (hb : s.held.length < 4294967281) (hst : s.st ≤ 3) (hsz : s.size ≤ 4294967295) (hlf : s.left ≤ 4294967297) :
    HC Try.prog 34 [.ptr p 0] hs fun v hs' => ∃ w, v = itV (nextS s).1 w ∧ Sat hs' (RefP p (nextS s).2 :: My 1 w (itB (nextS s).1).length (bcells (itB (nextS s).1)) :: l) := by
  obtain ⟨v, n, cr, en, hS, H1⟩ := ref_open.1 H
  clear H
  have H := H1
  clear H1
  obtain ⟨most, st, held, size, left, half, ended⟩ := s
  simp only [RCs] at H hb hst hsz hlf
  refine HC.wp mixed Try.func34 c34 ?_
  have hmax : maxLen = 9223372036854775807 := rfl
  have hst4 : st = 0 ∨ st = 1 ∨ st = 2 ∨ st = 3 := by omega
  rcases hst4 with rfl | rfl | rfl | rfl
  · skip
    first | have f0 := Sat.pf (H) | have f0 := trivial
    first | have f1 := Sat.pf (H.t) | have f1 := trivial
    first | have f2 := Sat.pf (H.t.t) | have f2 := trivial
    first | have f3 := Sat.pf (H.t.t.t) | have f3 := trivial
    first | have f4 := Sat.pf (H.t.t.t.t) | have f4 := trivial
    first | have f5 := Sat.pf (H.t.t.t.t.t) | have f5 := trivial
    first | have f6 := Sat.pf (H.t.t.t.t.t.t) | have f6 := trivial
    first | have f7 := Sat.pf (H.t.t.t.t.t.t.t) | have f7 := trivial
    have rcs := True.intro
    have rbs := True.intro
    have hc := True.intro
    cases hln : lineAt (held.take (min 224 held.length)) with
    | some k =>
      have hk := lineAt_le hln
      rw [List.length_take] at hk
      have dk : decide ((0 : Int) ≤ (k : Nat)) = true := by simp
      repeat' first
        | ((with_reducible show Need _); refine need_of ?_; (first | have f0 := Sat.pf (H) | have f0 := trivial); (first | have f1 := Sat.pf (H.t) | have f1 := trivial); (first | have f2 := Sat.pf (H.t.t) | have f2 := trivial); (first | have f3 := Sat.pf (H.t.t.t) | have f3 := trivial); (first | have f4 := Sat.pf (H.t.t.t.t) | have f4 := trivial); (first | have f5 := Sat.pf (H.t.t.t.t.t) | have f5 := trivial); (first | have f6 := Sat.pf (H.t.t.t.t.t.t) | have f6 := trivial); (first | have f7 := Sat.pf (H.t.t.t.t.t.t.t) | have f7 := trivial))
        | simp -implicitDefEqProofs (disch := first | omega | decide | exact rfl | assumption | exact Nat.le_of_ble_eq_true rfl | exact One.c | exact One.o) only [vsA, vsB, eq_self, if_true, if_false, implies_true, false_implies, evp, HX.ev, Nat.reduceAdd, HOp.looks, Nat.reduceEqDiff, overw, Nat.reduceBEq, h34, rcs, rbs, hc, dk, ub34, f0, f1, f2, f3, f4, f5, f6, f7, frame0, List.replicate, Nat.sub]
        | (refine condK_cases (fun h => ?_) (fun h => ?_) <;> (try simp only [h]) <;> (try simp only [athA, ne_eq] at h) <;> (try (exfalso; omega)))
        | (refine guardK_cases (fun h => ?_) (fun h => ?_) <;> (try simp only [h]) <;> (try simp only [athA, ne_eq] at h) <;> (try (exfalso; omega)))
        | (refine dgK_cases (fun h => ?_) (fun h => ?_) <;> (try simp only [h]) <;> (try simp only [athA, ne_eq] at h) <;> (try (exfalso; omega)))
        | (clear H f0 f1 f2 f3 f4 f5 f6 f7; (with_reducible intro v2 hs H); (try simp only [setA, overw, Nat.reduceAdd] at H); refine need ?_)
        | ((with_reducible show actK _ (HAct.call (HX.cst (HV.func (Fn.func 45) _ _)) _) _ _ _ _ _); refine vcall_of ok45 rfl (end45 (Sat.rd (by first | exact H.p1 | exact H.p2)) (by omega)) ?_;  rw [hln]; rintro _ _ ⟨rfl, rfl⟩)
        | ((with_reducible show drK _ _ _ _ _ _ _ _ _ (some ⟨_, HAct.call (HX.cst (HV.func (Fn.func 45) _ _)) _, none⟩)); refine vdr_call ok45 rfl (end45 (Sat.rd (by first | exact H.p1 | exact H.p2)) (by omega)) ?_;  rw [hln]; rintro _ _ ⟨rfl, rfl⟩)
        | ((with_reducible show actK _ (HAct.call (HX.cst (HV.func (Fn.func 46) _ _)) _) _ _ _ _ _); refine vcall_of ok46 rfl (takes46 (ref_open.2 ⟨_, _, _, _, hS, H.p2.p2⟩) (by simp only; omega) (by simp only; omega)) ?_;  clear H f0 f1 f2 f3 f4 f5 f6 f7; rintro b hs H; have rb := H.t.rdX; obtain ⟨c, hc, rc⟩ := rd_cut rb (by simp; omega) (lo := 0) (hi := k) Lo.none (Hi.some (k := .i64)) (by omega) (by omega); simp only [List.drop_zero, Nat.sub_zero, List.take_take, Nat.min_eq_left (show k ≤ k + 2 by omega)] at rc; have rcs := rd_b2sK rc; have rbs := rb.sOk; refine need ?_)
        | ((with_reducible show drK _ _ _ _ _ _ _ _ _ (some ⟨_, HAct.call (HX.cst (HV.func (Fn.func 46) _ _)) _, none⟩)); refine vdr_call ok46 rfl (takes46 (ref_open.2 ⟨_, _, _, _, hS, H.p2.p2⟩) (by simp only; omega) (by simp only; omega)) ?_;  clear H f0 f1 f2 f3 f4 f5 f6 f7; rintro b hs H; have rb := H.t.rdX; obtain ⟨c, hc, rc⟩ := rd_cut rb (by simp; omega) (lo := 0) (hi := k) Lo.none (Hi.some (k := .i64)) (by omega) (by omega); simp only [List.drop_zero, Nat.sub_zero, List.take_take, Nat.min_eq_left (show k ≤ k + 2 by omega)] at rc; have rcs := rd_b2sK rc; have rbs := rb.sOk; refine need ?_)
        | refine opC_K ?_
        | refine opC_D ?_
        | ((with_reducible show opC (unit (hstore _ _ _ _)) _); refine sl_store1 (by with_reducible first | exact H | exact H.p1 | exact H.p2 | exact H.p3 | exact H.p4 | exact H.p5 | exact H.p6 | exact H.p7) (Nat.le_of_ble_eq_true rfl) (by first | exact rfl | (simp only [f0, f1, f2, f3, f4, f5, f6, f7]; done) | (simp only [onA, *]; done)) (by first | exact rfl | (simp only [f0, f1, f2, f3, f4, f5, f6, f7]; done) | (simp only [onA, *]; done)) ?_)
        | ((with_reducible show opC (unit (hstore _ _ _ _)) _); refine sl_storeN (by with_reducible first | exact H | exact H.p1 | exact H.p2 | exact H.p3 | exact H.p4 | exact H.p5 | exact H.p6 | exact H.p7) rfl (Nat.le_of_ble_eq_true rfl) (by first | exact rfl | (simp only [f0, f1, f2, f3, f4, f5, f6, f7]; done) | (simp only [onA, *]; done)) ?_)
        | ((with_reducible show opC (hbox _ _) _); refine sl_box1 H (by first | exact rfl | (simp only [f0, f1, f2, f3, f4, f5, f6, f7]; done) | (simp only [onA, *]; done)) (by first | exact rfl | (simp only [f0, f1, f2, f3, f4, f5, f6, f7]; done) | (simp only [onA, *]; done)) ?_)
        | ((with_reducible show opC (hbox _ _) _); refine sl_boxA H (by first | exact rfl | (simp only [f0, f1, f2, f3, f4, f5, f6, f7]; done) | (simp only [onA, *]; done)) ?_)
        | refine hwp_draw mixed rfl ?_
        | with_reducible intro hy

      have e : nextS ⟨most, 0, held, size, left, half, ended⟩ = (some ⟨1, held.take k, []⟩, ⟨most, 0, held.drop (k + 2), size, left, half, ended⟩) := by
        unfold nextS; rw [if_pos rfl]; simp only [hln]
      rw [e]
      exact ⟨.nilSlice, rfl, (Sat.own0 H.t.d1).p1⟩
    | none =>
      by_cases hlen : held.length < 224
      · skip
        repeat' first
          | ((with_reducible show Need _); refine need_of ?_; (first | have f0 := Sat.pf (H) | have f0 := trivial); (first | have f1 := Sat.pf (H.t) | have f1 := trivial); (first | have f2 := Sat.pf (H.t.t) | have f2 := trivial); (first | have f3 := Sat.pf (H.t.t.t) | have f3 := trivial); (first | have f4 := Sat.pf (H.t.t.t.t) | have f4 := trivial); (first | have f5 := Sat.pf (H.t.t.t.t.t) | have f5 := trivial); (first | have f6 := Sat.pf (H.t.t.t.t.t.t) | have f6 := trivial); (first | have f7 := Sat.pf (H.t.t.t.t.t.t.t) | have f7 := trivial))
          | simp -implicitDefEqProofs (disch := first | omega | decide | exact rfl | assumption | exact Nat.le_of_ble_eq_true rfl | exact One.c | exact One.o) only [vsA, vsB, eq_self, if_true, if_false, implies_true, false_implies, evp, HX.ev, Nat.reduceAdd, HOp.looks, Nat.reduceEqDiff, overw, Nat.reduceBEq, h34, rcs, rbs, hc, ub34, f0, f1, f2, f3, f4, f5, f6, f7, frame0, List.replicate, Nat.sub]
          | (refine condK_cases (fun h => ?_) (fun h => ?_) <;> (try simp only [h]) <;> (try simp only [athA, ne_eq] at h) <;> (try (exfalso; omega)))
          | (refine guardK_cases (fun h => ?_) (fun h => ?_) <;> (try simp only [h]) <;> (try simp only [athA, ne_eq] at h) <;> (try (exfalso; omega)))
          | (refine dgK_cases (fun h => ?_) (fun h => ?_) <;> (try simp only [h]) <;> (try simp only [athA, ne_eq] at h) <;> (try (exfalso; omega)))
          | (clear H f0 f1 f2 f3 f4 f5 f6 f7; (with_reducible intro v2 hs H); (try simp only [setA, overw, Nat.reduceAdd] at H); refine need ?_)
          | ((with_reducible show actK _ (HAct.call (HX.cst (HV.func (Fn.func 45) _ _)) _) _ _ _ _ _); refine vcall_of ok45 rfl (end45 (Sat.rd (by first | exact H.p1 | exact H.p2)) (by omega)) ?_;  rw [hln]; rintro _ _ ⟨rfl, rfl⟩)
          | ((with_reducible show drK _ _ _ _ _ _ _ _ _ (some ⟨_, HAct.call (HX.cst (HV.func (Fn.func 45) _ _)) _, none⟩)); refine vdr_call ok45 rfl (end45 (Sat.rd (by first | exact H.p1 | exact H.p2)) (by omega)) ?_;  rw [hln]; rintro _ _ ⟨rfl, rfl⟩)
          | refine opC_K ?_
          | refine opC_D ?_
          | ((with_reducible show opC (unit (hstore _ _ _ _)) _); refine sl_store1 (by with_reducible first | exact H | exact H.p1 | exact H.p2 | exact H.p3 | exact H.p4 | exact H.p5 | exact H.p6 | exact H.p7) (Nat.le_of_ble_eq_true rfl) (by first | exact rfl | (simp only [f0, f1, f2, f3, f4, f5, f6, f7]; done) | (simp only [onA, *]; done)) (by first | exact rfl | (simp only [f0, f1, f2, f3, f4, f5, f6, f7]; done) | (simp only [onA, *]; done)) ?_)
          | ((with_reducible show opC (unit (hstore _ _ _ _)) _); refine sl_storeN (by with_reducible first | exact H | exact H.p1 | exact H.p2 | exact H.p3 | exact H.p4 | exact H.p5 | exact H.p6 | exact H.p7) rfl (Nat.le_of_ble_eq_true rfl) (by first | exact rfl | (simp only [f0, f1, f2, f3, f4, f5, f6, f7]; done) | (simp only [onA, *]; done)) ?_)
          | ((with_reducible show opC (hbox _ _) _); refine sl_box1 H (by first | exact rfl | (simp only [f0, f1, f2, f3, f4, f5, f6, f7]; done) | (simp only [onA, *]; done)) (by first | exact rfl | (simp only [f0, f1, f2, f3, f4, f5, f6, f7]; done) | (simp only [onA, *]; done)) ?_)
          | ((with_reducible show opC (hbox _ _) _); refine sl_boxA H (by first | exact rfl | (simp only [f0, f1, f2, f3, f4, f5, f6, f7]; done) | (simp only [onA, *]; done)) ?_)
          | refine hwp_draw mixed rfl ?_
          | with_reducible intro hy

        have e : nextS ⟨most, 0, held, size, left, half, ended⟩ = (none, ⟨most, 0, held, size, left, half, ended⟩) := by
          unfold nextS; rw [if_pos rfl]; simp only [hln]; rw [if_pos hlen]
        rw [e]
        exact ⟨.nilSlice, rfl, (Sat.own0 (ref_open.2 ⟨_, _, _, _, hS, H.t⟩)).p1⟩
      · have F1 : feedF { (⟨most, 1, held, size, left, false, false⟩ : St) with held := [] } (⟨most, 1, held, size, left, false, false⟩ : St).held = ⟨most, 1, (skipL false held).2.2, size, left, (skipL false held).1, (skipL false held).2.1⟩ := by
          rw [feedF1 rfl rfl]; simp only [List.nil_append]
        repeat' first
          | ((with_reducible show Need _); refine need_of ?_; (first | have f0 := Sat.pf (H) | have f0 := trivial); (first | have f1 := Sat.pf (H.t) | have f1 := trivial); (first | have f2 := Sat.pf (H.t.t) | have f2 := trivial); (first | have f3 := Sat.pf (H.t.t.t) | have f3 := trivial); (first | have f4 := Sat.pf (H.t.t.t.t) | have f4 := trivial); (first | have f5 := Sat.pf (H.t.t.t.t.t) | have f5 := trivial); (first | have f6 := Sat.pf (H.t.t.t.t.t.t) | have f6 := trivial); (first | have f7 := Sat.pf (H.t.t.t.t.t.t.t) | have f7 := trivial))
          | simp -implicitDefEqProofs (disch := first | omega | decide | exact rfl | assumption | exact Nat.le_of_ble_eq_true rfl | exact One.c | exact One.o) only [vsA, vsB, eq_self, if_true, if_false, implies_true, false_implies, evp, HX.ev, Nat.reduceAdd, HOp.looks, Nat.reduceEqDiff, overw, Nat.reduceBEq, h34, rcs, rbs, hc, ub34, f0, f1, f2, f3, f4, f5, f6, f7, frame0, List.replicate, Nat.sub]
          | (refine condK_cases (fun h => ?_) (fun h => ?_) <;> (try simp only [h]) <;> (try simp only [athA, ne_eq] at h) <;> (try (exfalso; omega)))
          | (refine guardK_cases (fun h => ?_) (fun h => ?_) <;> (try simp only [h]) <;> (try simp only [athA, ne_eq] at h) <;> (try (exfalso; omega)))
          | (refine dgK_cases (fun h => ?_) (fun h => ?_) <;> (try simp only [h]) <;> (try simp only [athA, ne_eq] at h) <;> (try (exfalso; omega)))
          | (clear H f0 f1 f2 f3 f4 f5 f6 f7; (with_reducible intro v2 hs H); (try simp only [setA, overw, Nat.reduceAdd] at H); refine need ?_)
          | ((with_reducible show actK _ (HAct.call (HX.cst (HV.func (Fn.func 45) _ _)) _) _ _ _ _ _); refine vcall_of ok45 rfl (end45 (Sat.rd (by first | exact H.p1 | exact H.p2)) (by omega)) ?_;  rw [hln]; rintro _ _ ⟨rfl, rfl⟩)
          | ((with_reducible show drK _ _ _ _ _ _ _ _ _ (some ⟨_, HAct.call (HX.cst (HV.func (Fn.func 45) _ _)) _, none⟩)); refine vdr_call ok45 rfl (end45 (Sat.rd (by first | exact H.p1 | exact H.p2)) (by omega)) ?_;  rw [hln]; rintro _ _ ⟨rfl, rfl⟩)
          | ((with_reducible show actK _ (HAct.call (HX.cst (HV.func (Fn.func 43) _ _)) _) _ _ _ _ _); refine vcall_of ok43 rfl (again43 (s := ⟨most, 1, held, size, left, false, false⟩) (ref_open.2 ⟨_, _, _, _, ⟨by simp, by simp, by simp⟩, H.p1.p2.p2⟩) (by simp only; omega) (by simp only; omega)) ?_;  clear H f0 f1 f2 f3 f4 f5 f6 f7; rintro _ hs H; rw [F1] at H; obtain ⟨v3, n3, cr3, en3, hS3, H⟩ := ref_open.1 H; have g3 := (hS3.s1 rfl).1; simp only at g3; simp only [RCs] at H; refine need ?_)
          | ((with_reducible show drK _ _ _ _ _ _ _ _ _ (some ⟨_, HAct.call (HX.cst (HV.func (Fn.func 43) _ _)) _, none⟩)); refine vdr_call ok43 rfl (again43 (s := ⟨most, 1, held, size, left, false, false⟩) (ref_open.2 ⟨_, _, _, _, ⟨by simp, by simp, by simp⟩, H.p1.p2.p2⟩) (by simp only; omega) (by simp only; omega)) ?_;  clear H f0 f1 f2 f3 f4 f5 f6 f7; rintro _ hs H; rw [F1] at H; obtain ⟨v3, n3, cr3, en3, hS3, H⟩ := ref_open.1 H; have g3 := (hS3.s1 rfl).1; simp only at g3; simp only [RCs] at H; refine need ?_)
          | refine opC_K ?_
          | refine opC_D ?_
          | ((with_reducible show opC (unit (hstore _ _ _ _)) _); refine sl_store1 (by with_reducible first | exact H | exact H.p1 | exact H.p2 | exact H.p3 | exact H.p4 | exact H.p5 | exact H.p6 | exact H.p7) (Nat.le_of_ble_eq_true rfl) (by first | exact rfl | (simp only [f0, f1, f2, f3, f4, f5, f6, f7]; done) | (simp only [onA, *]; done)) (by first | exact rfl | (simp only [f0, f1, f2, f3, f4, f5, f6, f7]; done) | (simp only [onA, *]; done)) ?_)
          | ((with_reducible show opC (unit (hstore _ _ _ _)) _); refine sl_storeN (by with_reducible first | exact H | exact H.p1 | exact H.p2 | exact H.p3 | exact H.p4 | exact H.p5 | exact H.p6 | exact H.p7) rfl (Nat.le_of_ble_eq_true rfl) (by first | exact rfl | (simp only [f0, f1, f2, f3, f4, f5, f6, f7]; done) | (simp only [onA, *]; done)) ?_)
          | ((with_reducible show opC (hbox _ _) _); refine sl_box1 H (by first | exact rfl | (simp only [f0, f1, f2, f3, f4, f5, f6, f7]; done) | (simp only [onA, *]; done)) (by first | exact rfl | (simp only [f0, f1, f2, f3, f4, f5, f6, f7]; done) | (simp only [onA, *]; done)) ?_)
          | ((with_reducible show opC (hbox _ _) _); refine sl_boxA H (by first | exact rfl | (simp only [f0, f1, f2, f3, f4, f5, f6, f7]; done) | (simp only [onA, *]; done)) ?_)
          | refine hwp_draw mixed rfl ?_
          | with_reducible intro hy

        · have e : nextS ⟨most, 0, held, size, left, half, ended⟩ = (some ⟨2, [], []⟩, ⟨most, 0, (skipL false held).2.2, size, left, (skipL false held).1, true⟩) := by
            unfold nextS; rw [if_pos rfl]; simp only [hln]; rw [if_neg hlen, if_pos (by rw [← g3]; assumption)]
          rw [e]
          exact ⟨.nilSlice, rfl, (Sat.own0 (ref_open.2 ⟨_, _, _, _, ⟨by simp, by simp, by simp⟩, H.t⟩)).p1⟩
        · have hen : (skipL false held).2.1 = false := by
            rw [← g3]; first | assumption | simpa using (by assumption)
          have e : nextS ⟨most, 0, held, size, left, half, ended⟩ = (none, ⟨most, 1, (skipL false held).2.2, size, left, (skipL false held).1, false⟩) := by
            unfold nextS; rw [if_pos rfl]; simp only [hln]; rw [if_neg hlen, if_neg (by rw [hen]; simp)]
          rw [e]
          have hS4 : Sim ⟨most, 1, (skipL false held).2.2, size, left, (skipL false held).1, false⟩ n3 cr3 en3 := ⟨by simp, by simp, fun _ => ⟨by rw [g3]; exact hen, fun h => (hS3.s1 rfl).2 h⟩⟩
          exact ⟨.nilSlice, rfl, (Sat.own0 (ref_open.2 ⟨_, _, _, _, hS4, H.t⟩)).p1⟩
  · obtain ⟨g1, g2⟩ := hS.s1 rfl
    simp only at g1
    subst g1
    first | have f0 := Sat.pf (H) | have f0 := trivial
    first | have f1 := Sat.pf (H.t) | have f1 := trivial
    first | have f2 := Sat.pf (H.t.t) | have f2 := trivial
    first | have f3 := Sat.pf (H.t.t.t) | have f3 := trivial
    first | have f4 := Sat.pf (H.t.t.t.t) | have f4 := trivial
    first | have f5 := Sat.pf (H.t.t.t.t.t) | have f5 := trivial
    first | have f6 := Sat.pf (H.t.t.t.t.t.t) | have f6 := trivial
    first | have f7 := Sat.pf (H.t.t.t.t.t.t.t) | have f7 := trivial
    cases en with
    | false =>
      repeat' first
        | ((with_reducible show Need _); refine need_of ?_; (first | have f0 := Sat.pf (H) | have f0 := trivial); (first | have f1 := Sat.pf (H.t) | have f1 := trivial); (first | have f2 := Sat.pf (H.t.t) | have f2 := trivial); (first | have f3 := Sat.pf (H.t.t.t) | have f3 := trivial); (first | have f4 := Sat.pf (H.t.t.t.t) | have f4 := trivial); (first | have f5 := Sat.pf (H.t.t.t.t.t) | have f5 := trivial); (first | have f6 := Sat.pf (H.t.t.t.t.t.t) | have f6 := trivial); (first | have f7 := Sat.pf (H.t.t.t.t.t.t.t) | have f7 := trivial))
        | simp -implicitDefEqProofs (disch := first | omega | decide | exact rfl | assumption | exact Nat.le_of_ble_eq_true rfl | exact One.c | exact One.o) only [vsA, vsB, eq_self, if_true, if_false, implies_true, false_implies, evp, HX.ev, Nat.reduceAdd, HOp.looks, Nat.reduceEqDiff, overw, Nat.reduceBEq, h34, ub34, f0, f1, f2, f3, f4, f5, f6, f7, frame0, List.replicate, Nat.sub]
        | (refine condK_cases (fun h => ?_) (fun h => ?_) <;> (try simp only [h]) <;> (try simp only [athA, ne_eq] at h) <;> (try (exfalso; omega)))
        | (refine guardK_cases (fun h => ?_) (fun h => ?_) <;> (try simp only [h]) <;> (try simp only [athA, ne_eq] at h) <;> (try (exfalso; omega)))
        | (refine dgK_cases (fun h => ?_) (fun h => ?_) <;> (try simp only [h]) <;> (try simp only [athA, ne_eq] at h) <;> (try (exfalso; omega)))
        | (clear H f0 f1 f2 f3 f4 f5 f6 f7; (with_reducible intro v2 hs H); (try simp only [setA, overw, Nat.reduceAdd] at H); refine need ?_)
        | refine opC_K ?_
        | refine opC_D ?_
        | ((with_reducible show opC (unit (hstore _ _ _ _)) _); refine sl_store1 (by with_reducible first | exact H | exact H.p1 | exact H.p2 | exact H.p3 | exact H.p4 | exact H.p5 | exact H.p6 | exact H.p7) (Nat.le_of_ble_eq_true rfl) (by first | exact rfl | (simp only [f0, f1, f2, f3, f4, f5, f6, f7]; done) | (simp only [onA, *]; done)) (by first | exact rfl | (simp only [f0, f1, f2, f3, f4, f5, f6, f7]; done) | (simp only [onA, *]; done)) ?_)
        | ((with_reducible show opC (unit (hstore _ _ _ _)) _); refine sl_storeN (by with_reducible first | exact H | exact H.p1 | exact H.p2 | exact H.p3 | exact H.p4 | exact H.p5 | exact H.p6 | exact H.p7) rfl (Nat.le_of_ble_eq_true rfl) (by first | exact rfl | (simp only [f0, f1, f2, f3, f4, f5, f6, f7]; done) | (simp only [onA, *]; done)) ?_)
        | ((with_reducible show opC (hbox _ _) _); refine sl_box1 H (by first | exact rfl | (simp only [f0, f1, f2, f3, f4, f5, f6, f7]; done) | (simp only [onA, *]; done)) (by first | exact rfl | (simp only [f0, f1, f2, f3, f4, f5, f6, f7]; done) | (simp only [onA, *]; done)) ?_)
        | ((with_reducible show opC (hbox _ _) _); refine sl_boxA H (by first | exact rfl | (simp only [f0, f1, f2, f3, f4, f5, f6, f7]; done) | (simp only [onA, *]; done)) ?_)
        | refine hwp_draw mixed rfl ?_
        | with_reducible intro hy

      have e : nextS ⟨most, 1, held, size, left, half, false⟩ = (none, ⟨most, 1, held, size, left, half, false⟩) := by
        unfold nextS; rw [if_neg (by simp), if_pos rfl, if_neg (by simp)]
      rw [e]
      exact ⟨.nilSlice, rfl, (Sat.own0 (ref_open.2 ⟨_, _, _, _, hS, H.t⟩)).p1⟩
    | true =>
      repeat' first
        | ((with_reducible show Need _); refine need_of ?_; (first | have f0 := Sat.pf (H) | have f0 := trivial); (first | have f1 := Sat.pf (H.t) | have f1 := trivial); (first | have f2 := Sat.pf (H.t.t) | have f2 := trivial); (first | have f3 := Sat.pf (H.t.t.t) | have f3 := trivial); (first | have f4 := Sat.pf (H.t.t.t.t) | have f4 := trivial); (first | have f5 := Sat.pf (H.t.t.t.t.t) | have f5 := trivial); (first | have f6 := Sat.pf (H.t.t.t.t.t.t) | have f6 := trivial); (first | have f7 := Sat.pf (H.t.t.t.t.t.t.t) | have f7 := trivial))
        | simp -implicitDefEqProofs (disch := first | omega | decide | exact rfl | assumption | exact Nat.le_of_ble_eq_true rfl | exact One.c | exact One.o) only [vsA, vsB, eq_self, if_true, if_false, implies_true, false_implies, evp, HX.ev, Nat.reduceAdd, HOp.looks, Nat.reduceEqDiff, overw, Nat.reduceBEq, h34, ub34, f0, f1, f2, f3, f4, f5, f6, f7, frame0, List.replicate, Nat.sub]
        | (refine condK_cases (fun h => ?_) (fun h => ?_) <;> (try simp only [h]) <;> (try simp only [athA, ne_eq] at h) <;> (try (exfalso; omega)))
        | (refine guardK_cases (fun h => ?_) (fun h => ?_) <;> (try simp only [h]) <;> (try simp only [athA, ne_eq] at h) <;> (try (exfalso; omega)))
        | (refine dgK_cases (fun h => ?_) (fun h => ?_) <;> (try simp only [h]) <;> (try simp only [athA, ne_eq] at h) <;> (try (exfalso; omega)))
        | (clear H f0 f1 f2 f3 f4 f5 f6 f7; (with_reducible intro v2 hs H); (try simp only [setA, overw, Nat.reduceAdd] at H); refine need ?_)
        | refine opC_K ?_
        | refine opC_D ?_
        | ((with_reducible show opC (unit (hstore _ _ _ _)) _); refine sl_store1 (by with_reducible first | exact H | exact H.p1 | exact H.p2 | exact H.p3 | exact H.p4 | exact H.p5 | exact H.p6 | exact H.p7) (Nat.le_of_ble_eq_true rfl) (by first | exact rfl | (simp only [f0, f1, f2, f3, f4, f5, f6, f7]; done) | (simp only [onA, *]; done)) (by first | exact rfl | (simp only [f0, f1, f2, f3, f4, f5, f6, f7]; done) | (simp only [onA, *]; done)) ?_)
        | ((with_reducible show opC (unit (hstore _ _ _ _)) _); refine sl_storeN (by with_reducible first | exact H | exact H.p1 | exact H.p2 | exact H.p3 | exact H.p4 | exact H.p5 | exact H.p6 | exact H.p7) rfl (Nat.le_of_ble_eq_true rfl) (by first | exact rfl | (simp only [f0, f1, f2, f3, f4, f5, f6, f7]; done) | (simp only [onA, *]; done)) ?_)
        | ((with_reducible show opC (hbox _ _) _); refine sl_box1 H (by first | exact rfl | (simp only [f0, f1, f2, f3, f4, f5, f6, f7]; done) | (simp only [onA, *]; done)) (by first | exact rfl | (simp only [f0, f1, f2, f3, f4, f5, f6, f7]; done) | (simp only [onA, *]; done)) ?_)
        | ((with_reducible show opC (hbox _ _) _); refine sl_boxA H (by first | exact rfl | (simp only [f0, f1, f2, f3, f4, f5, f6, f7]; done) | (simp only [onA, *]; done)) ?_)
        | refine hwp_draw mixed rfl ?_
        | with_reducible intro hy

      have e : nextS ⟨most, 1, held, size, left, half, true⟩ = (some ⟨2, [], []⟩, ⟨most, 0, held, size, left, half, true⟩) := by
        unfold nextS; rw [if_neg (by simp), if_pos rfl, if_pos rfl]
      rw [e]
      exact ⟨.nilSlice, rfl, (Sat.own0 (ref_open.2 ⟨_, _, _, _, ⟨by simp, by simp, by simp⟩, H.t⟩)).p1⟩
  · have hn := hS.s2 rfl
    simp only at hn
    subst hn
    first | have f0 := Sat.pf (H) | have f0 := trivial
    first | have f1 := Sat.pf (H.t) | have f1 := trivial
    first | have f2 := Sat.pf (H.t.t) | have f2 := trivial
    first | have f3 := Sat.pf (H.t.t.t) | have f3 := trivial
    first | have f4 := Sat.pf (H.t.t.t.t) | have f4 := trivial
    first | have f5 := Sat.pf (H.t.t.t.t.t) | have f5 := trivial
    first | have f6 := Sat.pf (H.t.t.t.t.t.t) | have f6 := trivial
    first | have f7 := Sat.pf (H.t.t.t.t.t.t.t) | have f7 := trivial
    by_cases hlen : held.length < n + 2
    · skip
      repeat' first
        | ((with_reducible show Need _); refine need_of ?_; (first | have f0 := Sat.pf (H) | have f0 := trivial); (first | have f1 := Sat.pf (H.t) | have f1 := trivial); (first | have f2 := Sat.pf (H.t.t) | have f2 := trivial); (first | have f3 := Sat.pf (H.t.t.t) | have f3 := trivial); (first | have f4 := Sat.pf (H.t.t.t.t) | have f4 := trivial); (first | have f5 := Sat.pf (H.t.t.t.t.t) | have f5 := trivial); (first | have f6 := Sat.pf (H.t.t.t.t.t.t) | have f6 := trivial); (first | have f7 := Sat.pf (H.t.t.t.t.t.t.t) | have f7 := trivial))
        | simp -implicitDefEqProofs (disch := first | omega | decide | exact rfl | assumption | exact Nat.le_of_ble_eq_true rfl | exact One.c | exact One.o) only [vsA, vsB, eq_self, if_true, if_false, implies_true, false_implies, evp, HX.ev, Nat.reduceAdd, HOp.looks, Nat.reduceEqDiff, overw, Nat.reduceBEq, h34, ub34, f0, f1, f2, f3, f4, f5, f6, f7, frame0, List.replicate, Nat.sub]
        | (refine condK_cases (fun h => ?_) (fun h => ?_) <;> (try simp only [h]) <;> (try simp only [athA, ne_eq] at h) <;> (try (exfalso; omega)))
        | (refine guardK_cases (fun h => ?_) (fun h => ?_) <;> (try simp only [h]) <;> (try simp only [athA, ne_eq] at h) <;> (try (exfalso; omega)))
        | (refine dgK_cases (fun h => ?_) (fun h => ?_) <;> (try simp only [h]) <;> (try simp only [athA, ne_eq] at h) <;> (try (exfalso; omega)))
        | (clear H f0 f1 f2 f3 f4 f5 f6 f7; (with_reducible intro v2 hs H); (try simp only [setA, overw, Nat.reduceAdd] at H); refine need ?_)
        | refine opC_K ?_
        | refine opC_D ?_
        | ((with_reducible show opC (unit (hstore _ _ _ _)) _); refine sl_store1 (by with_reducible first | exact H | exact H.p1 | exact H.p2 | exact H.p3 | exact H.p4 | exact H.p5 | exact H.p6 | exact H.p7) (Nat.le_of_ble_eq_true rfl) (by first | exact rfl | (simp only [f0, f1, f2, f3, f4, f5, f6, f7]; done) | (simp only [onA, *]; done)) (by first | exact rfl | (simp only [f0, f1, f2, f3, f4, f5, f6, f7]; done) | (simp only [onA, *]; done)) ?_)
        | ((with_reducible show opC (unit (hstore _ _ _ _)) _); refine sl_storeN (by with_reducible first | exact H | exact H.p1 | exact H.p2 | exact H.p3 | exact H.p4 | exact H.p5 | exact H.p6 | exact H.p7) rfl (Nat.le_of_ble_eq_true rfl) (by first | exact rfl | (simp only [f0, f1, f2, f3, f4, f5, f6, f7]; done) | (simp only [onA, *]; done)) ?_)
        | ((with_reducible show opC (hbox _ _) _); refine sl_box1 H (by first | exact rfl | (simp only [f0, f1, f2, f3, f4, f5, f6, f7]; done) | (simp only [onA, *]; done)) (by first | exact rfl | (simp only [f0, f1, f2, f3, f4, f5, f6, f7]; done) | (simp only [onA, *]; done)) ?_)
        | ((with_reducible show opC (hbox _ _) _); refine sl_boxA H (by first | exact rfl | (simp only [f0, f1, f2, f3, f4, f5, f6, f7]; done) | (simp only [onA, *]; done)) ?_)
        | refine hwp_draw mixed rfl ?_
        | with_reducible intro hy

      have e : nextS ⟨most, 2, held, n, left, half, ended⟩ = (none, ⟨most, 2, held, n, left, half, ended⟩) := by
        unfold nextS; rw [if_neg (by simp), if_neg (by simp), if_pos rfl, if_pos hlen]
      rw [e]
      exact ⟨.nilSlice, rfl, (Sat.own0 (ref_open.2 ⟨_, _, _, _, hS, H.t⟩)).p1⟩
    · have rbs := True.intro
      have hc := True.intro
      have o1 := True.intro
      have o2 := True.intro
      have i1 := True.intro
      have i2 := True.intro
      have i3 := True.intro
      have i4 := True.intro
      have lb : (held.take (n + 2)).length = n + 2 := by simp; omega
      have e : nextS ⟨most, 2, held, n, left, half, ended⟩ = (some ⟨(bodyF (held.take (n + 2)) n).1, [], (bodyF (held.take (n + 2)) n).2⟩, ⟨most, 0, held.drop (n + 2), n, left, half, ended⟩) := by
        unfold nextS; rw [if_neg (by simp), if_neg (by simp), if_pos rfl, if_neg hlen]
      rw [e]
      repeat' first
        | ((with_reducible show Need _); refine need_of ?_; (first | have f0 := Sat.pf (H) | have f0 := trivial); (first | have f1 := Sat.pf (H.t) | have f1 := trivial); (first | have f2 := Sat.pf (H.t.t) | have f2 := trivial); (first | have f3 := Sat.pf (H.t.t.t) | have f3 := trivial); (first | have f4 := Sat.pf (H.t.t.t.t) | have f4 := trivial); (first | have f5 := Sat.pf (H.t.t.t.t.t) | have f5 := trivial); (first | have f6 := Sat.pf (H.t.t.t.t.t.t) | have f6 := trivial); (first | have f7 := Sat.pf (H.t.t.t.t.t.t.t) | have f7 := trivial); (first | have i2 := (Sat.rdX (by first | exact H.p2 | exact H.p3)).ld1 i1 (bc_get (by omega)) | skip); (first | have i4 := (Sat.rdX (by first | exact H.p2 | exact H.p3)).ld1 i3 (bc_get (by omega)) | skip); (first | have rbs := (Sat.rdX (by first | exact H.p2 | exact H.p3)).sOk | skip))
        | simp -implicitDefEqProofs (disch := first | omega | decide | exact rfl | assumption | exact Nat.le_of_ble_eq_true rfl | exact One.c | exact One.o) only [vsA, vsB, eq_self, if_true, if_false, implies_true, false_implies, evp, HX.ev, Nat.reduceAdd, HOp.looks, Nat.reduceEqDiff, overw, Nat.reduceBEq, h34, rbs, hc, o1, o2, i1, i2, i3, i4, u8e10, u8e13, vadd1, ub34, f0, f1, f2, f3, f4, f5, f6, f7, frame0, List.replicate, Nat.sub]
        | (refine condK_cases (fun h => ?_) (fun h => ?_) <;> (try simp only [h]) <;> (try simp only [athA, ne_eq] at h) <;> (try (exfalso; omega)))
        | (refine guardK_cases (fun h => ?_) (fun h => ?_) <;> (try simp only [h]) <;> (try simp only [athA, ne_eq] at h) <;> (try (exfalso; omega)))
        | (refine dgK_cases (fun h => ?_) (fun h => ?_) <;> (try simp only [h]) <;> (try simp only [athA, ne_eq] at h) <;> (try (exfalso; omega)))
        | (clear H f0 f1 f2 f3 f4 f5 f6 f7; (with_reducible intro v2 hs H); (try simp only [setA, overw, Nat.reduceAdd] at H); refine need ?_)
        | ((with_reducible show actK _ (HAct.call (HX.cst (HV.func (Fn.func 46) _ _)) _) _ _ _ _ _); refine vcall_of ok46 rfl (takes46 (ref_open.2 ⟨_, _, _, _, hS, H.p2.p2⟩) (by simp only; omega) (by simp only; omega)) ?_;  clear H f0 f1 f2 f3 f4 f5 f6 f7; rintro b hs H; have rb := H.t.rdX; obtain ⟨c, hc, rc⟩ := rd_cut rb lb.symm (lo := 0) (hi := n) Lo.none (Hi.some (k := .i64)) (by omega) (by omega); have o1 := rc.one; have o2 := rc.cells; have rbs := rb.sOk; obtain ⟨q, i1, i2⟩ := rb.idx1 (bc_get (show n < (held.take (n + 2)).length by omega)) .i64; obtain ⟨q', i3, i4⟩ := rb.idx1 (bc_get (show n + 1 < (held.take (n + 2)).length by omega)) .i64; obtain ⟨v3, n3, cr3, en3, hS3, H⟩ := ref_open.1 H; have g3 := (hS3.s2 rfl); simp only at g3; subst g3; simp only [RCs] at H; refine need ?_)
        | ((with_reducible show drK _ _ _ _ _ _ _ _ _ (some ⟨_, HAct.call (HX.cst (HV.func (Fn.func 46) _ _)) _, none⟩)); refine vdr_call ok46 rfl (takes46 (ref_open.2 ⟨_, _, _, _, hS, H.p2.p2⟩) (by simp only; omega) (by simp only; omega)) ?_;  clear H f0 f1 f2 f3 f4 f5 f6 f7; rintro b hs H; have rb := H.t.rdX; obtain ⟨c, hc, rc⟩ := rd_cut rb lb.symm (lo := 0) (hi := n) Lo.none (Hi.some (k := .i64)) (by omega) (by omega); have o1 := rc.one; have o2 := rc.cells; have rbs := rb.sOk; obtain ⟨q, i1, i2⟩ := rb.idx1 (bc_get (show n < (held.take (n + 2)).length by omega)) .i64; obtain ⟨q', i3, i4⟩ := rb.idx1 (bc_get (show n + 1 < (held.take (n + 2)).length by omega)) .i64; obtain ⟨v3, n3, cr3, en3, hS3, H⟩ := ref_open.1 H; have g3 := (hS3.s2 rfl); simp only at g3; subst g3; simp only [RCs] at H; refine need ?_)
        | refine opC_K ?_
        | refine opC_D ?_
        | ((with_reducible show opC (unit (hstore _ _ _ _)) _); refine sl_store1 (by with_reducible first | exact H | exact H.p1 | exact H.p2 | exact H.p3 | exact H.p4 | exact H.p5 | exact H.p6 | exact H.p7) (Nat.le_of_ble_eq_true rfl) (by first | exact rfl | (simp only [f0, f1, f2, f3, f4, f5, f6, f7]; done) | (simp only [onA, *]; done)) (by first | exact rfl | (simp only [f0, f1, f2, f3, f4, f5, f6, f7]; done) | (simp only [onA, *]; done)) ?_)
        | ((with_reducible show opC (unit (hstore _ _ _ _)) _); refine sl_storeN (by with_reducible first | exact H | exact H.p1 | exact H.p2 | exact H.p3 | exact H.p4 | exact H.p5 | exact H.p6 | exact H.p7) rfl (Nat.le_of_ble_eq_true rfl) (by first | exact rfl | (simp only [f0, f1, f2, f3, f4, f5, f6, f7]; done) | (simp only [onA, *]; done)) ?_)
        | ((with_reducible show opC (hbox _ _) _); refine sl_box1 H (by first | exact rfl | (simp only [f0, f1, f2, f3, f4, f5, f6, f7]; done) | (simp only [onA, *]; done)) (by first | exact rfl | (simp only [f0, f1, f2, f3, f4, f5, f6, f7]; done) | (simp only [onA, *]; done)) ?_)
        | ((with_reducible show opC (hbox _ _) _); refine sl_boxA H (by first | exact rfl | (simp only [f0, f1, f2, f3, f4, f5, f6, f7]; done) | (simp only [onA, *]; done)) ?_)
        | refine hwp_draw mixed rfl ?_
        | with_reducible intro hy

      · have e1 : bodyF (held.take (n3 + 2)) n3 = (3, (held.take (n3 + 2)).take n3) := if_pos (by rw [List.getElem?_eq_getElem (show n3 < (held.take (n3 + 2)).length by omega), List.getElem?_eq_getElem (show n3 + 1 < (held.take (n3 + 2)).length by omega)]; simp [*])
        have lb2 : ((held.take (n3 + 2)).take n3).length = n3 := by simp; omega
        have H2 := (Sat.my H.t.p1.p1.p2).cut Lo.none (Hi.some (k := .i64)) (Nat.zero_le _) (by omega) hc
        rw [Nat.zero_mul, List.drop_zero, Nat.sub_zero, Nat.mul_one, bc_take] at H2
        rw [e1]
        simp only [itB, lb2]
        exact ⟨c, rfl, ref_open.2 ⟨_, _, _, _, ⟨by simp, by simp, by simp⟩, H2.p2.p2⟩⟩
      all_goals
        have e1 : bodyF (held.take (n3 + 2)) n3 = (5, []) := if_neg (by rw [List.getElem?_eq_getElem (show n3 < (held.take (n3 + 2)).length by omega), List.getElem?_eq_getElem (show n3 + 1 < (held.take (n3 + 2)).length by omega)]; simp only [Option.some.injEq]; rintro ⟨a, b⟩; first | exact absurd a (by assumption) | exact absurd b (by assumption))
        rw [e1]
        exact ⟨.nilSlice, rfl, (Sat.own0 (ref_open.2 ⟨_, _, _, _, ⟨by simp, by simp, by simp⟩, H.t.p2.t⟩)).p1⟩
  · have hn := hS.s3 rfl
    simp only at hn
    subst hn
    first | have f0 := Sat.pf (H) | have f0 := trivial
    first | have f1 := Sat.pf (H.t) | have f1 := trivial
    first | have f2 := Sat.pf (H.t.t) | have f2 := trivial
    first | have f3 := Sat.pf (H.t.t.t) | have f3 := trivial
    first | have f4 := Sat.pf (H.t.t.t.t) | have f4 := trivial
    first | have f5 := Sat.pf (H.t.t.t.t.t) | have f5 := trivial
    first | have f6 := Sat.pf (H.t.t.t.t.t.t) | have f6 := trivial
    first | have f7 := Sat.pf (H.t.t.t.t.t.t.t) | have f7 := trivial
    repeat' first
      | ((with_reducible show Need _); refine need_of ?_; (first | have f0 := Sat.pf (H) | have f0 := trivial); (first | have f1 := Sat.pf (H.t) | have f1 := trivial); (first | have f2 := Sat.pf (H.t.t) | have f2 := trivial); (first | have f3 := Sat.pf (H.t.t.t) | have f3 := trivial); (first | have f4 := Sat.pf (H.t.t.t.t) | have f4 := trivial); (first | have f5 := Sat.pf (H.t.t.t.t.t) | have f5 := trivial); (first | have f6 := Sat.pf (H.t.t.t.t.t.t) | have f6 := trivial); (first | have f7 := Sat.pf (H.t.t.t.t.t.t.t) | have f7 := trivial))
      | simp -implicitDefEqProofs (disch := first | omega | decide | exact rfl | assumption | exact Nat.le_of_ble_eq_true rfl | exact One.c | exact One.o) only [vsA, vsB, eq_self, if_true, if_false, implies_true, false_implies, evp, HX.ev, Nat.reduceAdd, HOp.looks, Nat.reduceEqDiff, overw, Nat.reduceBEq, h34, ub34, f0, f1, f2, f3, f4, f5, f6, f7, frame0, List.replicate, Nat.sub]
      | (refine condK_cases (fun h => ?_) (fun h => ?_) <;> (try simp only [h]) <;> (try simp only [athA, ne_eq] at h) <;> (try (exfalso; omega)))
      | (refine guardK_cases (fun h => ?_) (fun h => ?_) <;> (try simp only [h]) <;> (try simp only [athA, ne_eq] at h) <;> (try (exfalso; omega)))
      | (refine dgK_cases (fun h => ?_) (fun h => ?_) <;> (try simp only [h]) <;> (try simp only [athA, ne_eq] at h) <;> (try (exfalso; omega)))
      | (clear H f0 f1 f2 f3 f4 f5 f6 f7; (with_reducible intro v2 hs H); (try simp only [setA, overw, Nat.reduceAdd] at H); refine need ?_)
      | refine opC_K ?_
      | refine opC_D ?_
      | ((with_reducible show opC (unit (hstore _ _ _ _)) _); refine sl_store1 (by with_reducible first | exact H | exact H.p1 | exact H.p2 | exact H.p3 | exact H.p4 | exact H.p5 | exact H.p6 | exact H.p7) (Nat.le_of_ble_eq_true rfl) (by first | exact rfl | (simp only [f0, f1, f2, f3, f4, f5, f6, f7]; done) | (simp only [onA, *]; done)) (by first | exact rfl | (simp only [f0, f1, f2, f3, f4, f5, f6, f7]; done) | (simp only [onA, *]; done)) ?_)
      | ((with_reducible show opC (unit (hstore _ _ _ _)) _); refine sl_storeN (by with_reducible first | exact H | exact H.p1 | exact H.p2 | exact H.p3 | exact H.p4 | exact H.p5 | exact H.p6 | exact H.p7) rfl (Nat.le_of_ble_eq_true rfl) (by first | exact rfl | (simp only [f0, f1, f2, f3, f4, f5, f6, f7]; done) | (simp only [onA, *]; done)) ?_)
      | ((with_reducible show opC (hbox _ _) _); refine sl_box1 H (by first | exact rfl | (simp only [f0, f1, f2, f3, f4, f5, f6, f7]; done) | (simp only [onA, *]; done)) (by first | exact rfl | (simp only [f0, f1, f2, f3, f4, f5, f6, f7]; done) | (simp only [onA, *]; done)) ?_)
      | ((with_reducible show opC (hbox _ _) _); refine sl_boxA H (by first | exact rfl | (simp only [f0, f1, f2, f3, f4, f5, f6, f7]; done) | (simp only [onA, *]; done)) ?_)
      | refine hwp_draw mixed rfl ?_
      | with_reducible intro hy

    · have e : nextS ⟨most, 3, held, size, n, half, ended⟩ = (some ⟨4, [], []⟩, ⟨most, 0, held, size, n, half, ended⟩) := by
        unfold nextS; rw [if_neg (by simp), if_neg (by simp), if_neg (by simp), if_neg (by simp only; omega)]
      rw [e]
      exact ⟨.nilSlice, rfl, (Sat.own0 (ref_open.2 ⟨_, _, _, _, ⟨by simp, by simp, by simp⟩, H.t⟩)).p1⟩
    · have e : nextS ⟨most, 3, held, size, n, half, ended⟩ = (none, ⟨most, 3, held, size, n, half, ended⟩) := by
        unfold nextS; rw [if_neg (by simp), if_neg (by simp), if_neg (by simp), if_pos (by simp only; omega)]
      rw [e]
      exact ⟨.nilSlice, rfl, (Sat.own0 (ref_open.2 ⟨_, _, _, _, hS, H.t⟩)).p1⟩
end Go.Proofs.Ytccfcegmaejlnaa
namespace Go.Proofs.Ytccfcegmaejlnaa
open Go Go.HL
set_option maxRecDepth 100000
set_option maxHeartbeats 40000000
set_option linter.unusedSimpArgs false
attribute [local irreducible] pt My Ex Vw Gr GrK each grp exs Sat takeCells happend hbuildSlice hstore hbox hslice hmakeSlice hs2b hcopy HL.unit opC

/-- the same slices, bytes as many. -/
def Like (E E' : List En) : Prop := E'.length = E.length ∧ ∀ (i : Nat) e, E[i]? = some e → ∃ e', E'[i]? = some e' ∧ e'.bs.length = e.bs.length
theorem Like.refl (E : List En) : Like E E := ⟨rfl, fun i e h => ⟨e, h, rfl⟩⟩
theorem Like.set {E E' : List En} {i : Nat} {e x : En} (h : Like E E') (hi : E'[i]? = some e) (hx : x.bs.length = e.bs.length) : Like E (E'.set i x) := by
  refine ⟨by rw [List.length_set, h.1], fun j a ha => ?_⟩
  obtain ⟨e', h1, h2⟩ := h.2 j a ha
  by_cases hij : i = j
  · subst hij
    rw [hi] at h1; cases h1
    exact ⟨x, by rw [List.getElem?_set_self (lt_of_get hi)], by omega⟩
  · exact ⟨e', by rw [List.getElem?_set_ne hij]; exact h1, h2⟩
theorem mul7 {i : Nat} (h : i < 10737418240) : hbin .mul none (.int .i64 7) (.int .i64 (i : Nat)) = some (.int .i64 ((7 * i : Nat) : Int)) := by
  rw [vb_mul, vwr_i64 (by omega)]; congr 2
theorem byte7 (n : Nat) : hconvInt .u8 (.int .i64 (n : Nat)) = some (.int .u8 ((UInt8.ofNat n).toNat : Nat)) := by
  simp only [hconvInt, wr, UInt8.toNat_ofNat']
  congr 2
theorem write16 {hs : HS} {F : List SA} {d : Nat} {a b vo vw lt : HV} {E1 E2 : List En} (H : Sat hs (pt d (.cells 1 [a, b, vo, vw, .int .i64 (E1.length : Nat), lt] false false []) :: Bk vo vw E1 E2 :: F))
    (hn : E1.length + E2.length < 5368709120) (hb : ∀ e ∈ E1 ++ E2, e.bs.length < 46116860184) :
    HC Try.prog 16 [.ptr d 2] hs fun v hs' => v = .bool true ∧ ∃ vo' vw' E3, E3.length = E1.length + 2 * E2.length ∧ (∀ e ∈ E3, e ∈ E1 ∨ ∃ e' ∈ E2, e.bs.length ≤ e'.bs.length + 40) ∧
      Sat hs' (pt d (.cells 1 [a, b, vo', vw', .int .i64 (E3.length : Nat), lt] false false []) :: Bk vo' vw' E3 [] :: F) := by
  have lo := fun hs => ((bk_open.1 H.t).rd).len hs
  have hle0 : (E1 ++ E2).length = E1.length + E2.length := by simp
  refine HC.wp mixed Try.func16 c16 ?_
  first | have f0 := Sat.pf (H) | have f0 := trivial
  first | have f1 := Sat.pf (H.t) | have f1 := trivial
  first | have f2 := Sat.pf (H.t.t) | have f2 := trivial
  first | have f3 := Sat.pf (H.t.t.t) | have f3 := trivial
  first | have f4 := Sat.pf (H.t.t.t.t) | have f4 := trivial
  first | have f5 := Sat.pf (H.t.t.t.t.t) | have f5 := trivial
  first | have f6 := Sat.pf (H.t.t.t.t.t.t) | have f6 := trivial
  first | have f7 := Sat.pf (H.t.t.t.t.t.t.t) | have f7 := trivial
  repeat' first
    | ((with_reducible show Need _); refine need_of ?_; (first | have f0 := Sat.pf (H) | have f0 := trivial); (first | have f1 := Sat.pf (H.t) | have f1 := trivial); (first | have f2 := Sat.pf (H.t.t) | have f2 := trivial); (first | have f3 := Sat.pf (H.t.t.t) | have f3 := trivial); (first | have f4 := Sat.pf (H.t.t.t.t) | have f4 := trivial); (first | have f5 := Sat.pf (H.t.t.t.t.t) | have f5 := trivial); (first | have f6 := Sat.pf (H.t.t.t.t.t.t) | have f6 := trivial); (first | have f7 := Sat.pf (H.t.t.t.t.t.t.t) | have f7 := trivial))
    | simp -implicitDefEqProofs (disch := first | omega | decide | exact rfl | assumption | exact Nat.le_of_ble_eq_true rfl | exact One.c | exact One.o) only [vsA, vsB, eq_self, if_true, if_false, implies_true, false_implies, evp, HX.ev, Nat.reduceAdd, HOp.looks, Nat.reduceEqDiff, overw, Nat.reduceBEq, h16, lo, ub16, f0, f1, f2, f3, f4, f5, f6, f7, frame0, List.replicate, Nat.sub]
    | (refine condK_cases (fun h => ?_) (fun h => ?_) <;> (try simp only [h]) <;> (try simp only [athA, ne_eq] at h) <;> (try (exfalso; omega)))
    | (refine guardK_cases (fun h => ?_) (fun h => ?_) <;> (try simp only [h]) <;> (try simp only [athA, ne_eq] at h) <;> (try (exfalso; omega)))
    | (refine dgK_cases (fun h => ?_) (fun h => ?_) <;> (try simp only [h]) <;> (try simp only [athA, ne_eq] at h) <;> (try (exfalso; omega)))
    | (clear H f0 f1 f2 f3 f4 f5 f6 f7; (with_reducible intro v2 hs H); (try simp only [setA, overw, Nat.reduceAdd] at H); refine need ?_)
    | ((with_reducible show actK _ (HAct.call (HX.cst (HV.func (Fn.func 12) _ _)) _) _ _ _ _ _); refine vcall_of ok12 rfl (holds12 H (by simpa using (by omega : E1.length + E2.length < 1073741824000)) (fun e he => by have := hb e he; omega)) ?_; rintro _ _ ⟨rfl, rfl⟩)
    | ((with_reducible show drK _ _ _ _ _ _ _ _ _ (some ⟨_, HAct.call (HX.cst (HV.func (Fn.func 12) _ _)) _, none⟩)); refine vdr_call ok12 rfl (holds12 H (by simpa using (by omega : E1.length + E2.length < 1073741824000)) (fun e he => by have := hb e he; omega)) ?_; rintro _ _ ⟨rfl, rfl⟩)
    | refine opC_K ?_
    | refine opC_D ?_
    | ((with_reducible show opC (unit (hstore _ _ _ _)) _); refine sl_store1 (by with_reducible first | exact H | exact H.p1 | exact H.p2 | exact H.p3 | exact H.p4 | exact H.p5 | exact H.p6 | exact H.p7) (Nat.le_of_ble_eq_true rfl) (by first | exact rfl | (simp only [f0, f1, f2, f3, f4, f5, f6, f7]; done) | (simp only [onA, *]; done)) (by first | exact rfl | (simp only [f0, f1, f2, f3, f4, f5, f6, f7]; done) | (simp only [onA, *]; done)) ?_)
    | ((with_reducible show opC (unit (hstore _ _ _ _)) _); refine sl_storeN (by with_reducible first | exact H | exact H.p1 | exact H.p2 | exact H.p3 | exact H.p4 | exact H.p5 | exact H.p6 | exact H.p7) rfl (Nat.le_of_ble_eq_true rfl) (by first | exact rfl | (simp only [f0, f1, f2, f3, f4, f5, f6, f7]; done) | (simp only [onA, *]; done)) ?_)
    | ((with_reducible show opC (happend _ _ _ _ _) _); refine sl_append (by with_reducible first | exact H | exact H.p1 | exact H.p2 | exact H.p3 | exact H.p4 | exact H.p5 | exact H.p6 | exact H.p7) (by first | assumption | with_reducible first | exact f0.2.1 | exact f1.2.1 | exact f2.2.1 | exact f3.2.1 | exact f4.2.1 | exact f5.2.1 | exact f6.2.1 | exact f7.2.1 | exact va_takeS) (by first | exact roomFor_of (by omega) | exact roomFor_wide (by omega)) (by omega) ?_)
    | ((with_reducible show opC (happend _ _ _ _ _) _); refine sl_append0X H (by first | assumption | with_reducible first | exact f0.2.1 | exact f1.2.1 | exact f2.2.1 | exact f3.2.1 | exact f4.2.1 | exact f5.2.1 | exact f6.2.1 | exact f7.2.1 | exact va_takeS) (by first | exact roomFor_of (by omega) | exact roomFor_wide (by omega)) (by omega) ?_)
    | ((with_reducible show opC (happend _ _ _ _ _) _); refine sl_appendX (by with_reducible first | exact H | exact H.p1 | exact H.p2 | exact H.p3 | exact H.p4 | exact H.p5 | exact H.p6 | exact H.p7) (by first | assumption | with_reducible first | exact f0.2.1 | exact f1.2.1 | exact f2.2.1 | exact f3.2.1 | exact f4.2.1 | exact f5.2.1 | exact f6.2.1 | exact f7.2.1 | exact va_takeS) (by first | exact roomFor_of (by omega) | exact roomFor_wide (by omega)) (by omega) ?_)
    | ((with_reducible show opC (hbuildSlice _ _ _ _ _) _); refine sl_bslice1 H rfl (by first | exact rfl | (simp only [f0, f1, f2, f3, f4, f5, f6, f7]; done) | (simp only [onA, *]; done)) (by first | exact rfl | (simp only [f0, f1, f2, f3, f4, f5, f6, f7]; done) | (simp only [onA, *]; done)) ?_)
    | refine hwp_draw mixed rfl ?_
    | with_reducible intro hy

  -- first: all of the new ones are written
  refine HW.loopA mixed (fun s : Nat × List En => (.ptr d 2 :: .undef :: .undef :: .bool true :: .int .i64 (E1.length : Nat) :: .int .i64 ((E1 ++ E2).length : Nat) :: .int .i64 ((E1.length + s.1 : Nat) : Int) :: .undef :: .undef :: .undef :: .undef :: .undef :: .undef :: .undef :: .undef :: .undef :: .undef :: .undef :: .undef :: .undef :: .undef :: .undef :: .undef :: .undef :: .undef :: .undef :: .undef :: .undef :: .undef :: .undef :: .undef :: .undef :: .undef :: .undef :: .undef :: .undef :: .undef :: .undef :: .undef :: .undef :: .undef :: .undef :: .undef :: .undef :: .undef :: .undef :: .undef :: .undef :: .undef :: .undef :: .undef :: .undef :: .undef :: .undef :: .undef :: .undef :: .undef :: .undef :: .undef :: .undef :: .undef :: .undef :: .undef :: .undef :: .undef :: .undef :: .undef :: .undef :: .undef :: .undef :: .undef :: .undef :: .undef :: .undef :: .undef :: .undef :: .undef :: .undef :: .undef :: .undef :: .undef :: .undef :: .undef :: .undef :: .undef :: .undef :: .undef :: .undef :: .undef :: .undef :: .undef :: .undef :: .undef :: .undef :: .undef :: .undef :: .undef :: .undef :: .undef :: .undef :: .undef :: .undef :: .undef :: .undef :: .undef :: .undef :: .undef :: .undef :: .undef :: .undef :: .undef :: .undef :: .undef :: .undef :: .undef :: .undef :: .undef :: .undef :: .undef :: .undef :: .undef :: .undef :: .undef :: .undef :: .undef :: .undef :: .undef :: .undef :: .undef :: .undef :: .undef :: .undef :: .undef :: .undef :: .undef :: .undef :: .undef :: []))
    (fun s => pt d (.cells 1 [a, b, vo, vw, .int .i64 (E1.length : Nat), lt] false false []) :: Bk vo vw E1 s.2 :: F) (fun s => E2.length - s.1) (fun s => s.1 ≤ E2.length ∧ Like E2 s.2) (0, E2) ⟨by omega, Like.refl _⟩ (by (repeat first | exact Less.nil | refine Less.undef _ ?_ | refine Less.keep _ ?_)) H ?_
  rintro ⟨j, E2'⟩ hs ⟨hj, hlk⟩ H
  first | have f0 := Sat.pf (H) | have f0 := trivial
  first | have f1 := Sat.pf (H.t) | have f1 := trivial
  first | have f2 := Sat.pf (H.t.t) | have f2 := trivial
  first | have f3 := Sat.pf (H.t.t.t) | have f3 := trivial
  first | have f4 := Sat.pf (H.t.t.t.t) | have f4 := trivial
  first | have f5 := Sat.pf (H.t.t.t.t.t) | have f5 := trivial
  first | have f6 := Sat.pf (H.t.t.t.t.t.t) | have f6 := trivial
  first | have f7 := Sat.pf (H.t.t.t.t.t.t.t) | have f7 := trivial
  by_cases h : j < E2.length
  · obtain ⟨e, he⟩ : ∃ e, E2'[j]? = some e := ⟨_, List.getElem?_eq_getElem (by rw [hlk.1]; exact h)⟩
    have hle : (E1 ++ E2).length = E1.length + E2.length := by simp
    have hbe : e.bs.length < 46116860184 := by
      obtain ⟨e', h1, h2⟩ := hlk.2 j E2[j] (List.getElem?_eq_getElem h)
      rw [show (j, E2').snd = E2' from rfl, he] at h1
      cases h1
      rw [h2]; exact hb _ (List.mem_append_right _ (List.getElem_mem h))
    have B := bk_open.1 H.t
    have so := B.rd.sOk
    obtain ⟨p, hp1, hp2⟩ := B.rd.idx1 (show ((E1 ++ E2').map En.out)[E1.length + j]? = some e.out by rw [List.getElem?_map, List.getElem?_append_right (by omega)]; simp [he]) .i64
    have ll := (new_open.1 (Sat.each_at B.p3 he)).rdX.len hs
    repeat' first
      | ((with_reducible show Need _); refine need_of ?_; (first | have f0 := Sat.pf (H) | have f0 := trivial); (first | have f1 := Sat.pf (H.t) | have f1 := trivial); (first | have f2 := Sat.pf (H.t.t) | have f2 := trivial); (first | have f3 := Sat.pf (H.t.t.t) | have f3 := trivial); (first | have f4 := Sat.pf (H.t.t.t.t) | have f4 := trivial); (first | have f5 := Sat.pf (H.t.t.t.t.t) | have f5 := trivial); (first | have f6 := Sat.pf (H.t.t.t.t.t.t) | have f6 := trivial); (first | have f7 := Sat.pf (H.t.t.t.t.t.t.t) | have f7 := trivial))
      | simp -implicitDefEqProofs (disch := first | omega | decide | exact rfl | assumption | exact Nat.le_of_ble_eq_true rfl | exact One.c | exact One.o) only [vsA, vsB, eq_self, if_true, if_false, implies_true, false_implies, evp, HX.ev, Nat.reduceAdd, HOp.looks, Nat.reduceEqDiff, overw, Nat.reduceBEq, so, hp1, hp2, ll, ub16, f0, f1, f2, f3, f4, f5, f6, f7]
      | (refine condK_cases (fun h => ?_) (fun h => ?_) <;> (try simp only [h]) <;> (try simp only [athA, ne_eq] at h) <;> (try (exfalso; omega)))
      | (refine guardK_cases (fun h => ?_) (fun h => ?_) <;> (try simp only [h]) <;> (try simp only [athA, ne_eq] at h) <;> (try (exfalso; omega)))
      | (refine dgK_cases (fun h => ?_) (fun h => ?_) <;> (try simp only [h]) <;> (try simp only [athA, ne_eq] at h) <;> (try (exfalso; omega)))
      | (clear H f0 f1 f2 f3 f4 f5 f6 f7; (with_reducible intro v2 hs H); (try simp only [setA, overw, Nat.reduceAdd] at H); refine need ?_)
      | refine opC_K ?_
      | refine opC_D ?_
      | ((with_reducible show opC (unit (hstore _ _ _ _)) _); refine sl_store1 (by with_reducible first | exact H | exact H.p1 | exact H.p2 | exact H.p3 | exact H.p4 | exact H.p5 | exact H.p6 | exact H.p7) (Nat.le_of_ble_eq_true rfl) (by first | exact rfl | (simp only [f0, f1, f2, f3, f4, f5, f6, f7]; done) | (simp only [onA, *]; done)) (by first | exact rfl | (simp only [f0, f1, f2, f3, f4, f5, f6, f7]; done) | (simp only [onA, *]; done)) ?_)
      | ((with_reducible show opC (unit (hstore _ _ _ _)) _); refine sl_storeN (by with_reducible first | exact H | exact H.p1 | exact H.p2 | exact H.p3 | exact H.p4 | exact H.p5 | exact H.p6 | exact H.p7) rfl (Nat.le_of_ble_eq_true rfl) (by first | exact rfl | (simp only [f0, f1, f2, f3, f4, f5, f6, f7]; done) | (simp only [onA, *]; done)) ?_)
      | ((with_reducible show opC (happend _ _ _ _ _) _); refine sl_append (by with_reducible first | exact H | exact H.p1 | exact H.p2 | exact H.p3 | exact H.p4 | exact H.p5 | exact H.p6 | exact H.p7) (by first | assumption | with_reducible first | exact f0.2.1 | exact f1.2.1 | exact f2.2.1 | exact f3.2.1 | exact f4.2.1 | exact f5.2.1 | exact f6.2.1 | exact f7.2.1 | exact va_takeS) (by first | exact roomFor_of (by omega) | exact roomFor_wide (by omega)) (by omega) ?_)
      | ((with_reducible show opC (happend _ _ _ _ _) _); refine sl_append0X H (by first | assumption | with_reducible first | exact f0.2.1 | exact f1.2.1 | exact f2.2.1 | exact f3.2.1 | exact f4.2.1 | exact f5.2.1 | exact f6.2.1 | exact f7.2.1 | exact va_takeS) (by first | exact roomFor_of (by omega) | exact roomFor_wide (by omega)) (by omega) ?_)
      | ((with_reducible show opC (happend _ _ _ _ _) _); refine sl_appendX (by with_reducible first | exact H | exact H.p1 | exact H.p2 | exact H.p3 | exact H.p4 | exact H.p5 | exact H.p6 | exact H.p7) (by first | assumption | with_reducible first | exact f0.2.1 | exact f1.2.1 | exact f2.2.1 | exact f3.2.1 | exact f4.2.1 | exact f5.2.1 | exact f6.2.1 | exact f7.2.1 | exact va_takeS) (by first | exact roomFor_of (by omega) | exact roomFor_wide (by omega)) (by omega) ?_)
      | ((with_reducible show opC (hbuildSlice _ _ _ _ _) _); refine sl_bslice1 H rfl (by first | exact rfl | (simp only [f0, f1, f2, f3, f4, f5, f6, f7]; done) | (simp only [onA, *]; done)) (by first | exact rfl | (simp only [f0, f1, f2, f3, f4, f5, f6, f7]; done) | (simp only [onA, *]; done)) ?_)
      | refine hwp_draw mixed rfl ?_
      | with_reducible intro hy

    -- its bytes
    refine HW.loopA mixed (fun s : Nat × En => (.ptr d 2 :: .undef :: .undef :: .bool true :: .int .i64 (E1.length : Nat) :: .int .i64 ((E1 ++ E2).length : Nat) :: .int .i64 ((E1.length + j : Nat) : Int) :: .undef :: .undef :: .undef :: .undef :: .undef :: .undef :: .undef :: .undef :: .undef :: .undef :: .undef :: .undef :: .undef :: .undef :: .undef :: .undef :: .undef :: .undef :: .undef :: .undef :: .undef :: .undef :: .undef :: .undef :: .undef :: .undef :: .undef :: .undef :: .int .i64 (e.bs.length : Nat) :: .int .i64 (s.1 : Nat) :: .undef :: .undef :: .undef :: .undef :: .undef :: .undef :: .undef :: .undef :: .undef :: .undef :: .undef :: .undef :: .undef :: .undef :: .undef :: .undef :: .undef :: .undef :: .undef :: .undef :: .undef :: .undef :: .undef :: .undef :: .undef :: .undef :: .undef :: .undef :: .undef :: .undef :: .undef :: .undef :: .undef :: .undef :: .undef :: .undef :: .undef :: .undef :: .undef :: .undef :: .undef :: .undef :: .undef :: .undef :: .undef :: .undef :: .undef :: .undef :: .undef :: .undef :: .undef :: .undef :: .undef :: .undef :: .undef :: .undef :: .undef :: .undef :: .undef :: .undef :: .undef :: .undef :: .undef :: .undef :: .undef :: .undef :: .undef :: .undef :: .undef :: .undef :: .undef :: .undef :: .undef :: .undef :: .undef :: .undef :: .undef :: .undef :: .undef :: .undef :: .undef :: .undef :: .undef :: .undef :: .undef :: .undef :: .undef :: .undef :: .undef :: .undef :: .undef :: .undef :: .undef :: .undef :: .undef :: .undef :: .undef :: .undef :: .undef :: .undef :: []))
      (fun s => pt d (.cells 1 [a, b, vo, vw, .int .i64 (E1.length : Nat), lt] false false []) :: Bk vo vw E1 (E2'.set j s.2) :: F) (fun s => e.bs.length - s.1) (fun s => s.1 ≤ e.bs.length ∧ s.2.bs.length = e.bs.length) (0, e) ⟨by omega, rfl⟩ (by (repeat first | exact Less.nil | refine Less.undef _ ?_ | refine Less.keep _ ?_))
      (by rw [show E2'.set j e = E2' from by rw [List.getElem?_eq_some_iff] at he; obtain ⟨h1, h2⟩ := he; rw [← h2]; exact List.set_getElem_self h1]; exact H) ?_
    rintro ⟨k, e'⟩ hs ⟨hk, hke⟩ H
    simp only at hk hke H
    have hj' : (E2'.set j e')[j]? = some e' := by rw [List.getElem?_set_self (lt_of_get he)]
    first | have f0 := Sat.pf (H) | have f0 := trivial
    first | have f1 := Sat.pf (H.t) | have f1 := trivial
    first | have f2 := Sat.pf (H.t.t) | have f2 := trivial
    first | have f3 := Sat.pf (H.t.t.t) | have f3 := trivial
    first | have f4 := Sat.pf (H.t.t.t.t) | have f4 := trivial
    first | have f5 := Sat.pf (H.t.t.t.t.t) | have f5 := trivial
    first | have f6 := Sat.pf (H.t.t.t.t.t.t) | have f6 := trivial
    first | have f7 := Sat.pf (H.t.t.t.t.t.t.t) | have f7 := trivial
    by_cases h : k < e.bs.length
    · obtain ⟨p, q, hs1, p', q', hs2, w1, w2, w3, w4, w5, w6, H1, w7, w8, w9, w10, w11, w12, H2⟩ := bk_write H.p1 hj' (show k < e'.bs.length by omega) (UInt8.ofNat (7 * (E1.length + j) + 1))
      have m7 := mul7 (i := E1.length + j) (by omega)
      have b7 := byte7 (7 * (E1.length + j) + 1)
      have g1 := H1.get
      repeat' first
        | ((with_reducible show Need _); refine need_of ?_; (first | have f0 := Sat.pf (H) | have f0 := trivial); (first | have f1 := Sat.pf (H.t) | have f1 := trivial); (first | have f2 := Sat.pf (H.t.t) | have f2 := trivial); (first | have f3 := Sat.pf (H.t.t.t) | have f3 := trivial); (first | have f4 := Sat.pf (H.t.t.t.t) | have f4 := trivial); (first | have f5 := Sat.pf (H.t.t.t.t.t) | have f5 := trivial); (first | have f6 := Sat.pf (H.t.t.t.t.t.t) | have f6 := trivial); (first | have f7 := Sat.pf (H.t.t.t.t.t.t.t) | have f7 := trivial))
        | simp -implicitDefEqProofs (disch := first | omega | decide | exact rfl | assumption | exact Nat.le_of_ble_eq_true rfl | exact One.c | exact One.o) only [vsA, vsB, eq_self, if_true, if_false, implies_true, false_implies, evp, HX.ev, Nat.reduceAdd, HOp.looks, Nat.reduceEqDiff, overw, Nat.reduceBEq, w1, w2, w3, w4, w5, w6, w7, w8, w9, w10, w11, w12, m7, b7, g1, va_addl, vadd1, ub16, f0, f1, f2, f3, f4, f5, f6, f7]
        | (refine condK_cases (fun h => ?_) (fun h => ?_) <;> (try simp only [h]) <;> (try simp only [athA, ne_eq] at h) <;> (try (exfalso; omega)))
        | (refine guardK_cases (fun h => ?_) (fun h => ?_) <;> (try simp only [h]) <;> (try simp only [athA, ne_eq] at h) <;> (try (exfalso; omega)))
        | (refine dgK_cases (fun h => ?_) (fun h => ?_) <;> (try simp only [h]) <;> (try simp only [athA, ne_eq] at h) <;> (try (exfalso; omega)))
        | (clear H f0 f1 f2 f3 f4 f5 f6 f7; (with_reducible intro v2 hs H); (try simp only [setA, overw, Nat.reduceAdd] at H); refine need ?_)
        | refine opC_K ?_
        | refine opC_D ?_
        | ((with_reducible show opC (unit (hstore _ _ _ _)) _); refine sl_store1 (by with_reducible first | exact H | exact H.p1 | exact H.p2 | exact H.p3 | exact H.p4 | exact H.p5 | exact H.p6 | exact H.p7) (Nat.le_of_ble_eq_true rfl) (by first | exact rfl | (simp only [f0, f1, f2, f3, f4, f5, f6, f7]; done) | (simp only [onA, *]; done)) (by first | exact rfl | (simp only [f0, f1, f2, f3, f4, f5, f6, f7]; done) | (simp only [onA, *]; done)) ?_)
        | ((with_reducible show opC (unit (hstore _ _ _ _)) _); refine sl_storeN (by with_reducible first | exact H | exact H.p1 | exact H.p2 | exact H.p3 | exact H.p4 | exact H.p5 | exact H.p6 | exact H.p7) rfl (Nat.le_of_ble_eq_true rfl) (by first | exact rfl | (simp only [f0, f1, f2, f3, f4, f5, f6, f7]; done) | (simp only [onA, *]; done)) ?_)
        | ((with_reducible show opC (happend _ _ _ _ _) _); refine sl_append (by with_reducible first | exact H | exact H.p1 | exact H.p2 | exact H.p3 | exact H.p4 | exact H.p5 | exact H.p6 | exact H.p7) (by first | assumption | with_reducible first | exact f0.2.1 | exact f1.2.1 | exact f2.2.1 | exact f3.2.1 | exact f4.2.1 | exact f5.2.1 | exact f6.2.1 | exact f7.2.1 | exact va_takeS) (by first | exact roomFor_of (by omega) | exact roomFor_wide (by omega)) (by omega) ?_)
        | ((with_reducible show opC (happend _ _ _ _ _) _); refine sl_append0X H (by first | assumption | with_reducible first | exact f0.2.1 | exact f1.2.1 | exact f2.2.1 | exact f3.2.1 | exact f4.2.1 | exact f5.2.1 | exact f6.2.1 | exact f7.2.1 | exact va_takeS) (by first | exact roomFor_of (by omega) | exact roomFor_wide (by omega)) (by omega) ?_)
        | ((with_reducible show opC (happend _ _ _ _ _) _); refine sl_appendX (by with_reducible first | exact H | exact H.p1 | exact H.p2 | exact H.p3 | exact H.p4 | exact H.p5 | exact H.p6 | exact H.p7) (by first | assumption | with_reducible first | exact f0.2.1 | exact f1.2.1 | exact f2.2.1 | exact f3.2.1 | exact f4.2.1 | exact f5.2.1 | exact f6.2.1 | exact f7.2.1 | exact va_takeS) (by first | exact roomFor_of (by omega) | exact roomFor_wide (by omega)) (by omega) ?_)
        | ((with_reducible show opC (hbuildSlice _ _ _ _ _) _); refine sl_bslice1 H rfl (by first | exact rfl | (simp only [f0, f1, f2, f3, f4, f5, f6, f7]; done) | (simp only [onA, *]; done)) (by first | exact rfl | (simp only [f0, f1, f2, f3, f4, f5, f6, f7]; done) | (simp only [onA, *]; done)) ?_)
        | refine hwp_draw mixed rfl ?_
        | with_reducible intro hy

      rw [List.set_set] at H2
      exact ⟨(k + 1, ⟨e'.out, e'.want, e'.bs.set k (UInt8.ofNat (7 * (E1.length + j) + 1))⟩), _, by simp only; omega, ⟨by simp only; omega, by simp only [List.length_set]; exact hke⟩, (by (repeat first | exact Less.nil | refine Less.undef _ ?_ | refine Less.keep _ ?_)), Weak.refl _, H2.p1⟩
    · skip
      repeat' first
        | ((with_reducible show Need _); refine need_of ?_; (first | have f0 := Sat.pf (H) | have f0 := trivial); (first | have f1 := Sat.pf (H.t) | have f1 := trivial); (first | have f2 := Sat.pf (H.t.t) | have f2 := trivial); (first | have f3 := Sat.pf (H.t.t.t) | have f3 := trivial); (first | have f4 := Sat.pf (H.t.t.t.t) | have f4 := trivial); (first | have f5 := Sat.pf (H.t.t.t.t.t) | have f5 := trivial); (first | have f6 := Sat.pf (H.t.t.t.t.t.t) | have f6 := trivial); (first | have f7 := Sat.pf (H.t.t.t.t.t.t.t) | have f7 := trivial))
        | simp -implicitDefEqProofs (disch := first | omega | decide | exact rfl | assumption | exact Nat.le_of_ble_eq_true rfl | exact One.c | exact One.o) only [vsA, vsB, eq_self, if_true, if_false, implies_true, false_implies, evp, HX.ev, Nat.reduceAdd, HOp.looks, Nat.reduceEqDiff, overw, Nat.reduceBEq, vadd1, ub16, f0, f1, f2, f3, f4, f5, f6, f7]
        | (refine condK_cases (fun h => ?_) (fun h => ?_) <;> (try simp only [h]) <;> (try simp only [athA, ne_eq] at h) <;> (try (exfalso; omega)))
        | (refine guardK_cases (fun h => ?_) (fun h => ?_) <;> (try simp only [h]) <;> (try simp only [athA, ne_eq] at h) <;> (try (exfalso; omega)))
        | (refine dgK_cases (fun h => ?_) (fun h => ?_) <;> (try simp only [h]) <;> (try simp only [athA, ne_eq] at h) <;> (try (exfalso; omega)))
        | (clear H f0 f1 f2 f3 f4 f5 f6 f7; (with_reducible intro v2 hs H); (try simp only [setA, overw, Nat.reduceAdd] at H); refine need ?_)
        | refine opC_K ?_
        | refine opC_D ?_
        | ((with_reducible show opC (unit (hstore _ _ _ _)) _); refine sl_store1 (by with_reducible first | exact H | exact H.p1 | exact H.p2 | exact H.p3 | exact H.p4 | exact H.p5 | exact H.p6 | exact H.p7) (Nat.le_of_ble_eq_true rfl) (by first | exact rfl | (simp only [f0, f1, f2, f3, f4, f5, f6, f7]; done) | (simp only [onA, *]; done)) (by first | exact rfl | (simp only [f0, f1, f2, f3, f4, f5, f6, f7]; done) | (simp only [onA, *]; done)) ?_)
        | ((with_reducible show opC (unit (hstore _ _ _ _)) _); refine sl_storeN (by with_reducible first | exact H | exact H.p1 | exact H.p2 | exact H.p3 | exact H.p4 | exact H.p5 | exact H.p6 | exact H.p7) rfl (Nat.le_of_ble_eq_true rfl) (by first | exact rfl | (simp only [f0, f1, f2, f3, f4, f5, f6, f7]; done) | (simp only [onA, *]; done)) ?_)
        | ((with_reducible show opC (happend _ _ _ _ _) _); refine sl_append (by with_reducible first | exact H | exact H.p1 | exact H.p2 | exact H.p3 | exact H.p4 | exact H.p5 | exact H.p6 | exact H.p7) (by first | assumption | with_reducible first | exact f0.2.1 | exact f1.2.1 | exact f2.2.1 | exact f3.2.1 | exact f4.2.1 | exact f5.2.1 | exact f6.2.1 | exact f7.2.1 | exact va_takeS) (by first | exact roomFor_of (by omega) | exact roomFor_wide (by omega)) (by omega) ?_)
        | ((with_reducible show opC (happend _ _ _ _ _) _); refine sl_append0X H (by first | assumption | with_reducible first | exact f0.2.1 | exact f1.2.1 | exact f2.2.1 | exact f3.2.1 | exact f4.2.1 | exact f5.2.1 | exact f6.2.1 | exact f7.2.1 | exact va_takeS) (by first | exact roomFor_of (by omega) | exact roomFor_wide (by omega)) (by omega) ?_)
        | ((with_reducible show opC (happend _ _ _ _ _) _); refine sl_appendX (by with_reducible first | exact H | exact H.p1 | exact H.p2 | exact H.p3 | exact H.p4 | exact H.p5 | exact H.p6 | exact H.p7) (by first | assumption | with_reducible first | exact f0.2.1 | exact f1.2.1 | exact f2.2.1 | exact f3.2.1 | exact f4.2.1 | exact f5.2.1 | exact f6.2.1 | exact f7.2.1 | exact va_takeS) (by first | exact roomFor_of (by omega) | exact roomFor_wide (by omega)) (by omega) ?_)
        | ((with_reducible show opC (hbuildSlice _ _ _ _ _) _); refine sl_bslice1 H rfl (by first | exact rfl | (simp only [f0, f1, f2, f3, f4, f5, f6, f7]; done) | (simp only [onA, *]; done)) (by first | exact rfl | (simp only [f0, f1, f2, f3, f4, f5, f6, f7]; done) | (simp only [onA, *]; done)) ?_)
        | refine hwp_draw mixed rfl ?_
        | with_reducible intro hy

      refine ⟨(j + 1, E2'.set j e'), _, by simp only; omega, ⟨by simp only; omega, hlk.set he hke⟩, (by (repeat first | exact Less.nil | refine Less.undef _ ?_ | refine Less.keep _ ?_)), Weak.refl _, H⟩
  · obtain rfl : j = E2.length := by simp only at hj; omega
    have hle : (E1 ++ E2).length = E1.length + E2.length := by simp
    repeat' first
      | ((with_reducible show Need _); refine need_of ?_; (first | have f0 := Sat.pf (H) | have f0 := trivial); (first | have f1 := Sat.pf (H.t) | have f1 := trivial); (first | have f2 := Sat.pf (H.t.t) | have f2 := trivial); (first | have f3 := Sat.pf (H.t.t.t) | have f3 := trivial); (first | have f4 := Sat.pf (H.t.t.t.t) | have f4 := trivial); (first | have f5 := Sat.pf (H.t.t.t.t.t) | have f5 := trivial); (first | have f6 := Sat.pf (H.t.t.t.t.t.t) | have f6 := trivial); (first | have f7 := Sat.pf (H.t.t.t.t.t.t.t) | have f7 := trivial))
      | simp -implicitDefEqProofs (disch := first | omega | decide | exact rfl | assumption | exact Nat.le_of_ble_eq_true rfl | exact One.c | exact One.o) only [vsA, vsB, eq_self, if_true, if_false, implies_true, false_implies, evp, HX.ev, Nat.reduceAdd, HOp.looks, Nat.reduceEqDiff, overw, Nat.reduceBEq, ub16, f0, f1, f2, f3, f4, f5, f6, f7]
      | (refine condK_cases (fun h => ?_) (fun h => ?_) <;> (try simp only [h]) <;> (try simp only [athA, ne_eq] at h) <;> (try (exfalso; omega)))
      | (refine guardK_cases (fun h => ?_) (fun h => ?_) <;> (try simp only [h]) <;> (try simp only [athA, ne_eq] at h) <;> (try (exfalso; omega)))
      | (refine dgK_cases (fun h => ?_) (fun h => ?_) <;> (try simp only [h]) <;> (try simp only [athA, ne_eq] at h) <;> (try (exfalso; omega)))
      | (clear H f0 f1 f2 f3 f4 f5 f6 f7; (with_reducible intro v2 hs H); (try simp only [setA, overw, Nat.reduceAdd] at H); refine need ?_)
      | refine opC_K ?_
      | refine opC_D ?_
      | ((with_reducible show opC (unit (hstore _ _ _ _)) _); refine sl_store1 (by with_reducible first | exact H | exact H.p1 | exact H.p2 | exact H.p3 | exact H.p4 | exact H.p5 | exact H.p6 | exact H.p7) (Nat.le_of_ble_eq_true rfl) (by first | exact rfl | (simp only [f0, f1, f2, f3, f4, f5, f6, f7]; done) | (simp only [onA, *]; done)) (by first | exact rfl | (simp only [f0, f1, f2, f3, f4, f5, f6, f7]; done) | (simp only [onA, *]; done)) ?_)
      | ((with_reducible show opC (unit (hstore _ _ _ _)) _); refine sl_storeN (by with_reducible first | exact H | exact H.p1 | exact H.p2 | exact H.p3 | exact H.p4 | exact H.p5 | exact H.p6 | exact H.p7) rfl (Nat.le_of_ble_eq_true rfl) (by first | exact rfl | (simp only [f0, f1, f2, f3, f4, f5, f6, f7]; done) | (simp only [onA, *]; done)) ?_)
      | ((with_reducible show opC (happend _ _ _ _ _) _); refine sl_append (by with_reducible first | exact H | exact H.p1 | exact H.p2 | exact H.p3 | exact H.p4 | exact H.p5 | exact H.p6 | exact H.p7) (by first | assumption | with_reducible first | exact f0.2.1 | exact f1.2.1 | exact f2.2.1 | exact f3.2.1 | exact f4.2.1 | exact f5.2.1 | exact f6.2.1 | exact f7.2.1 | exact va_takeS) (by first | exact roomFor_of (by omega) | exact roomFor_wide (by omega)) (by omega) ?_)
      | ((with_reducible show opC (happend _ _ _ _ _) _); refine sl_append0X H (by first | assumption | with_reducible first | exact f0.2.1 | exact f1.2.1 | exact f2.2.1 | exact f3.2.1 | exact f4.2.1 | exact f5.2.1 | exact f6.2.1 | exact f7.2.1 | exact va_takeS) (by first | exact roomFor_of (by omega) | exact roomFor_wide (by omega)) (by omega) ?_)
      | ((with_reducible show opC (happend _ _ _ _ _) _); refine sl_appendX (by with_reducible first | exact H | exact H.p1 | exact H.p2 | exact H.p3 | exact H.p4 | exact H.p5 | exact H.p6 | exact H.p7) (by first | assumption | with_reducible first | exact f0.2.1 | exact f1.2.1 | exact f2.2.1 | exact f3.2.1 | exact f4.2.1 | exact f5.2.1 | exact f6.2.1 | exact f7.2.1 | exact va_takeS) (by first | exact roomFor_of (by omega) | exact roomFor_wide (by omega)) (by omega) ?_)
      | ((with_reducible show opC (hbuildSlice _ _ _ _ _) _); refine sl_bslice1 H rfl (by first | exact rfl | (simp only [f0, f1, f2, f3, f4, f5, f6, f7]; done) | (simp only [onA, *]; done)) (by first | exact rfl | (simp only [f0, f1, f2, f3, f4, f5, f6, f7]; done) | (simp only [onA, *]; done)) ?_)
      | refine hwp_draw mixed rfl ?_
      | with_reducible intro hy

    -- then all of them grow
    obtain ⟨hl1, hlk⟩ := hlk
    simp only at hl1 hlk H
    have hbD : ∀ e ∈ E2', e.bs.length < 46116860184 ∧ ∃ e' ∈ E2, e.bs.length = e'.bs.length := by
      intro e he
      obtain ⟨i, hi⟩ := List.getElem?_of_mem he
      have hil : i < E2.length := by have := lt_of_get hi; omega
      obtain ⟨e', h1, h2⟩ := hlk i E2[i] (List.getElem?_eq_getElem hil)
      rw [hi] at h1; cases h1
      rw [h2]
      exact ⟨hb _ (List.mem_append_right _ (List.getElem_mem hil)), _, List.getElem_mem hil, rfl⟩
    refine HW.loopA mixed (fun s : Nat × HV × HV × List En => (.ptr d 2 :: .undef :: .undef :: .bool true :: .undef :: .int .i64 ((E1 ++ E2).length : Nat) :: .undef :: .undef :: .int .i64 ((E1.length + s.1 : Nat) : Int) :: .undef :: .undef :: .undef :: .undef :: .undef :: .undef :: .undef :: .undef :: .undef :: .undef :: .undef :: .undef :: .undef :: .undef :: .undef :: .undef :: .undef :: .undef :: .undef :: .undef :: .undef :: .undef :: .undef :: .undef :: .undef :: .undef :: .undef :: .undef :: .undef :: .undef :: .undef :: .undef :: .undef :: .undef :: .undef :: .undef :: .undef :: .undef :: .undef :: .undef :: .undef :: .undef :: .undef :: .undef :: .undef :: .undef :: .undef :: .undef :: .undef :: .undef :: .undef :: .undef :: .undef :: .undef :: .undef :: .undef :: .undef :: .undef :: .undef :: .undef :: .undef :: .undef :: .undef :: .undef :: .undef :: .undef :: .undef :: .undef :: .undef :: .undef :: .undef :: .undef :: .undef :: .undef :: .undef :: .undef :: .undef :: .undef :: .undef :: .undef :: .undef :: .undef :: .undef :: .undef :: .undef :: .undef :: .undef :: .undef :: .undef :: .undef :: .undef :: .undef :: .undef :: .undef :: .undef :: .undef :: .undef :: .undef :: .undef :: .undef :: .undef :: .undef :: .undef :: .undef :: .undef :: .undef :: .undef :: .undef :: .undef :: .undef :: .undef :: .undef :: .undef :: .undef :: .undef :: .undef :: .undef :: .undef :: .undef :: .undef :: .undef :: .undef :: .undef :: .undef :: .undef :: .undef :: .undef :: .undef :: []))
      (fun s => pt d (.cells 1 [a, b, s.2.1, s.2.2.1, .int .i64 (E1.length : Nat), lt] false false []) :: Bq s.2.1 s.2.2.1 (E1 ++ E2' ++ s.2.2.2) (E1 ++ E2'.take s.1 ++ s.2.2.2) (E2'.drop s.1) :: F) (fun s => E2.length - s.1)
      (fun s => s.1 ≤ E2.length ∧ s.2.2.2.length = s.1 ∧ ∀ g ∈ s.2.2.2, ∃ e' ∈ E2', g.bs.length ≤ e'.bs.length + 40) (0, vo, vw, []) ⟨by omega, rfl, by simp⟩ (by (repeat first | exact Less.nil | refine Less.undef _ ?_ | refine Less.keep _ ?_))
      (by simp only [List.append_nil, List.take_zero, List.drop_zero]; exact H) ?_
    rintro ⟨j, vo1, vw1, N⟩ hs ⟨hj, hN, hg⟩ H
    simp only at hj hN hg H
    by_cases h : j < E2.length
    · have hj2 : j < E2'.length := by omega
      obtain ⟨e, he⟩ : ∃ e, E2'[j]? = some e := ⟨_, List.getElem?_eq_getElem hj2⟩
      have hd : E2'.drop j = e :: E2'.drop (j + 1) := by
        rw [List.drop_eq_getElem_cons hj2]; rw [List.getElem?_eq_getElem hj2] at he; cases he; rfl
      have hL : (E1 ++ E2' ++ N)[E1.length + j]? = some e := by
        rw [List.append_assoc, List.getElem?_append_right (by omega), List.getElem?_append_left (by omega)]; simpa using he
      have hlen : (E1 ++ E2' ++ N).length = E1.length + E2.length + j := by simp [hN, hl1]; omega
      obtain ⟨hbe, e0, he0, hbe0⟩ := hbD e (List.mem_of_getElem? he)
      rw [hd] at H
      have H1 := bq_open.1 H.p1
      have H2 := new_open.1 (Sat.each_cons.1 H1.p3)
      -- out want each vo vw old pt
      have H := H2.p1.p1.p2.p5.p5.p5.p6
      have hx1 : ((E1 ++ E2' ++ N).map En.out)[E1.length + j]? = some e.out := by rw [List.getElem?_map, hL]; rfl
      have hx2 : ((E1 ++ E2' ++ N).map En.want)[E1.length + j]? = some e.want := by rw [List.getElem?_map, hL]; rfl
      obtain ⟨p, hp1, hp2⟩ := H.t.rd.idx1 hx1 .i64
      obtain ⟨q, hq1, hq2⟩ := H.t.t.rd.idx1 hx2 .i64
      have m7 := mul7 (i := E1.length + j) (by omega)
      have b7 := byte7 (7 * (E1.length + j) + 2)
      have hmax : maxLen = 9223372036854775807 := rfl
      have hple : (p :: []).length = 1 := rfl
      clear H1 H2
      first | have f0 := Sat.pf (H) | have f0 := trivial
      first | have f1 := Sat.pf (H.t) | have f1 := trivial
      first | have f2 := Sat.pf (H.t.t) | have f2 := trivial
      first | have f3 := Sat.pf (H.t.t.t) | have f3 := trivial
      first | have f4 := Sat.pf (H.t.t.t.t) | have f4 := trivial
      first | have f5 := Sat.pf (H.t.t.t.t.t) | have f5 := trivial
      first | have f6 := Sat.pf (H.t.t.t.t.t.t) | have f6 := trivial
      first | have f7 := Sat.pf (H.t.t.t.t.t.t.t) | have f7 := trivial
      repeat' first
        | ((with_reducible show Need _); refine need_of ?_; (first | have f0 := Sat.pf (H) | have f0 := trivial); (first | have f1 := Sat.pf (H.t) | have f1 := trivial); (first | have f2 := Sat.pf (H.t.t) | have f2 := trivial); (first | have f3 := Sat.pf (H.t.t.t) | have f3 := trivial); (first | have f4 := Sat.pf (H.t.t.t.t) | have f4 := trivial); (first | have f5 := Sat.pf (H.t.t.t.t.t) | have f5 := trivial); (first | have f6 := Sat.pf (H.t.t.t.t.t.t) | have f6 := trivial); (first | have f7 := Sat.pf (H.t.t.t.t.t.t.t) | have f7 := trivial))
        | simp -implicitDefEqProofs (disch := first | omega | decide | exact rfl | assumption | exact Nat.le_of_ble_eq_true rfl | exact One.c | exact One.o) only [vsA, vsB, eq_self, if_true, if_false, implies_true, false_implies, evp, HX.ev, Nat.reduceAdd, HOp.looks, Nat.reduceEqDiff, overw, Nat.reduceBEq, hp1, hp2, hq1, hq2, ub16, f0, f1, f2, f3, f4, f5, f6, f7]
        | (refine condK_cases (fun h => ?_) (fun h => ?_) <;> (try simp only [h]) <;> (try simp only [athA, ne_eq] at h) <;> (try (exfalso; omega)))
        | (refine guardK_cases (fun h => ?_) (fun h => ?_) <;> (try simp only [h]) <;> (try simp only [athA, ne_eq] at h) <;> (try (exfalso; omega)))
        | (refine dgK_cases (fun h => ?_) (fun h => ?_) <;> (try simp only [h]) <;> (try simp only [athA, ne_eq] at h) <;> (try (exfalso; omega)))
        | (clear H f0 f1 f2 f3 f4 f5 f6 f7; (with_reducible intro v2 hs H); (try simp only [setA, overw, Nat.reduceAdd] at H); refine need ?_)
        | refine opC_K ?_
        | refine opC_D ?_
        | ((with_reducible show opC (happend _ _ _ _ _) _); refine sl_append0X H (by first | assumption | with_reducible first | exact f0.2.1 | exact f1.2.1 | exact f2.2.1 | exact f3.2.1 | exact f4.2.1 | exact f5.2.1 | exact f6.2.1 | exact f7.2.1 | exact va_takeS) (by first | exact roomFor_of (by omega) | exact roomFor_wide (by omega)) (by omega) ?_; clear H f0 f1 f2 f3 f4 f5 f6 f7; intro w hs H; refine need ?_; have hp2 := (H.p2).rd.ld1 hp1 hx1; have hq2 := (H.p3).rd.ld1 hq1 hx2)
        | ((with_reducible show opC (unit (hstore _ _ _ _)) _); refine sl_store1 (by with_reducible first | exact H | exact H.p1 | exact H.p2 | exact H.p3 | exact H.p4 | exact H.p5 | exact H.p6 | exact H.p7) (Nat.le_of_ble_eq_true rfl) (by first | exact rfl | (simp only [f0, f1, f2, f3, f4, f5, f6, f7]; done) | (simp only [onA, *]; done)) (by first | exact rfl | (simp only [f0, f1, f2, f3, f4, f5, f6, f7]; done) | (simp only [onA, *]; done)) ?_)
        | ((with_reducible show opC (unit (hstore _ _ _ _)) _); refine sl_storeN (by with_reducible first | exact H | exact H.p1 | exact H.p2 | exact H.p3 | exact H.p4 | exact H.p5 | exact H.p6 | exact H.p7) rfl (Nat.le_of_ble_eq_true rfl) (by first | exact rfl | (simp only [f0, f1, f2, f3, f4, f5, f6, f7]; done) | (simp only [onA, *]; done)) ?_)
        | ((with_reducible show opC (happend _ _ _ _ _) _); refine sl_append (by with_reducible first | exact H | exact H.p1 | exact H.p2 | exact H.p3 | exact H.p4 | exact H.p5 | exact H.p6 | exact H.p7) (by first | assumption | with_reducible first | exact f0.2.1 | exact f1.2.1 | exact f2.2.1 | exact f3.2.1 | exact f4.2.1 | exact f5.2.1 | exact f6.2.1 | exact f7.2.1 | exact va_takeS) (by first | exact roomFor_of (by omega) | exact roomFor_wide (by omega)) (by omega) ?_)
        | ((with_reducible show opC (happend _ _ _ _ _) _); refine sl_append0X H (by first | assumption | with_reducible first | exact f0.2.1 | exact f1.2.1 | exact f2.2.1 | exact f3.2.1 | exact f4.2.1 | exact f5.2.1 | exact f6.2.1 | exact f7.2.1 | exact va_takeS) (by first | exact roomFor_of (by omega) | exact roomFor_wide (by omega)) (by omega) ?_)
        | ((with_reducible show opC (happend _ _ _ _ _) _); refine sl_appendX (by with_reducible first | exact H | exact H.p1 | exact H.p2 | exact H.p3 | exact H.p4 | exact H.p5 | exact H.p6 | exact H.p7) (by first | assumption | with_reducible first | exact f0.2.1 | exact f1.2.1 | exact f2.2.1 | exact f3.2.1 | exact f4.2.1 | exact f5.2.1 | exact f6.2.1 | exact f7.2.1 | exact va_takeS) (by first | exact roomFor_of (by omega) | exact roomFor_wide (by omega)) (by omega) ?_)
        | ((with_reducible show opC (hbuildSlice _ _ _ _ _) _); refine sl_bslice1 H rfl (by first | exact rfl | (simp only [f0, f1, f2, f3, f4, f5, f6, f7]; done) | (simp only [onA, *]; done)) (by first | exact rfl | (simp only [f0, f1, f2, f3, f4, f5, f6, f7]; done) | (simp only [onA, *]; done)) ?_)
        | refine hwp_draw mixed rfl ?_
        | with_reducible intro hy

      obtain ⟨c, hc⟩ : ∃ c, c = UInt8.ofNat (7 * (E1.length + j) + 2) := ⟨_, rfl⟩
      rw [← hc] at b7
      have H := grk_start H.p6
      rename_i w _ _ _ _ _ _ _ _ _ _ _
      refine HW.loopA mixed (fun s : Nat × HV × HV => (.ptr d 2 :: .undef :: .undef :: .bool true :: .undef :: .int .i64 ((E1 ++ E2).length : Nat) :: .undef :: .undef :: .int .i64 ((E1.length + j : Nat) : Int) :: s.2.1 :: s.2.2 :: .undef :: .undef :: .undef :: .undef :: .undef :: .undef :: .undef :: .undef :: .undef :: .undef :: .undef :: .undef :: .undef :: .undef :: .undef :: .undef :: .undef :: .undef :: .undef :: .undef :: .undef :: .undef :: .undef :: .undef :: .undef :: .undef :: .undef :: .undef :: .undef :: .undef :: .undef :: .undef :: .undef :: .undef :: .undef :: .undef :: .undef :: .undef :: .undef :: .undef :: .undef :: .undef :: .undef :: .undef :: .undef :: .undef :: .undef :: .undef :: .undef :: .undef :: .undef :: .undef :: .undef :: .undef :: .undef :: .undef :: .undef :: .undef :: .undef :: .undef :: .undef :: .undef :: .undef :: .undef :: .undef :: .undef :: .undef :: .undef :: .undef :: .undef :: .undef :: .undef :: .undef :: .undef :: .undef :: .undef :: .int .i64 (s.1 : Nat) :: .undef :: .undef :: .undef :: .undef :: .undef :: .undef :: .undef :: .undef :: .undef :: .undef :: .undef :: .undef :: .undef :: .undef :: .undef :: .undef :: .undef :: .undef :: .undef :: .undef :: .undef :: .undef :: .undef :: .undef :: .undef :: .undef :: .undef :: .undef :: .undef :: .undef :: .undef :: .undef :: .undef :: .undef :: .undef :: .undef :: .undef :: .undef :: .undef :: .undef :: .undef :: .undef :: .undef :: .undef :: .undef :: .undef :: .undef :: .undef :: .undef :: []))
        (fun s => GrK s.1 e.out s.2.1 e.bs (e.bs ++ List.replicate s.1 c) :: Ex 1 s.2.2 (e.bs.length + s.1) (bcells (e.bs ++ List.replicate s.1 c)) :: pt d (.cells 1 [a, b, vo1, vw1, .int .i64 (E1.length : Nat), lt] false false []) ::
          My 1 vo1 (E1 ++ E2' ++ N).length ((E1 ++ E2' ++ N).map En.out) :: My 1 vw1 (E1 ++ E2' ++ N).length ((E1 ++ E2' ++ N).map En.want) :: each En.oldP (E1 ++ E2'.take j ++ N) :: each En.newP (E2'.drop (j + 1)) :: Ex 1 e.want e.bs.length (bcells e.bs) :: F)
        (fun s => 40 - s.1) (fun s => s.1 ≤ 40) (0, e.out, w) (by omega) (by (repeat first | exact Less.nil | refine Less.undef _ ?_ | refine Less.keep _ ?_)) (by simp only [List.replicate_zero, List.append_nil, Nat.add_zero]; exact H) ?_
      rintro ⟨k, v, w⟩ hs hk H
      simp only at hk H
      first | have f0 := Sat.pf (H) | have f0 := trivial
      first | have f1 := Sat.pf (H.t) | have f1 := trivial
      first | have f2 := Sat.pf (H.t.t) | have f2 := trivial
      first | have f3 := Sat.pf (H.t.t.t) | have f3 := trivial
      first | have f4 := Sat.pf (H.t.t.t.t) | have f4 := trivial
      first | have f5 := Sat.pf (H.t.t.t.t.t) | have f5 := trivial
      first | have f6 := Sat.pf (H.t.t.t.t.t.t) | have f6 := trivial
      first | have f7 := Sat.pf (H.t.t.t.t.t.t.t) | have f7 := trivial
      by_cases h : k < 40
      · have hrl : (e.bs ++ List.replicate k c).length = e.bs.length + k := by simp
        have er : e.bs ++ List.replicate k c ++ [c] = e.bs ++ List.replicate (k + 1) c := by rw [List.append_assoc, List.replicate_succ']
        repeat' first
          | ((with_reducible show Need _); refine need_of ?_; (first | have f0 := Sat.pf (H) | have f0 := trivial); (first | have f1 := Sat.pf (H.t) | have f1 := trivial); (first | have f2 := Sat.pf (H.t.t) | have f2 := trivial); (first | have f3 := Sat.pf (H.t.t.t) | have f3 := trivial); (first | have f4 := Sat.pf (H.t.t.t.t) | have f4 := trivial); (first | have f5 := Sat.pf (H.t.t.t.t.t) | have f5 := trivial); (first | have f6 := Sat.pf (H.t.t.t.t.t.t) | have f6 := trivial); (first | have f7 := Sat.pf (H.t.t.t.t.t.t.t) | have f7 := trivial))
          | simp -implicitDefEqProofs (disch := first | omega | decide | exact rfl | assumption | exact Nat.le_of_ble_eq_true rfl | exact One.c | exact One.o) only [vsA, vsB, eq_self, if_true, if_false, implies_true, false_implies, evp, HX.ev, Nat.reduceAdd, HOp.looks, Nat.reduceEqDiff, overw, Nat.reduceBEq, m7, b7, va_addl, vadd1, ub16, f0, f1, f2, f3, f4, f5, f6, f7]
          | (refine condK_cases (fun h => ?_) (fun h => ?_) <;> (try simp only [h]) <;> (try simp only [athA, ne_eq] at h) <;> (try (exfalso; omega)))
          | (refine guardK_cases (fun h => ?_) (fun h => ?_) <;> (try simp only [h]) <;> (try simp only [athA, ne_eq] at h) <;> (try (exfalso; omega)))
          | (refine dgK_cases (fun h => ?_) (fun h => ?_) <;> (try simp only [h]) <;> (try simp only [athA, ne_eq] at h) <;> (try (exfalso; omega)))
          | (clear H f0 f1 f2 f3 f4 f5 f6 f7; (with_reducible intro v2 hs H); (try simp only [setA, overw, Nat.reduceAdd] at H); refine need ?_)
          | refine opC_K ?_
          | refine opC_D ?_
          | ((with_reducible show opC (happend _ _ _ _ _) _); refine sl_grow (by with_reducible first | exact H | exact H.p1 | exact H.p2 | exact H.p3 | exact H.p4 | exact H.p5 | exact H.p6 | exact H.p7) (by first | assumption | with_reducible first | exact f0.2.1 | exact f1.2.1 | exact f2.2.1 | exact f3.2.1 | exact f4.2.1 | exact f5.2.1 | exact f6.2.1 | exact f7.2.1 | exact va_takeS) (by omega) ?_; clear H f0 f1 f2 f3 f4 f5 f6 f7; intro v2 hs H; refine need ?_)
          | ((with_reducible show opC (unit (hstore _ _ _ _)) _); refine sl_store1 (by with_reducible first | exact H | exact H.p1 | exact H.p2 | exact H.p3 | exact H.p4 | exact H.p5 | exact H.p6 | exact H.p7) (Nat.le_of_ble_eq_true rfl) (by first | exact rfl | (simp only [f0, f1, f2, f3, f4, f5, f6, f7]; done) | (simp only [onA, *]; done)) (by first | exact rfl | (simp only [f0, f1, f2, f3, f4, f5, f6, f7]; done) | (simp only [onA, *]; done)) ?_)
          | ((with_reducible show opC (unit (hstore _ _ _ _)) _); refine sl_storeN (by with_reducible first | exact H | exact H.p1 | exact H.p2 | exact H.p3 | exact H.p4 | exact H.p5 | exact H.p6 | exact H.p7) rfl (Nat.le_of_ble_eq_true rfl) (by first | exact rfl | (simp only [f0, f1, f2, f3, f4, f5, f6, f7]; done) | (simp only [onA, *]; done)) ?_)
          | ((with_reducible show opC (happend _ _ _ _ _) _); refine sl_append (by with_reducible first | exact H | exact H.p1 | exact H.p2 | exact H.p3 | exact H.p4 | exact H.p5 | exact H.p6 | exact H.p7) (by first | assumption | with_reducible first | exact f0.2.1 | exact f1.2.1 | exact f2.2.1 | exact f3.2.1 | exact f4.2.1 | exact f5.2.1 | exact f6.2.1 | exact f7.2.1 | exact va_takeS) (by first | exact roomFor_of (by omega) | exact roomFor_wide (by omega)) (by omega) ?_)
          | ((with_reducible show opC (happend _ _ _ _ _) _); refine sl_append0X H (by first | assumption | with_reducible first | exact f0.2.1 | exact f1.2.1 | exact f2.2.1 | exact f3.2.1 | exact f4.2.1 | exact f5.2.1 | exact f6.2.1 | exact f7.2.1 | exact va_takeS) (by first | exact roomFor_of (by omega) | exact roomFor_wide (by omega)) (by omega) ?_)
          | ((with_reducible show opC (happend _ _ _ _ _) _); refine sl_appendX (by with_reducible first | exact H | exact H.p1 | exact H.p2 | exact H.p3 | exact H.p4 | exact H.p5 | exact H.p6 | exact H.p7) (by first | assumption | with_reducible first | exact f0.2.1 | exact f1.2.1 | exact f2.2.1 | exact f3.2.1 | exact f4.2.1 | exact f5.2.1 | exact f6.2.1 | exact f7.2.1 | exact va_takeS) (by first | exact roomFor_of (by omega) | exact roomFor_wide (by omega)) (by omega) ?_)
          | ((with_reducible show opC (hbuildSlice _ _ _ _ _) _); refine sl_bslice1 H rfl (by first | exact rfl | (simp only [f0, f1, f2, f3, f4, f5, f6, f7]; done) | (simp only [onA, *]; done)) (by first | exact rfl | (simp only [f0, f1, f2, f3, f4, f5, f6, f7]; done) | (simp only [onA, *]; done)) ?_)
          | refine hwp_draw mixed rfl ?_
          | with_reducible intro hy

        have ew : bcells (e.bs ++ List.replicate k c) ++ [.int .u8 c.toNat] = bcells (e.bs ++ List.replicate (k + 1) c) := by rw [← er, bcells_app (e.bs ++ List.replicate k c)]; rfl
        rw [ew, er] at H
        refine ⟨(k + 1, _, _), _, by simp only; omega, by simp only; omega, ?_, Weak.refl _, H.p1⟩
        (repeat first | exact Less.nil | refine Less.undef _ ?_ | refine Less.keep _ ?_)
      · obtain rfl : k = 40 := by omega
        obtain ⟨gv1, gv2⟩ := grk_one H
        repeat' first
          | ((with_reducible show Need _); refine need_of ?_; (first | have f0 := Sat.pf (H) | have f0 := trivial); (first | have f1 := Sat.pf (H.t) | have f1 := trivial); (first | have f2 := Sat.pf (H.t.t) | have f2 := trivial); (first | have f3 := Sat.pf (H.t.t.t) | have f3 := trivial); (first | have f4 := Sat.pf (H.t.t.t.t) | have f4 := trivial); (first | have f5 := Sat.pf (H.t.t.t.t.t) | have f5 := trivial); (first | have f6 := Sat.pf (H.t.t.t.t.t.t) | have f6 := trivial); (first | have f7 := Sat.pf (H.t.t.t.t.t.t.t) | have f7 := trivial))
          | simp -implicitDefEqProofs (disch := first | omega | decide | exact rfl | assumption | exact Nat.le_of_ble_eq_true rfl | exact One.c | exact One.o) only [vsA, vsB, eq_self, if_true, if_false, implies_true, false_implies, evp, HX.ev, Nat.reduceAdd, HOp.looks, Nat.reduceEqDiff, overw, Nat.reduceBEq, vadd1, ub16, f0, f1, f2, f3, f4, f5, f6, f7]
          | (refine condK_cases (fun h => ?_) (fun h => ?_) <;> (try simp only [h]) <;> (try simp only [athA, ne_eq] at h) <;> (try (exfalso; omega)))
          | (refine guardK_cases (fun h => ?_) (fun h => ?_) <;> (try simp only [h]) <;> (try simp only [athA, ne_eq] at h) <;> (try (exfalso; omega)))
          | (refine dgK_cases (fun h => ?_) (fun h => ?_) <;> (try simp only [h]) <;> (try simp only [athA, ne_eq] at h) <;> (try (exfalso; omega)))
          | (clear H f0 f1 f2 f3 f4 f5 f6 f7; (with_reducible intro v2 hs H); (try simp only [setA, overw, Nat.reduceAdd] at H); refine need ?_)
          | refine opC_K ?_
          | refine opC_D ?_
          | ((with_reducible show opC (unit (hstore _ _ _ _)) _); refine sl_store1 (by with_reducible first | exact H | exact H.p1 | exact H.p2 | exact H.p3 | exact H.p4 | exact H.p5 | exact H.p6 | exact H.p7) (Nat.le_of_ble_eq_true rfl) (by first | exact rfl | (simp only [f0, f1, f2, f3, f4, f5, f6, f7]; done) | (simp only [onA, *]; done)) (by first | exact rfl | (simp only [f0, f1, f2, f3, f4, f5, f6, f7]; done) | (simp only [onA, *]; done)) ?_)
          | ((with_reducible show opC (unit (hstore _ _ _ _)) _); refine sl_storeN (by with_reducible first | exact H | exact H.p1 | exact H.p2 | exact H.p3 | exact H.p4 | exact H.p5 | exact H.p6 | exact H.p7) rfl (Nat.le_of_ble_eq_true rfl) (by first | exact rfl | (simp only [f0, f1, f2, f3, f4, f5, f6, f7]; done) | (simp only [onA, *]; done)) ?_)
          | ((with_reducible show opC (happend _ _ _ _ _) _); refine sl_append (by with_reducible first | exact H | exact H.p1 | exact H.p2 | exact H.p3 | exact H.p4 | exact H.p5 | exact H.p6 | exact H.p7) (by first | assumption | with_reducible first | exact f0.2.1 | exact f1.2.1 | exact f2.2.1 | exact f3.2.1 | exact f4.2.1 | exact f5.2.1 | exact f6.2.1 | exact f7.2.1 | exact va_takeS) (by first | exact roomFor_of (by omega) | exact roomFor_wide (by omega)) (by omega) ?_)
          | ((with_reducible show opC (happend _ _ _ _ _) _); refine sl_append0X H (by first | assumption | with_reducible first | exact f0.2.1 | exact f1.2.1 | exact f2.2.1 | exact f3.2.1 | exact f4.2.1 | exact f5.2.1 | exact f6.2.1 | exact f7.2.1 | exact va_takeS) (by first | exact roomFor_of (by omega) | exact roomFor_wide (by omega)) (by omega) ?_)
          | ((with_reducible show opC (happend _ _ _ _ _) _); refine sl_appendX (by with_reducible first | exact H | exact H.p1 | exact H.p2 | exact H.p3 | exact H.p4 | exact H.p5 | exact H.p6 | exact H.p7) (by first | assumption | with_reducible first | exact f0.2.1 | exact f1.2.1 | exact f2.2.1 | exact f3.2.1 | exact f4.2.1 | exact f5.2.1 | exact f6.2.1 | exact f7.2.1 | exact va_takeS) (by first | exact roomFor_of (by omega) | exact roomFor_wide (by omega)) (by omega) ?_)
          | ((with_reducible show opC (hbuildSlice _ _ _ _ _) _); refine sl_bslice1 H rfl (by first | exact rfl | (simp only [f0, f1, f2, f3, f4, f5, f6, f7]; done) | (simp only [onA, *]; done)) (by first | exact rfl | (simp only [f0, f1, f2, f3, f4, f5, f6, f7]; done) | (simp only [onA, *]; done)) ?_)
          | refine hwp_draw mixed rfl ?_
          | with_reducible intro hy

        obtain ⟨hs2, hw, H⟩ := grk_freeze (by omega) H.p6.p6.p3.p4.p7.p7.p7
        refine ⟨(j + 1, ?va, ?vb, N ++ [⟨v, w, e.bs ++ List.replicate 40 c⟩]), hs2, by simp only; omega, ⟨by simp only; omega, by simp [hN], ?gs⟩, ?less, hw, ?sat⟩
        case sat =>
            have lw : (e.bs ++ List.replicate 40 c).length = e.bs.length + 40 := by simp
            obtain ⟨g, hgd⟩ : ∃ g : En, g = ⟨v, w, e.bs ++ List.replicate 40 c⟩ := ⟨_, rfl⟩
            have Ha := (H.p2).my.vw
            have Hb := (Ha.p3).my.vw
            have Hc := Hb.p8.p8.p8.p8.p8.p6.p8.p7.p8
            have Hd := (old_open (e := e)).2 Hc
            have He := Hd.p7.p7.p7.p7.p7.p5.p7.p7
            have Hf := (old_open (e := g)).2 (by rw [hgd]; simp only [lw]; rw [lw] at He; exact He)
            have Hi := Sat.each_cons.2 (Sat.each_cons.2 Hf.p6.p6.p5.p5.p5.p6.p6).p1
            have Hj := Sat.each_perm (grow_perm E1 (E2'.take j) N e g) Hi
            have e1 : E2'.take (j + 1) = E2'.take j ++ [e] := by rw [List.take_add_one, he]; rfl
            have e2 : (E1 ++ E2' ++ (N ++ [g])).map En.out = (E1 ++ E2' ++ N).map En.out ++ [v] := by rw [← List.append_assoc, List.map_append (l₂ := [g]), hgd]; rfl
            have e3 : (E1 ++ E2' ++ (N ++ [g])).map En.want = (E1 ++ E2' ++ N).map En.want ++ [w] := by rw [← List.append_assoc, List.map_append (l₂ := [g]), hgd]; rfl
            have e4 : (E1 ++ E2' ++ (N ++ [g])).length = (E1 ++ E2' ++ N).length + 1 := by rw [← List.append_assoc, List.length_append (bs := [g])]; rfl
            simp only
            rw [← hgd]
            refine (bq_open.2 ?_).p1
            rw [e1, e2, e3, e4]
            exact Hj.p4.p4.p2.p4.p4
        case gs =>
            intro g hgm
            simp only [List.mem_append, List.mem_singleton] at hgm
            rcases hgm with hgm | rfl
            · exact hg g hgm
            · exact ⟨e, List.mem_of_getElem? he, by simp⟩
        case less => (repeat first | exact Less.nil | refine Less.undef _ ?_ | refine Less.keep _ ?_)
    · obtain rfl : j = E2.length := by omega
      have H : Sat hs (pt d (.cells 1 [a, b, vo1, vw1, .int .i64 (E1.length : Nat), lt] false false []) :: Bk vo1 vw1 (E1 ++ E2' ++ N) [] :: F) := by
        unfold Bk
        rw [List.take_of_length_le (by omega), List.drop_eq_nil_of_le (by omega)] at H
        rw [List.append_nil]; exact H
      have l3 : (E1 ++ E2' ++ N).length = E1.length + 2 * E2.length := by simp [hN, hl1]; omega
      have lo := fun hs => ((bk_open.1 H.t).rd).len hs
      have lo : ∀ hs, hlenK hs .slice vo1 = some (.int .i64 ((E1 ++ E2' ++ N).length : Nat)) := fun hs => by have := lo hs; rwa [List.append_nil] at this
      have hb3 : ∀ e ∈ E1 ++ E2' ++ N ++ [], e.bs.length < 4611686018427 := by
        intro e he
        simp only [List.append_nil, List.mem_append] at he
        rcases he with (he | he) | he
        · have := hb e (List.mem_append_left _ he); omega
        · have := (hbD e he).1; omega
        · obtain ⟨e', h1, h2⟩ := hg e he
          have := (hbD e' h1).1; omega
      first | have f0 := Sat.pf (H) | have f0 := trivial
      first | have f1 := Sat.pf (H.t) | have f1 := trivial
      first | have f2 := Sat.pf (H.t.t) | have f2 := trivial
      first | have f3 := Sat.pf (H.t.t.t) | have f3 := trivial
      first | have f4 := Sat.pf (H.t.t.t.t) | have f4 := trivial
      first | have f5 := Sat.pf (H.t.t.t.t.t) | have f5 := trivial
      first | have f6 := Sat.pf (H.t.t.t.t.t.t) | have f6 := trivial
      first | have f7 := Sat.pf (H.t.t.t.t.t.t.t) | have f7 := trivial
      repeat' first
        | ((with_reducible show Need _); refine need_of ?_; (first | have f0 := Sat.pf (H) | have f0 := trivial); (first | have f1 := Sat.pf (H.t) | have f1 := trivial); (first | have f2 := Sat.pf (H.t.t) | have f2 := trivial); (first | have f3 := Sat.pf (H.t.t.t) | have f3 := trivial); (first | have f4 := Sat.pf (H.t.t.t.t) | have f4 := trivial); (first | have f5 := Sat.pf (H.t.t.t.t.t) | have f5 := trivial); (first | have f6 := Sat.pf (H.t.t.t.t.t.t) | have f6 := trivial); (first | have f7 := Sat.pf (H.t.t.t.t.t.t.t) | have f7 := trivial))
        | simp -implicitDefEqProofs (disch := first | omega | decide | exact rfl | assumption | exact Nat.le_of_ble_eq_true rfl | exact One.c | exact One.o) only [vsA, vsB, eq_self, if_true, if_false, implies_true, false_implies, evp, HX.ev, Nat.reduceAdd, HOp.looks, Nat.reduceEqDiff, overw, Nat.reduceBEq, lo, ub16, f0, f1, f2, f3, f4, f5, f6, f7]
        | (refine condK_cases (fun h => ?_) (fun h => ?_) <;> (try simp only [h]) <;> (try simp only [athA, ne_eq] at h) <;> (try (exfalso; omega)))
        | (refine guardK_cases (fun h => ?_) (fun h => ?_) <;> (try simp only [h]) <;> (try simp only [athA, ne_eq] at h) <;> (try (exfalso; omega)))
        | (refine dgK_cases (fun h => ?_) (fun h => ?_) <;> (try simp only [h]) <;> (try simp only [athA, ne_eq] at h) <;> (try (exfalso; omega)))
        | (clear H f0 f1 f2 f3 f4 f5 f6 f7; (with_reducible intro v2 hs H); (try simp only [setA, overw, Nat.reduceAdd] at H); refine need ?_)
        | ((with_reducible show actK _ (HAct.call (HX.cst (HV.func (Fn.func 12) _ _)) _) _ _ _ _ _); refine vcall_of ok12 rfl (holds12 H (by rw [List.append_nil]; omega) hb3) ?_; rintro _ _ ⟨rfl, rfl⟩)
        | ((with_reducible show drK _ _ _ _ _ _ _ _ _ (some ⟨_, HAct.call (HX.cst (HV.func (Fn.func 12) _ _)) _, none⟩)); refine vdr_call ok12 rfl (holds12 H (by rw [List.append_nil]; omega) hb3) ?_; rintro _ _ ⟨rfl, rfl⟩)
        | refine opC_K ?_
        | refine opC_D ?_
        | ((with_reducible show opC (unit (hstore _ _ _ _)) _); refine sl_store1 (by with_reducible first | exact H | exact H.p1 | exact H.p2 | exact H.p3 | exact H.p4 | exact H.p5 | exact H.p6 | exact H.p7) (Nat.le_of_ble_eq_true rfl) (by first | exact rfl | (simp only [f0, f1, f2, f3, f4, f5, f6, f7]; done) | (simp only [onA, *]; done)) (by first | exact rfl | (simp only [f0, f1, f2, f3, f4, f5, f6, f7]; done) | (simp only [onA, *]; done)) ?_)
        | ((with_reducible show opC (unit (hstore _ _ _ _)) _); refine sl_storeN (by with_reducible first | exact H | exact H.p1 | exact H.p2 | exact H.p3 | exact H.p4 | exact H.p5 | exact H.p6 | exact H.p7) rfl (Nat.le_of_ble_eq_true rfl) (by first | exact rfl | (simp only [f0, f1, f2, f3, f4, f5, f6, f7]; done) | (simp only [onA, *]; done)) ?_)
        | ((with_reducible show opC (happend _ _ _ _ _) _); refine sl_append (by with_reducible first | exact H | exact H.p1 | exact H.p2 | exact H.p3 | exact H.p4 | exact H.p5 | exact H.p6 | exact H.p7) (by first | assumption | with_reducible first | exact f0.2.1 | exact f1.2.1 | exact f2.2.1 | exact f3.2.1 | exact f4.2.1 | exact f5.2.1 | exact f6.2.1 | exact f7.2.1 | exact va_takeS) (by first | exact roomFor_of (by omega) | exact roomFor_wide (by omega)) (by omega) ?_)
        | ((with_reducible show opC (happend _ _ _ _ _) _); refine sl_append0X H (by first | assumption | with_reducible first | exact f0.2.1 | exact f1.2.1 | exact f2.2.1 | exact f3.2.1 | exact f4.2.1 | exact f5.2.1 | exact f6.2.1 | exact f7.2.1 | exact va_takeS) (by first | exact roomFor_of (by omega) | exact roomFor_wide (by omega)) (by omega) ?_)
        | ((with_reducible show opC (happend _ _ _ _ _) _); refine sl_appendX (by with_reducible first | exact H | exact H.p1 | exact H.p2 | exact H.p3 | exact H.p4 | exact H.p5 | exact H.p6 | exact H.p7) (by first | assumption | with_reducible first | exact f0.2.1 | exact f1.2.1 | exact f2.2.1 | exact f3.2.1 | exact f4.2.1 | exact f5.2.1 | exact f6.2.1 | exact f7.2.1 | exact va_takeS) (by first | exact roomFor_of (by omega) | exact roomFor_wide (by omega)) (by omega) ?_)
        | ((with_reducible show opC (hbuildSlice _ _ _ _ _) _); refine sl_bslice1 H rfl (by first | exact rfl | (simp only [f0, f1, f2, f3, f4, f5, f6, f7]; done) | (simp only [onA, *]; done)) (by first | exact rfl | (simp only [f0, f1, f2, f3, f4, f5, f6, f7]; done) | (simp only [onA, *]; done)) ?_)
        | refine hwp_draw mixed rfl ?_
        | with_reducible intro hy

      refine ⟨vo1, vw1, E1 ++ E2' ++ N, l3, ?_, H⟩
      intro e he
      simp only [List.mem_append] at he
      rcases he with (he | he) | he
      · exact .inl he
      · obtain ⟨_, e', h1, h2⟩ := hbD e he
        exact .inr ⟨e', h1, by omega⟩
      · obtain ⟨e', h1, h2⟩ := hg e he
        obtain ⟨_, e2, h3, h4⟩ := hbD e' h1
        exact .inr ⟨e2, h3, by omega⟩
end Go.Proofs.Ytccfcegmaejlnaa
namespace Go.Proofs.Ytccfcegmaejlnaa
open Go Go.HL
set_option maxRecDepth 100000
set_option maxHeartbeats 40000000
set_option linter.unusedSimpArgs false
attribute [local irreducible] pt My Ex Vw Gr GrK each grp exs Sat takeCells happend hbuildSlice hstore hbox hslice hmakeSlice hs2b hcopy HL.unit opC
structure DK where
  p : Nat
  q : Nat
  s : St
def DK.P (k : DK) : SA := grp [InP k.p k.s, RefP k.q k.s]
def dkA (K : List DK) : List HV := K.map fun k => .ptr k.p 0
def dkB (K : List DK) : List HV := K.map fun k => .ptr k.q 0
def DeskP (d : Nat) (K : List DK) (E1 E2 : List En) : SA := exs fun (r : HV × HV × HV × HV × HV × List UInt8) =>
  grp [pt d (.cells 1 [r.1, r.2.1, r.2.2.1, r.2.2.2.1, .int .i64 (E1.length : Nat), r.2.2.2.2.1] false false []), My 1 r.1 K.length (dkA K), My 1 r.2.1 K.length (dkB K), Bk r.2.2.1 r.2.2.2.1 E1 E2, My 1 r.2.2.2.2.1 r.2.2.2.2.2.length (bcells r.2.2.2.2.2), each DK.P K]
theorem desk_open {hs : HS} {l : List SA} {d : Nat} {K : List DK} {E1 E2 : List En} : Sat hs (DeskP d K E1 E2 :: l) ↔ ∃ va vb vo vw lt x,
    Sat hs (pt d (.cells 1 [va, vb, vo, vw, .int .i64 (E1.length : Nat), lt] false false []) :: My 1 va K.length (dkA K) :: My 1 vb K.length (dkB K) :: Bk vo vw E1 E2 :: My 1 lt x.length (bcells x) :: each DK.P K :: l) := by
  unfold DeskP
  rw [Sat.exs_iff]
  constructor
  · rintro ⟨⟨va, vb, vo, vw, lt, x⟩, h⟩
    exact ⟨va, vb, vo, vw, lt, x, Sat.grp_iff.1 h⟩
  · rintro ⟨va, vb, vo, vw, lt, x, h⟩
    exact ⟨⟨va, vb, vo, vw, lt, x⟩, Sat.grp_iff.2 h⟩
theorem dk_at {hs : HS} {l : List SA} {K : List DK} {k : Nat} {e : DK} (H : Sat hs (each DK.P K :: l)) (hk : K[k]? = some e) : Sat hs (InP e.p e.s :: RefP e.q e.s :: each DK.P (K.eraseIdx k) :: l) :=
  (Sat.grp_iff (l1 := [InP e.p e.s, RefP e.q e.s])).1 (Sat.each_at H hk)
theorem dk_put {hs : HS} {l : List SA} {K : List DK} {k : Nat} {e : DK} {s' : St} (hk : K[k]? = some e) (H : Sat hs (InP e.p s' :: RefP e.q s' :: each DK.P (K.eraseIdx k) :: l)) : Sat hs (each DK.P (K.set k ⟨e.p, e.q, s'⟩) :: l) :=
  Sat.each_put (lt_of_get hk) ((Sat.grp_iff (l1 := [InP e.p s', RefP e.q s'])).2 H)
theorem map_set_same {α β : Type} {f : α → β} {K : List α} {k : Nat} {e y : α} (hk : K[k]? = some e) (h : f y = f e) : (K.set k y).map f = K.map f := by
  apply List.ext_getElem?
  intro j
  rw [List.getElem?_map, List.getElem?_map, List.getElem?_set]
  split
  · rename_i e1; subst e1
    rw [if_pos (lt_of_get hk), hk]
    simp [h]
  · rfl
theorem dkA_set {K : List DK} {k : Nat} {e : DK} {s' : St} (hk : K[k]? = some e) : dkA (K.set k ⟨e.p, e.q, s'⟩) = dkA K := map_set_same hk rfl
theorem dkB_set {K : List DK} {k : Nat} {e : DK} {s' : St} (hk : K[k]? = some e) : dkB (K.set k ⟨e.p, e.q, s'⟩) = dkB K := map_set_same hk rfl
theorem dkA_get {K : List DK} {k : Nat} {e : DK} (hk : K[k]? = some e) : (dkA K)[k]? = some (.ptr e.p 0) := by simp [dkA, hk]
theorem dkB_get {K : List DK} {k : Nat} {e : DK} (hk : K[k]? = some e) : (dkB K)[k]? = some (.ptr e.q 0) := by simp [dkB, hk]
/-- both parts of a slice of one's own. -/
theorem my_cuts {hs : HS} {l : List SA} {w : HV} {n : Nat} {bs : List UInt8} {ys : List HV} (H : Sat hs (My 1 w n (bcells bs ++ ys) :: l)) (hn : bs.length ≤ n) : ∃ a b, hslice w none (some (.int .i64 (bs.length : Nat))) none = some a ∧ hslice w (some (.int .i64 (bs.length : Nat))) none none = some b ∧
    ∀ hs l, Sat hs (My 1 w n (bcells bs ++ ys) :: l) → Rd hs 1 a bs.length (bcells bs) ∧ Rd hs 1 b (n - bs.length) ys := by
  have hx := H.xlen
  rw [List.length_append, bcells_length, Nat.mul_one] at hx
  obtain ⟨a, ha, _⟩ := H.rd.cut Lo.none (Hi.some (hi := bs.length) (k := .i64)) (Nat.zero_le _) hn
  obtain ⟨b, hb, _⟩ := H.rd.cut (Lo.some (lo := bs.length) (k := .i64)) Hi.none hn (Nat.le_refl _)
  refine ⟨a, b, ha, hb, fun hs l H => ⟨?_, ?_⟩⟩
  · obtain ⟨a2, ha2, r⟩ := H.rd.cut Lo.none (Hi.some (hi := bs.length) (k := .i64)) (Nat.zero_le _) hn
    rw [ha] at ha2; cases ha2
    rw [Nat.zero_mul, List.drop_zero, Nat.sub_zero, Nat.mul_one, List.take_append_of_le_length (by rw [bcells_length]; omega), List.take_of_length_le (by rw [bcells_length]; omega)] at r
    exact r
  · obtain ⟨b2, hb2, r⟩ := H.rd.cut (Lo.some (lo := bs.length) (k := .i64)) Hi.none hn (Nat.le_refl _)
    rw [hb] at hb2; cases hb2
    rw [Nat.mul_one, Nat.mul_one, List.drop_append_of_le_length (by rw [bcells_length]; omega), List.drop_eq_nil_of_le (by rw [bcells_length]; omega), List.nil_append, List.take_of_length_le (by omega)] at r
    exact r
theorem dfeed30 {hs : HS} {l : List SA} {d k : Nat} {K : List DK} {E1 E2 : List En} {e : DK} {b : HV} {bs : List UInt8} (H : Sat hs (DeskP d K E1 E2 :: l)) (hk : K[k]? = some e) (R : Rdl l b bs.length (bcells bs)) (hb : e.s.held.length + bs.length < 4611686018) (hl : e.s.left < 4611686018427387904) :
    HC Try.prog 30 [.ptr d 0, .int .i64 (k : Nat), b] hs fun v hs' => v = .bool true ∧ Sat hs' (DeskP d (K.set k ⟨e.p, e.q, feedF e.s bs⟩) E1 E2 :: l) := by
  obtain ⟨va, vb, vo, vw, lt, x, H1⟩ := desk_open.1 H
  clear H
  have hmax : maxLen = 9223372036854775807 := rfl
  have H2 := dk_at H1.p4.p4.p4.p4.p4.p5 hk
  clear H1
  have H3 := H2.p2.p6.p6.p6.p6.p6.p6.p7
  clear H2
  have so := H3.rd.sOk
  obtain ⟨c0, hc0, _⟩ := H3.rd.cut Lo.none (Hi.some (hi := 0) (k := .i64)) (Nat.zero_le _) (Nat.zero_le _)
  have H4 := H3.cut Lo.none (Hi.some (hi := 0) (k := .i64)) (Nat.zero_le _) (Nat.zero_le _) hc0
  simp only [Nat.zero_mul, List.drop_zero, Nat.sub_zero, List.take_zero] at H4
  have hc0 : hslice lt none (some (.int .i64 0)) none = some c0 := hc0
  clear H3
  have H := H4.p7.p7.p2.p7.p7.p7.p7.p7
  clear H4
  obtain ⟨qa, hqa1, hqa2⟩ := (Sat.rd H.p3).idx1 (dkA_get hk) .i64
  obtain ⟨qb, hqb1, hqb2⟩ := (Sat.rd H.p4).idx1 (dkB_get hk) .i64
  have ldA : ∀ hs l', Sat hs (My 1 va K.length (dkA K) :: l') → hload none hs qa = some (.ptr e.p 0) := fun hs l' h => h.rd.ld1 hqa1 (dkA_get hk)
  have ldB : ∀ hs l', Sat hs (My 1 vb K.length (dkB K) :: l') → hload none hs qb = some (.ptr e.q 0) := fun hs l' h => h.rd.ld1 hqb1 (dkB_get hk)
  have lb := (R _ H.t.t.t.t.t.t.t.t).len
  have T := (R _ H.t.t.t.t.t.t.t.t).take
  have hc1 := True.intro
  have hc2 := True.intro
  have rc := True.intro
  have rb2 := True.intro
  have eqb : (bs == bs) = true := by simp
  refine HC.wp mixed Try.func30 c30 ?_
  first | have f0 := Sat.pf (H) | have f0 := trivial
  first | have f1 := Sat.pf (H.t) | have f1 := trivial
  first | have f2 := Sat.pf (H.t.t) | have f2 := trivial
  first | have f3 := Sat.pf (H.t.t.t) | have f3 := trivial
  first | have f4 := Sat.pf (H.t.t.t.t) | have f4 := trivial
  first | have f5 := Sat.pf (H.t.t.t.t.t) | have f5 := trivial
  first | have f6 := Sat.pf (H.t.t.t.t.t.t) | have f6 := trivial
  first | have f7 := Sat.pf (H.t.t.t.t.t.t.t) | have f7 := trivial
  first | have f8 := Sat.pf (H.t.t.t.t.t.t.t.t) | have f8 := trivial
  first | have f9 := Sat.pf (H.t.t.t.t.t.t.t.t.t) | have f9 := trivial
  first | have f10 := Sat.pf (H.t.t.t.t.t.t.t.t.t.t) | have f10 := trivial
  first | have f11 := Sat.pf (H.t.t.t.t.t.t.t.t.t.t.t) | have f11 := trivial
  repeat' first
    | ((with_reducible show Need _); refine need_of ?_; (first | have f0 := Sat.pf (H) | have f0 := trivial); (first | have f1 := Sat.pf (H.t) | have f1 := trivial); (first | have f2 := Sat.pf (H.t.t) | have f2 := trivial); (first | have f3 := Sat.pf (H.t.t.t) | have f3 := trivial); (first | have f4 := Sat.pf (H.t.t.t.t) | have f4 := trivial); (first | have f5 := Sat.pf (H.t.t.t.t.t) | have f5 := trivial); (first | have f6 := Sat.pf (H.t.t.t.t.t.t) | have f6 := trivial); (first | have f7 := Sat.pf (H.t.t.t.t.t.t.t) | have f7 := trivial); (first | have f8 := Sat.pf (H.t.t.t.t.t.t.t.t) | have f8 := trivial); (first | have f9 := Sat.pf (H.t.t.t.t.t.t.t.t.t) | have f9 := trivial); (first | have f10 := Sat.pf (H.t.t.t.t.t.t.t.t.t.t) | have f10 := trivial); (first | have f11 := Sat.pf (H.t.t.t.t.t.t.t.t.t.t.t) | have f11 := trivial); (first | have T := (R _ H.t.t.t.t.t.t.t.t).take | skip); (first | have hqa2 := ldA _ _ (by with_reducible first | exact H | exact H.p1 | exact H.p2 | exact H.p3 | exact H.p4 | exact H.p5 | exact H.p6 | exact H.p7 | exact H.p8 | exact H.p9 | exact H.p10 | exact H.p11) | skip); (first | have hqb2 := ldB _ _ (by with_reducible first | exact H | exact H.p1 | exact H.p2 | exact H.p3 | exact H.p4 | exact H.p5 | exact H.p6 | exact H.p7 | exact H.p8 | exact H.p9 | exact H.p10 | exact H.p11) | skip); (first | have rb2 := rd_b2sK (rc _ _ (by with_reducible first | exact H | exact H.p1 | exact H.p2 | exact H.p3 | exact H.p4 | exact H.p5 | exact H.p6 | exact H.p7 | exact H.p8 | exact H.p9 | exact H.p10 | exact H.p11)).2 | skip))
    | simp -implicitDefEqProofs (disch := first | omega | decide | exact rfl | assumption | exact Nat.le_of_ble_eq_true rfl | exact One.c | exact One.o) only [vsA, vsB, eq_self, if_true, if_false, implies_true, false_implies, evp, HX.ev, Nat.reduceAdd, HOp.looks, Nat.reduceEqDiff, overw, Nat.reduceBEq, h30, so, hc0, hqa1, hqa2, hqb1, hqb2, lb, hc1, hc2, rb2, eqb, ub30, f0, f1, f2, f3, f4, f5, f6, f7, f8, f9, f10, f11, frame0, List.replicate, Nat.sub]
    | (refine condK_cases (fun h => ?_) (fun h => ?_) <;> (try simp only [h]) <;> (try simp only [athA, ne_eq] at h) <;> (try (exfalso; omega)))
    | (refine guardK_cases (fun h => ?_) (fun h => ?_) <;> (try simp only [h]) <;> (try simp only [athA, ne_eq] at h) <;> (try (exfalso; omega)))
    | (refine dgK_cases (fun h => ?_) (fun h => ?_) <;> (try simp only [h]) <;> (try simp only [athA, ne_eq] at h) <;> (try (exfalso; omega)))
    | (clear H f0 f1 f2 f3 f4 f5 f6 f7 f8 f9 f10 f11; (with_reducible intro v2 hs H); (try simp only [setA, overw, Nat.reduceAdd] at H); refine need ?_)
    | ((with_reducible show actK _ (HAct.call (HX.cst (HV.func (Fn.func 18) _ _)) _) _ _ _ _ _); refine vcall_of ok18 rfl (feedP (p := e.p) (s := e.s) (b := c1) (bs := bs) (by with_reducible first | exact H | exact H.p1 | exact H.p2 | exact H.p3 | exact H.p4 | exact H.p5 | exact H.p6 | exact H.p7 | exact H.p8 | exact H.p9 | exact H.p10 | exact H.p11) (fun _ h => (rc _ _ (by first | exact h | exact h.p1 | exact h.p2 | exact h.p3 | exact h.p4)).1) (by omega) (by omega)) ?_;  clear H f0 f1 f2 f3 f4 f5 f6 f7 f8 f9 f10 f11; rintro _ hs H; refine need ?_)
    | ((with_reducible show drK _ _ _ _ _ _ _ _ _ (some ⟨_, HAct.call (HX.cst (HV.func (Fn.func 18) _ _)) _, none⟩)); refine vdr_call ok18 rfl (feedP (p := e.p) (s := e.s) (b := c1) (bs := bs) (by with_reducible first | exact H | exact H.p1 | exact H.p2 | exact H.p3 | exact H.p4 | exact H.p5 | exact H.p6 | exact H.p7 | exact H.p8 | exact H.p9 | exact H.p10 | exact H.p11) (fun _ h => (rc _ _ (by first | exact h | exact h.p1 | exact h.p2 | exact h.p3 | exact h.p4)).1) (by omega) (by omega)) ?_;  clear H f0 f1 f2 f3 f4 f5 f6 f7 f8 f9 f10 f11; rintro _ hs H; refine need ?_)
    | ((with_reducible show actK _ (HAct.call (HX.cst (HV.func (Fn.func 42) _ _)) _) _ _ _ _ _); refine vcall_of ok42 rfl (rfeed42 (p := e.q) (s := e.s) (by with_reducible first | exact H | exact H.p1 | exact H.p2 | exact H.p3 | exact H.p4 | exact H.p5 | exact H.p6 | exact H.p7 | exact H.p8 | exact H.p9 | exact H.p10 | exact H.p11) (fun _ h => R _ h.t.t.t.t.t.t.t) (by omega) (by omega)) ?_;  clear H f0 f1 f2 f3 f4 f5 f6 f7 f8 f9 f10 f11; rintro _ hs H; refine need ?_)
    | ((with_reducible show drK _ _ _ _ _ _ _ _ _ (some ⟨_, HAct.call (HX.cst (HV.func (Fn.func 42) _ _)) _, none⟩)); refine vdr_call ok42 rfl (rfeed42 (p := e.q) (s := e.s) (by with_reducible first | exact H | exact H.p1 | exact H.p2 | exact H.p3 | exact H.p4 | exact H.p5 | exact H.p6 | exact H.p7 | exact H.p8 | exact H.p9 | exact H.p10 | exact H.p11) (fun _ h => R _ h.t.t.t.t.t.t.t) (by omega) (by omega)) ?_;  clear H f0 f1 f2 f3 f4 f5 f6 f7 f8 f9 f10 f11; rintro _ hs H; refine need ?_)
    | ((with_reducible show actK _ (HAct.call (HX.cst (HV.func (Fn.func 33) _ _)) _) _ _ _ _ _); refine vcall_of ok33 rfl (same33 (x := bs) (y := bs) (rc _ _ (by with_reducible first | exact H | exact H.p1 | exact H.p2 | exact H.p3 | exact H.p4 | exact H.p5 | exact H.p6 | exact H.p7 | exact H.p8 | exact H.p9 | exact H.p10 | exact H.p11)).1 (R _ H.t.t.t.t.t.t.t.t) (by omega)) ?_; rintro _ _ ⟨rfl, rfl⟩)
    | ((with_reducible show drK _ _ _ _ _ _ _ _ _ (some ⟨_, HAct.call (HX.cst (HV.func (Fn.func 33) _ _)) _, none⟩)); refine vdr_call ok33 rfl (same33 (x := bs) (y := bs) (rc _ _ (by with_reducible first | exact H | exact H.p1 | exact H.p2 | exact H.p3 | exact H.p4 | exact H.p5 | exact H.p6 | exact H.p7 | exact H.p8 | exact H.p9 | exact H.p10 | exact H.p11)).1 (R _ H.t.t.t.t.t.t.t.t) (by omega)) ?_; rintro _ _ ⟨rfl, rfl⟩)
    | refine opC_K ?_
    | refine opC_D ?_
    | ((with_reducible show opC (happend _ _ _ _ _) _); refine sl_append (n := 0) (xs := []) (by with_reducible first | exact H | exact H.p1 | exact H.p2 | exact H.p3 | exact H.p4 | exact H.p5 | exact H.p6 | exact H.p7 | exact H.p8 | exact H.p9 | exact H.p10 | exact H.p11) (by first | assumption | with_reducible first | exact f0.2.1 | exact f1.2.1 | exact f2.2.1 | exact f3.2.1 | exact f4.2.1 | exact f5.2.1 | exact f6.2.1 | exact f7.2.1 | exact f8.2.1 | exact f9.2.1 | exact f10.2.1 | exact f11.2.1 | exact va_takeS) (by first | exact roomFor_of (by omega) | exact roomFor_wide (by omega)) (by omega) ?_; clear H f0 f1 f2 f3 f4 f5 f6 f7 f8 f9 f10 f11; intro w hs H; simp only [Nat.zero_add, List.nil_append] at H; refine need ?_)
    | ((with_reducible show opC (happend _ _ _ _ _) _); refine sl_append (n := bs.length) (xs := bcells bs) (m := 6) (ns := bcells [98, 101, 104, 105, 110, 100]) (by with_reducible first | exact H | exact H.p1 | exact H.p2 | exact H.p3 | exact H.p4 | exact H.p5 | exact H.p6 | exact H.p7 | exact H.p8 | exact H.p9 | exact H.p10 | exact H.p11) (by exact va_takeS) (by first | exact roomFor_of (by omega) | exact roomFor_wide (by omega)) (by omega) ?_; clear H f0 f1 f2 f3 f4 f5 f6 f7 f8 f9 f10 f11; intro w hs H; obtain ⟨c1, c2, hc1, hc2, rc⟩ := my_cuts H (by omega); refine need ?_)
    | ((with_reducible show opC (unit (hstore _ _ _ _)) _); refine sl_store1 (by with_reducible first | exact H | exact H.p1 | exact H.p2 | exact H.p3 | exact H.p4 | exact H.p5 | exact H.p6 | exact H.p7 | exact H.p8 | exact H.p9 | exact H.p10 | exact H.p11) (Nat.le_of_ble_eq_true rfl) (by first | exact rfl | (simp only [f0, f1, f2, f3, f4, f5, f6, f7, f8, f9, f10, f11]; done) | (simp only [onA, *]; done)) (by first | exact rfl | (simp only [f0, f1, f2, f3, f4, f5, f6, f7, f8, f9, f10, f11]; done) | (simp only [onA, *]; done)) ?_)
    | ((with_reducible show opC (unit (hstore _ _ _ _)) _); refine sl_storeN (by with_reducible first | exact H | exact H.p1 | exact H.p2 | exact H.p3 | exact H.p4 | exact H.p5 | exact H.p6 | exact H.p7 | exact H.p8 | exact H.p9 | exact H.p10 | exact H.p11) rfl (Nat.le_of_ble_eq_true rfl) (by first | exact rfl | (simp only [f0, f1, f2, f3, f4, f5, f6, f7, f8, f9, f10, f11]; done) | (simp only [onA, *]; done)) ?_)
    | ((with_reducible show opC (happend _ _ _ _ _) _); refine sl_append (by with_reducible first | exact H | exact H.p1 | exact H.p2 | exact H.p3 | exact H.p4 | exact H.p5 | exact H.p6 | exact H.p7 | exact H.p8 | exact H.p9 | exact H.p10 | exact H.p11) (by first | assumption | with_reducible first | exact f0.2.1 | exact f1.2.1 | exact f2.2.1 | exact f3.2.1 | exact f4.2.1 | exact f5.2.1 | exact f6.2.1 | exact f7.2.1 | exact f8.2.1 | exact f9.2.1 | exact f10.2.1 | exact f11.2.1 | exact va_takeS) (by first | exact roomFor_of (by omega) | exact roomFor_wide (by omega)) (by omega) ?_)
    | ((with_reducible show opC (happend _ _ _ _ _) _); refine sl_append0X H (by first | assumption | with_reducible first | exact f0.2.1 | exact f1.2.1 | exact f2.2.1 | exact f3.2.1 | exact f4.2.1 | exact f5.2.1 | exact f6.2.1 | exact f7.2.1 | exact f8.2.1 | exact f9.2.1 | exact f10.2.1 | exact f11.2.1 | exact va_takeS) (by first | exact roomFor_of (by omega) | exact roomFor_wide (by omega)) (by omega) ?_)
    | ((with_reducible show opC (happend _ _ _ _ _) _); refine sl_appendX (by with_reducible first | exact H | exact H.p1 | exact H.p2 | exact H.p3 | exact H.p4 | exact H.p5 | exact H.p6 | exact H.p7 | exact H.p8 | exact H.p9 | exact H.p10 | exact H.p11) (by first | assumption | with_reducible first | exact f0.2.1 | exact f1.2.1 | exact f2.2.1 | exact f3.2.1 | exact f4.2.1 | exact f5.2.1 | exact f6.2.1 | exact f7.2.1 | exact f8.2.1 | exact f9.2.1 | exact f10.2.1 | exact f11.2.1 | exact va_takeS) (by first | exact roomFor_of (by omega) | exact roomFor_wide (by omega)) (by omega) ?_)
    | refine hwp_draw mixed rfl ?_
    | with_reducible intro hy

  refine HW.loopA mixed (fun s : Nat × List UInt8 => (.undef :: .undef :: .undef :: .undef :: .undef :: .undef :: .undef :: w :: .bool true :: .undef :: .undef :: .undef :: .undef :: .undef :: .undef :: .undef :: .undef :: .undef :: .undef :: .undef :: .undef :: .undef :: .undef :: .undef :: .undef :: .undef :: .undef :: .undef :: .undef :: .undef :: .undef :: .undef :: .undef :: .undef :: .undef :: .undef :: .undef :: .undef :: .undef :: .undef :: .undef :: .undef :: .undef :: .undef :: .undef :: .undef :: .undef :: .undef :: .undef :: .undef :: .undef :: .undef :: .undef :: .undef :: .undef :: .undef :: .undef :: .undef :: .undef :: .int .i64 ((bs.length + 6 : Nat) : Int) :: .int .i64 (s.1 : Nat) :: .undef :: .undef :: .undef :: .undef :: .undef :: .undef :: .undef :: []))
    (fun s => My 1 w (bs.length + 6) (bcells s.2) :: RefP e.q (feedF e.s bs) :: InP e.p (feedF e.s bs) :: pt d (.cells 1 [va, vb, vo, vw, .int .i64 (E1.length : Nat), w] false false []) :: My 1 va K.length (dkA K) :: My 1 vb K.length (dkB K) :: Bk vo vw E1 E2 :: each DK.P (K.eraseIdx k) :: l)
    (fun s => bs.length + 6 - s.1) (fun s => s.1 ≤ bs.length + 6 ∧ s.2.length = bs.length + 6) (0, bs ++ [98, 101, 104, 105, 110, 100]) ⟨by omega, by simp⟩ (by (repeat first | exact Less.nil | refine Less.undef _ ?_ | refine Less.keep _ ?_)) (by simp only [bcells_app]; exact H.p7.p7.p7.p7.p6.p6.p6.p7) ?_
  clear H
  rintro ⟨i, x⟩ hs ⟨hi, hx⟩ H
  simp only at hi hx H
  first | have f0 := Sat.pf (H) | have f0 := trivial
  first | have f1 := Sat.pf (H.t) | have f1 := trivial
  first | have f2 := Sat.pf (H.t.t) | have f2 := trivial
  first | have f3 := Sat.pf (H.t.t.t) | have f3 := trivial
  first | have f4 := Sat.pf (H.t.t.t.t) | have f4 := trivial
  first | have f5 := Sat.pf (H.t.t.t.t.t) | have f5 := trivial
  first | have f6 := Sat.pf (H.t.t.t.t.t.t) | have f6 := trivial
  first | have f7 := Sat.pf (H.t.t.t.t.t.t.t) | have f7 := trivial
  first | have f8 := Sat.pf (H.t.t.t.t.t.t.t.t) | have f8 := trivial
  first | have f9 := Sat.pf (H.t.t.t.t.t.t.t.t.t) | have f9 := trivial
  first | have f10 := Sat.pf (H.t.t.t.t.t.t.t.t.t.t) | have f10 := trivial
  first | have f11 := Sat.pf (H.t.t.t.t.t.t.t.t.t.t.t) | have f11 := trivial
  by_cases h : i < bs.length + 6
  · obtain ⟨hh, o, hs1, w1, w2, H2⟩ := H.write (i := i) (j := 0) h (by decide) .i64 (x := .int .u8 ((35 : UInt8).toNat : Int)) rfl rfl
    rw [Nat.add_zero, show (HV.int .u8 ((35 : UInt8).toNat : Int)) = .int .u8 35 from rfl] at w2
    rw [Nat.mul_one, Nat.add_zero, bcells_set] at H2
    repeat' first
      | ((with_reducible show Need _); refine need_of ?_; (first | have f0 := Sat.pf (H) | have f0 := trivial); (first | have f1 := Sat.pf (H.t) | have f1 := trivial); (first | have f2 := Sat.pf (H.t.t) | have f2 := trivial); (first | have f3 := Sat.pf (H.t.t.t) | have f3 := trivial); (first | have f4 := Sat.pf (H.t.t.t.t) | have f4 := trivial); (first | have f5 := Sat.pf (H.t.t.t.t.t) | have f5 := trivial); (first | have f6 := Sat.pf (H.t.t.t.t.t.t) | have f6 := trivial); (first | have f7 := Sat.pf (H.t.t.t.t.t.t.t) | have f7 := trivial); (first | have f8 := Sat.pf (H.t.t.t.t.t.t.t.t) | have f8 := trivial); (first | have f9 := Sat.pf (H.t.t.t.t.t.t.t.t.t) | have f9 := trivial); (first | have f10 := Sat.pf (H.t.t.t.t.t.t.t.t.t.t) | have f10 := trivial); (first | have f11 := Sat.pf (H.t.t.t.t.t.t.t.t.t.t.t) | have f11 := trivial))
      | simp -implicitDefEqProofs (disch := first | omega | decide | exact rfl | assumption | exact Nat.le_of_ble_eq_true rfl | exact One.c | exact One.o) only [vsA, vsB, eq_self, if_true, if_false, implies_true, false_implies, evp, HX.ev, Nat.reduceAdd, HOp.looks, Nat.reduceEqDiff, overw, Nat.reduceBEq, w1, w2, vadd1, ub30, f0, f1, f2, f3, f4, f5, f6, f7, f8, f9, f10, f11]
      | (refine condK_cases (fun h => ?_) (fun h => ?_) <;> (try simp only [h]) <;> (try simp only [athA, ne_eq] at h) <;> (try (exfalso; omega)))
      | (refine guardK_cases (fun h => ?_) (fun h => ?_) <;> (try simp only [h]) <;> (try simp only [athA, ne_eq] at h) <;> (try (exfalso; omega)))
      | (refine dgK_cases (fun h => ?_) (fun h => ?_) <;> (try simp only [h]) <;> (try simp only [athA, ne_eq] at h) <;> (try (exfalso; omega)))
      | (clear H f0 f1 f2 f3 f4 f5 f6 f7 f8 f9 f10 f11; (with_reducible intro v2 hs H); (try simp only [setA, overw, Nat.reduceAdd] at H); refine need ?_)
      | refine opC_K ?_
      | refine opC_D ?_
      | ((with_reducible show opC (unit (hstore _ _ _ _)) _); refine sl_store1 (by with_reducible first | exact H | exact H.p1 | exact H.p2 | exact H.p3 | exact H.p4 | exact H.p5 | exact H.p6 | exact H.p7 | exact H.p8 | exact H.p9 | exact H.p10 | exact H.p11) (Nat.le_of_ble_eq_true rfl) (by first | exact rfl | (simp only [f0, f1, f2, f3, f4, f5, f6, f7, f8, f9, f10, f11]; done) | (simp only [onA, *]; done)) (by first | exact rfl | (simp only [f0, f1, f2, f3, f4, f5, f6, f7, f8, f9, f10, f11]; done) | (simp only [onA, *]; done)) ?_)
      | ((with_reducible show opC (unit (hstore _ _ _ _)) _); refine sl_storeN (by with_reducible first | exact H | exact H.p1 | exact H.p2 | exact H.p3 | exact H.p4 | exact H.p5 | exact H.p6 | exact H.p7 | exact H.p8 | exact H.p9 | exact H.p10 | exact H.p11) rfl (Nat.le_of_ble_eq_true rfl) (by first | exact rfl | (simp only [f0, f1, f2, f3, f4, f5, f6, f7, f8, f9, f10, f11]; done) | (simp only [onA, *]; done)) ?_)
      | ((with_reducible show opC (happend _ _ _ _ _) _); refine sl_append (by with_reducible first | exact H | exact H.p1 | exact H.p2 | exact H.p3 | exact H.p4 | exact H.p5 | exact H.p6 | exact H.p7 | exact H.p8 | exact H.p9 | exact H.p10 | exact H.p11) (by first | assumption | with_reducible first | exact f0.2.1 | exact f1.2.1 | exact f2.2.1 | exact f3.2.1 | exact f4.2.1 | exact f5.2.1 | exact f6.2.1 | exact f7.2.1 | exact f8.2.1 | exact f9.2.1 | exact f10.2.1 | exact f11.2.1 | exact va_takeS) (by first | exact roomFor_of (by omega) | exact roomFor_wide (by omega)) (by omega) ?_)
      | ((with_reducible show opC (happend _ _ _ _ _) _); refine sl_append0X H (by first | assumption | with_reducible first | exact f0.2.1 | exact f1.2.1 | exact f2.2.1 | exact f3.2.1 | exact f4.2.1 | exact f5.2.1 | exact f6.2.1 | exact f7.2.1 | exact f8.2.1 | exact f9.2.1 | exact f10.2.1 | exact f11.2.1 | exact va_takeS) (by first | exact roomFor_of (by omega) | exact roomFor_wide (by omega)) (by omega) ?_)
      | ((with_reducible show opC (happend _ _ _ _ _) _); refine sl_appendX (by with_reducible first | exact H | exact H.p1 | exact H.p2 | exact H.p3 | exact H.p4 | exact H.p5 | exact H.p6 | exact H.p7 | exact H.p8 | exact H.p9 | exact H.p10 | exact H.p11) (by first | assumption | with_reducible first | exact f0.2.1 | exact f1.2.1 | exact f2.2.1 | exact f3.2.1 | exact f4.2.1 | exact f5.2.1 | exact f6.2.1 | exact f7.2.1 | exact f8.2.1 | exact f9.2.1 | exact f10.2.1 | exact f11.2.1 | exact va_takeS) (by first | exact roomFor_of (by omega) | exact roomFor_wide (by omega)) (by omega) ?_)
      | refine hwp_draw mixed rfl ?_
      | with_reducible intro hy

    exact ⟨(i + 1, x.set i 35), _, by simp only; omega, ⟨by simp only; omega, by simpa using hx⟩, (by (repeat first | exact Less.nil | refine Less.undef _ ?_ | refine Less.keep _ ?_)), Weak.refl _, H2⟩
  · skip
    repeat' first
      | ((with_reducible show Need _); refine need_of ?_; (first | have f0 := Sat.pf (H) | have f0 := trivial); (first | have f1 := Sat.pf (H.t) | have f1 := trivial); (first | have f2 := Sat.pf (H.t.t) | have f2 := trivial); (first | have f3 := Sat.pf (H.t.t.t) | have f3 := trivial); (first | have f4 := Sat.pf (H.t.t.t.t) | have f4 := trivial); (first | have f5 := Sat.pf (H.t.t.t.t.t) | have f5 := trivial); (first | have f6 := Sat.pf (H.t.t.t.t.t.t) | have f6 := trivial); (first | have f7 := Sat.pf (H.t.t.t.t.t.t.t) | have f7 := trivial); (first | have f8 := Sat.pf (H.t.t.t.t.t.t.t.t) | have f8 := trivial); (first | have f9 := Sat.pf (H.t.t.t.t.t.t.t.t.t) | have f9 := trivial); (first | have f10 := Sat.pf (H.t.t.t.t.t.t.t.t.t.t) | have f10 := trivial); (first | have f11 := Sat.pf (H.t.t.t.t.t.t.t.t.t.t.t) | have f11 := trivial))
      | simp -implicitDefEqProofs (disch := first | omega | decide | exact rfl | assumption | exact Nat.le_of_ble_eq_true rfl | exact One.c | exact One.o) only [vsA, vsB, eq_self, if_true, if_false, implies_true, false_implies, evp, HX.ev, Nat.reduceAdd, HOp.looks, Nat.reduceEqDiff, overw, Nat.reduceBEq, vadd1, ub30, f0, f1, f2, f3, f4, f5, f6, f7, f8, f9, f10, f11]
      | (refine condK_cases (fun h => ?_) (fun h => ?_) <;> (try simp only [h]) <;> (try simp only [athA, ne_eq] at h) <;> (try (exfalso; omega)))
      | (refine guardK_cases (fun h => ?_) (fun h => ?_) <;> (try simp only [h]) <;> (try simp only [athA, ne_eq] at h) <;> (try (exfalso; omega)))
      | (refine dgK_cases (fun h => ?_) (fun h => ?_) <;> (try simp only [h]) <;> (try simp only [athA, ne_eq] at h) <;> (try (exfalso; omega)))
      | (clear H f0 f1 f2 f3 f4 f5 f6 f7 f8 f9 f10 f11; (with_reducible intro v2 hs H); (try simp only [setA, overw, Nat.reduceAdd] at H); refine need ?_)
      | refine opC_K ?_
      | refine opC_D ?_
      | ((with_reducible show opC (unit (hstore _ _ _ _)) _); refine sl_store1 (by with_reducible first | exact H | exact H.p1 | exact H.p2 | exact H.p3 | exact H.p4 | exact H.p5 | exact H.p6 | exact H.p7 | exact H.p8 | exact H.p9 | exact H.p10 | exact H.p11) (Nat.le_of_ble_eq_true rfl) (by first | exact rfl | (simp only [f0, f1, f2, f3, f4, f5, f6, f7, f8, f9, f10, f11]; done) | (simp only [onA, *]; done)) (by first | exact rfl | (simp only [f0, f1, f2, f3, f4, f5, f6, f7, f8, f9, f10, f11]; done) | (simp only [onA, *]; done)) ?_)
      | ((with_reducible show opC (unit (hstore _ _ _ _)) _); refine sl_storeN (by with_reducible first | exact H | exact H.p1 | exact H.p2 | exact H.p3 | exact H.p4 | exact H.p5 | exact H.p6 | exact H.p7 | exact H.p8 | exact H.p9 | exact H.p10 | exact H.p11) rfl (Nat.le_of_ble_eq_true rfl) (by first | exact rfl | (simp only [f0, f1, f2, f3, f4, f5, f6, f7, f8, f9, f10, f11]; done) | (simp only [onA, *]; done)) ?_)
      | ((with_reducible show opC (happend _ _ _ _ _) _); refine sl_append (by with_reducible first | exact H | exact H.p1 | exact H.p2 | exact H.p3 | exact H.p4 | exact H.p5 | exact H.p6 | exact H.p7 | exact H.p8 | exact H.p9 | exact H.p10 | exact H.p11) (by first | assumption | with_reducible first | exact f0.2.1 | exact f1.2.1 | exact f2.2.1 | exact f3.2.1 | exact f4.2.1 | exact f5.2.1 | exact f6.2.1 | exact f7.2.1 | exact f8.2.1 | exact f9.2.1 | exact f10.2.1 | exact f11.2.1 | exact va_takeS) (by first | exact roomFor_of (by omega) | exact roomFor_wide (by omega)) (by omega) ?_)
      | ((with_reducible show opC (happend _ _ _ _ _) _); refine sl_append0X H (by first | assumption | with_reducible first | exact f0.2.1 | exact f1.2.1 | exact f2.2.1 | exact f3.2.1 | exact f4.2.1 | exact f5.2.1 | exact f6.2.1 | exact f7.2.1 | exact f8.2.1 | exact f9.2.1 | exact f10.2.1 | exact f11.2.1 | exact va_takeS) (by first | exact roomFor_of (by omega) | exact roomFor_wide (by omega)) (by omega) ?_)
      | ((with_reducible show opC (happend _ _ _ _ _) _); refine sl_appendX (by with_reducible first | exact H | exact H.p1 | exact H.p2 | exact H.p3 | exact H.p4 | exact H.p5 | exact H.p6 | exact H.p7 | exact H.p8 | exact H.p9 | exact H.p10 | exact H.p11) (by first | assumption | with_reducible first | exact f0.2.1 | exact f1.2.1 | exact f2.2.1 | exact f3.2.1 | exact f4.2.1 | exact f5.2.1 | exact f6.2.1 | exact f7.2.1 | exact f8.2.1 | exact f9.2.1 | exact f10.2.1 | exact f11.2.1 | exact va_takeS) (by first | exact roomFor_of (by omega) | exact roomFor_wide (by omega)) (by omega) ?_)
      | refine hwp_draw mixed rfl ?_
      | with_reducible intro hy

    refine desk_open.2 ⟨va, vb, vo, vw, w, x, ?_⟩
    rw [dkA_set hk, dkB_set hk, List.length_set, hx]
    have H := dk_put (s' := feedF e.s bs) hk H.p6.p6.p6.p6.p7.p6.p7
    exact H.p5.p5.p5.p5.p5
theorem dnext13 {hs : HS} {l : List SA} {d k : Nat} {K : List DK} {E1 E2 : List En} {e : DK} (H : Sat hs (DeskP d K E1 E2 :: l)) (G : ∀ hs, Sat hs l → hs[0]? = some (some (HB.gint 0))) (hk : K[k]? = some e) (hb : e.s.held.length < 4294967281) (hst : e.s.st ≤ 3) (hsz : e.s.size ≤ 4294967295) (hlf : e.s.left ≤ 4294967297)
    (hn : (E1 ++ E2).length < 1073741824000) (hbd : (itB (nextS e.s).1).length < 4611686018427) :
    HC Try.prog 13 [.ptr d 0, .int .i64 (k : Nat)] hs fun v hs' => v = .bool true ∧ ∃ w1 w2, Sat hs' (DeskP d (K.set k ⟨e.p, e.q, (nextS e.s).2⟩) E1 (E2 ++ [⟨w1, w2, itB (nextS e.s).1⟩]) :: l) := by
  obtain ⟨va, vb, vo, vw, lt, x, H1⟩ := desk_open.1 H
  clear H
  have H2 := dk_at H1.p4.p4.p4.p4.p4.p5 hk
  clear H1
  have H := H2.p2.p7.p7.p7.p7.p7.p7.p7
  clear H2
  obtain ⟨qa, hqa1, hqa2⟩ := (Sat.rd H.p3).idx1 (dkA_get hk) .i64
  obtain ⟨qb, hqb1, hqb2⟩ := (Sat.rd H.p4).idx1 (dkB_get hk) .i64
  have ldA : ∀ hs l', Sat hs (My 1 va K.length (dkA K) :: l') → hload none hs qa = some (.ptr e.p 0) := fun hs l' h => h.rd.ld1 hqa1 (dkA_get hk)
  have ldB : ∀ hs l', Sat hs (My 1 vb K.length (dkB K) :: l') → hload none hs qb = some (.ptr e.q 0) := fun hs l' h => h.rd.ld1 hqb1 (dkB_get hk)
  have o1 := True.intro
  have o2 := True.intro
  have o3 := True.intro
  have o4 := True.intro
  refine HC.wp mixed Try.func13 c13 ?_
  first | have f0 := Sat.pf (H) | have f0 := trivial
  first | have f1 := Sat.pf (H.t) | have f1 := trivial
  first | have f2 := Sat.pf (H.t.t) | have f2 := trivial
  first | have f3 := Sat.pf (H.t.t.t) | have f3 := trivial
  first | have f4 := Sat.pf (H.t.t.t.t) | have f4 := trivial
  first | have f5 := Sat.pf (H.t.t.t.t.t) | have f5 := trivial
  first | have f6 := Sat.pf (H.t.t.t.t.t.t) | have f6 := trivial
  first | have f7 := Sat.pf (H.t.t.t.t.t.t.t) | have f7 := trivial
  first | have f8 := Sat.pf (H.t.t.t.t.t.t.t.t) | have f8 := trivial
  first | have f9 := Sat.pf (H.t.t.t.t.t.t.t.t.t) | have f9 := trivial
  first | have f10 := Sat.pf (H.t.t.t.t.t.t.t.t.t.t) | have f10 := trivial
  first | have f11 := Sat.pf (H.t.t.t.t.t.t.t.t.t.t.t) | have f11 := trivial
  cases hnx : nextS e.s with
  | mk o s2 =>
    cases o with
    | none =>
      repeat' first
        | ((with_reducible show Need _); refine need_of ?_; (first | have f0 := Sat.pf (H) | have f0 := trivial); (first | have f1 := Sat.pf (H.t) | have f1 := trivial); (first | have f2 := Sat.pf (H.t.t) | have f2 := trivial); (first | have f3 := Sat.pf (H.t.t.t) | have f3 := trivial); (first | have f4 := Sat.pf (H.t.t.t.t) | have f4 := trivial); (first | have f5 := Sat.pf (H.t.t.t.t.t) | have f5 := trivial); (first | have f6 := Sat.pf (H.t.t.t.t.t.t) | have f6 := trivial); (first | have f7 := Sat.pf (H.t.t.t.t.t.t.t) | have f7 := trivial); (first | have f8 := Sat.pf (H.t.t.t.t.t.t.t.t) | have f8 := trivial); (first | have f9 := Sat.pf (H.t.t.t.t.t.t.t.t.t) | have f9 := trivial); (first | have f10 := Sat.pf (H.t.t.t.t.t.t.t.t.t.t) | have f10 := trivial); (first | have f11 := Sat.pf (H.t.t.t.t.t.t.t.t.t.t.t) | have f11 := trivial); (first | have hqa2 := ldA _ _ (by with_reducible first | exact H | exact H.p1 | exact H.p2 | exact H.p3 | exact H.p4 | exact H.p5 | exact H.p6 | exact H.p7 | exact H.p8 | exact H.p9 | exact H.p10 | exact H.p11) | skip); (first | have hqb2 := ldB _ _ (by with_reducible first | exact H | exact H.p1 | exact H.p2 | exact H.p3 | exact H.p4 | exact H.p5 | exact H.p6 | exact H.p7 | exact H.p8 | exact H.p9 | exact H.p10 | exact H.p11) | skip))
        | simp -implicitDefEqProofs (disch := first | omega | decide | exact rfl | assumption | exact Nat.le_of_ble_eq_true rfl | exact One.c | exact One.o) only [vsA, vsB, eq_self, if_true, if_false, implies_true, false_implies, evp, HX.ev, Nat.reduceAdd, HOp.looks, Nat.reduceEqDiff, overw, Nat.reduceBEq, h13, hqa1, hqa2, hqb1, hqb2, va_loadA, va_ldA, ub13, f0, f1, f2, f3, f4, f5, f6, f7, f8, f9, f10, f11, frame0, List.replicate, Nat.sub]
        | (refine condK_cases (fun h => ?_) (fun h => ?_) <;> (try simp only [h]) <;> (try simp only [athA, ne_eq] at h) <;> (try (exfalso; omega)))
        | (refine guardK_cases (fun h => ?_) (fun h => ?_) <;> (try simp only [h]) <;> (try simp only [athA, ne_eq] at h) <;> (try (exfalso; omega)))
        | (refine dgK_cases (fun h => ?_) (fun h => ?_) <;> (try simp only [h]) <;> (try simp only [athA, ne_eq] at h) <;> (try (exfalso; omega)))
        | (clear H f0 f1 f2 f3 f4 f5 f6 f7 f8 f9 f10 f11; (with_reducible intro v2 hs H); (try simp only [setA, overw, Nat.reduceAdd] at H); refine need ?_)
        | ((with_reducible show actK _ (HAct.call (HX.cst (HV.func (Fn.func 26) _ _)) _) _ _ _ _ _); refine vcall_of ok26 rfl (next26 (p := e.p) (s := e.s) (by with_reducible first | exact H | exact H.p1 | exact H.p2 | exact H.p3 | exact H.p4 | exact H.p5 | exact H.p6 | exact H.p7 | exact H.p8 | exact H.p9 | exact H.p10 | exact H.p11) (fun _ h => G _ h.t.t.t.t.t.t.t) hb hst hsz hlf) ?_;  clear H f0 f1 f2 f3 f4 f5 f6 f7 f8 f9 f10 f11; rintro v hs ⟨w, rfl, H⟩; rw [hnx] at H; simp only [hnx, itV, itB] at H ⊢; refine need ?_)
        | ((with_reducible show drK _ _ _ _ _ _ _ _ _ (some ⟨_, HAct.call (HX.cst (HV.func (Fn.func 26) _ _)) _, none⟩)); refine vdr_call ok26 rfl (next26 (p := e.p) (s := e.s) (by with_reducible first | exact H | exact H.p1 | exact H.p2 | exact H.p3 | exact H.p4 | exact H.p5 | exact H.p6 | exact H.p7 | exact H.p8 | exact H.p9 | exact H.p10 | exact H.p11) (fun _ h => G _ h.t.t.t.t.t.t.t) hb hst hsz hlf) ?_;  clear H f0 f1 f2 f3 f4 f5 f6 f7 f8 f9 f10 f11; rintro v hs ⟨w, rfl, H⟩; rw [hnx] at H; simp only [hnx, itV, itB] at H ⊢; refine need ?_)
        | ((with_reducible show actK _ (HAct.call (HX.cst (HV.func (Fn.func 34) _ _)) _) _ _ _ _ _); refine vcall_of ok34 rfl (rnext34 (p := e.q) (s := e.s) (by with_reducible first | exact H | exact H.p1 | exact H.p2 | exact H.p3 | exact H.p4 | exact H.p5 | exact H.p6 | exact H.p7 | exact H.p8 | exact H.p9 | exact H.p10 | exact H.p11) hb hst hsz hlf) ?_;  clear H f0 f1 f2 f3 f4 f5 f6 f7 f8 f9 f10 f11; rintro v hs ⟨w, rfl, H⟩; rw [hnx] at H; simp only [hnx, itV, itB] at H ⊢; refine need ?_)
        | ((with_reducible show drK _ _ _ _ _ _ _ _ _ (some ⟨_, HAct.call (HX.cst (HV.func (Fn.func 34) _ _)) _, none⟩)); refine vdr_call ok34 rfl (rnext34 (p := e.q) (s := e.s) (by with_reducible first | exact H | exact H.p1 | exact H.p2 | exact H.p3 | exact H.p4 | exact H.p5 | exact H.p6 | exact H.p7 | exact H.p8 | exact H.p9 | exact H.p10 | exact H.p11) hb hst hsz hlf) ?_;  clear H f0 f1 f2 f3 f4 f5 f6 f7 f8 f9 f10 f11; rintro v hs ⟨w, rfl, H⟩; rw [hnx] at H; simp only [hnx, itV, itB] at H ⊢; refine need ?_)
        | ((with_reducible show actK _ (HAct.call (HX.cst (HV.func (Fn.func 35) _ _)) _) _ _ _ _ _); refine vcall_of ok35 rfl (keep35 (v := .nilSlice) (bs := []) (Sat.ex0 H).p6.t.p11.p11.p10.p10.p9.p9.p9.p9.p9.p11.p10.p11 hn (by decide)) ?_;  clear H f0 f1 f2 f3 f4 f5 f6 f7 f8 f9 f10 f11; rintro _ hs ⟨vo', vw', w2, H⟩; refine need ?_)
        | ((with_reducible show drK _ _ _ _ _ _ _ _ _ (some ⟨_, HAct.call (HX.cst (HV.func (Fn.func 35) _ _)) _, none⟩)); refine vdr_call ok35 rfl (keep35 (v := .nilSlice) (bs := []) (Sat.ex0 H).p6.t.p11.p11.p10.p10.p9.p9.p9.p9.p9.p11.p10.p11 hn (by decide)) ?_;  clear H f0 f1 f2 f3 f4 f5 f6 f7 f8 f9 f10 f11; rintro _ hs ⟨vo', vw', w2, H⟩; refine need ?_)
        | ((with_reducible show actK _ (HAct.call (HX.cst (HV.func (Fn.func 21) _ _)) _) _ _ _ _ _); refine vcall_of ok21 rfl (alike21 (x := []) (y := []) H (fun _ _ => Rd.nil) (fun _ _ => Rd.nil) (by decide)) ?_;  clear H f0 f1 f2 f3 f4 f5 f6 f7 f8 f9 f10 f11; rintro v hs ⟨rfl, H⟩; refine need ?_)
        | ((with_reducible show drK _ _ _ _ _ _ _ _ _ (some ⟨_, HAct.call (HX.cst (HV.func (Fn.func 21) _ _)) _, none⟩)); refine vdr_call ok21 rfl (alike21 (x := []) (y := []) H (fun _ _ => Rd.nil) (fun _ _ => Rd.nil) (by decide)) ?_;  clear H f0 f1 f2 f3 f4 f5 f6 f7 f8 f9 f10 f11; rintro v hs ⟨rfl, H⟩; refine need ?_)
        | refine opC_K ?_
        | refine opC_D ?_
        | ((with_reducible show opC (unit (hstore _ _ _ _)) _); refine sl_store1 (by with_reducible first | exact H | exact H.p1 | exact H.p2 | exact H.p3 | exact H.p4 | exact H.p5 | exact H.p6 | exact H.p7 | exact H.p8 | exact H.p9 | exact H.p10 | exact H.p11) (Nat.le_of_ble_eq_true rfl) (by first | exact rfl | (simp only [f0, f1, f2, f3, f4, f5, f6, f7, f8, f9, f10, f11]; done) | (simp only [onA, *]; done)) (by first | exact rfl | (simp only [f0, f1, f2, f3, f4, f5, f6, f7, f8, f9, f10, f11]; done) | (simp only [onA, *]; done)) ?_)
        | ((with_reducible show opC (unit (hstore _ _ _ _)) _); refine sl_storeN (by with_reducible first | exact H | exact H.p1 | exact H.p2 | exact H.p3 | exact H.p4 | exact H.p5 | exact H.p6 | exact H.p7 | exact H.p8 | exact H.p9 | exact H.p10 | exact H.p11) rfl (Nat.le_of_ble_eq_true rfl) (by first | exact rfl | (simp only [f0, f1, f2, f3, f4, f5, f6, f7, f8, f9, f10, f11]; done) | (simp only [onA, *]; done)) ?_)
        | ((with_reducible show opC (hbox _ _) _); refine sl_box1 H (by first | exact rfl | (simp only [f0, f1, f2, f3, f4, f5, f6, f7, f8, f9, f10, f11]; done) | (simp only [onA, *]; done)) (by first | exact rfl | (simp only [f0, f1, f2, f3, f4, f5, f6, f7, f8, f9, f10, f11]; done) | (simp only [onA, *]; done)) ?_)
        | ((with_reducible show opC (hbox _ _) _); refine sl_boxA H (by first | exact rfl | (simp only [f0, f1, f2, f3, f4, f5, f6, f7, f8, f9, f10, f11]; done) | (simp only [onA, *]; done)) ?_)
        | refine hwp_draw mixed rfl ?_
        | with_reducible intro hy

      refine ⟨rfl, .nilSlice, w2, ?_⟩
      have H := dk_put (s' := s2) hk H.p2.t.p3.t.p3.t.p6.p2.p6.p6.p4.p7.p6.p7
      refine desk_open.2 ⟨va, vb, vo', vw', lt, x, ?_⟩
      rw [dkA_set hk, dkB_set hk, List.length_set]
      exact H.p5.p5.p5.p5.p5
    | some it =>
      obtain ⟨ik, itx, ibd⟩ := it
      simp only [hnx, itB] at hbd
      have eqb1 : (itx == itx) = true := by simp
      have eqb2 : (ibd == ibd) = true := by simp
      repeat' first
        | ((with_reducible show Need _); refine need_of ?_; (first | have f0 := Sat.pf (H) | have f0 := trivial); (first | have f1 := Sat.pf (H.t) | have f1 := trivial); (first | have f2 := Sat.pf (H.t.t) | have f2 := trivial); (first | have f3 := Sat.pf (H.t.t.t) | have f3 := trivial); (first | have f4 := Sat.pf (H.t.t.t.t) | have f4 := trivial); (first | have f5 := Sat.pf (H.t.t.t.t.t) | have f5 := trivial); (first | have f6 := Sat.pf (H.t.t.t.t.t.t) | have f6 := trivial); (first | have f7 := Sat.pf (H.t.t.t.t.t.t.t) | have f7 := trivial); (first | have f8 := Sat.pf (H.t.t.t.t.t.t.t.t) | have f8 := trivial); (first | have f9 := Sat.pf (H.t.t.t.t.t.t.t.t.t) | have f9 := trivial); (first | have f10 := Sat.pf (H.t.t.t.t.t.t.t.t.t.t) | have f10 := trivial); (first | have f11 := Sat.pf (H.t.t.t.t.t.t.t.t.t.t.t) | have f11 := trivial); (first | have hqa2 := ldA _ _ (by with_reducible first | exact H | exact H.p1 | exact H.p2 | exact H.p3 | exact H.p4 | exact H.p5 | exact H.p6 | exact H.p7 | exact H.p8 | exact H.p9 | exact H.p10 | exact H.p11) | skip); (first | have hqb2 := ldB _ _ (by with_reducible first | exact H | exact H.p1 | exact H.p2 | exact H.p3 | exact H.p4 | exact H.p5 | exact H.p6 | exact H.p7 | exact H.p8 | exact H.p9 | exact H.p10 | exact H.p11) | skip))
        | simp -implicitDefEqProofs (disch := first | omega | decide | exact rfl | assumption | exact Nat.le_of_ble_eq_true rfl | exact One.c | exact One.o) only [vsA, vsB, eq_self, if_true, if_false, implies_true, false_implies, evp, HX.ev, Nat.reduceAdd, HOp.looks, Nat.reduceEqDiff, overw, Nat.reduceBEq, h13, hqa1, hqa2, hqb1, hqb2, va_loadA, va_ldA, o1, o2, o3, o4, eqb1, eqb2, vb_beql, Bool.and_self, ub13, f0, f1, f2, f3, f4, f5, f6, f7, f8, f9, f10, f11, frame0, List.replicate, Nat.sub]
        | (refine condK_cases (fun h => ?_) (fun h => ?_) <;> (try simp only [h]) <;> (try simp only [athA, ne_eq] at h) <;> (try (exfalso; omega)))
        | (refine guardK_cases (fun h => ?_) (fun h => ?_) <;> (try simp only [h]) <;> (try simp only [athA, ne_eq] at h) <;> (try (exfalso; omega)))
        | (refine dgK_cases (fun h => ?_) (fun h => ?_) <;> (try simp only [h]) <;> (try simp only [athA, ne_eq] at h) <;> (try (exfalso; omega)))
        | (clear H f0 f1 f2 f3 f4 f5 f6 f7 f8 f9 f10 f11; (with_reducible intro v2 hs H); (try simp only [setA, overw, Nat.reduceAdd] at H); refine need ?_)
        | ((with_reducible show actK _ (HAct.call (HX.cst (HV.func (Fn.func 26) _ _)) _) _ _ _ _ _); refine vcall_of ok26 rfl (next26 (p := e.p) (s := e.s) (by with_reducible first | exact H | exact H.p1 | exact H.p2 | exact H.p3 | exact H.p4 | exact H.p5 | exact H.p6 | exact H.p7 | exact H.p8 | exact H.p9 | exact H.p10 | exact H.p11) (fun _ h => G _ h.t.t.t.t.t.t.t) hb hst hsz hlf) ?_;  clear H f0 f1 f2 f3 f4 f5 f6 f7 f8 f9 f10 f11; rintro v hs ⟨w, rfl, H⟩; rw [hnx] at H; simp only [hnx, itV, itB] at H ⊢; have o1 := H.t.rdX.one; have o2 := H.t.rdX.cells; refine need ?_)
        | ((with_reducible show drK _ _ _ _ _ _ _ _ _ (some ⟨_, HAct.call (HX.cst (HV.func (Fn.func 26) _ _)) _, none⟩)); refine vdr_call ok26 rfl (next26 (p := e.p) (s := e.s) (by with_reducible first | exact H | exact H.p1 | exact H.p2 | exact H.p3 | exact H.p4 | exact H.p5 | exact H.p6 | exact H.p7 | exact H.p8 | exact H.p9 | exact H.p10 | exact H.p11) (fun _ h => G _ h.t.t.t.t.t.t.t) hb hst hsz hlf) ?_;  clear H f0 f1 f2 f3 f4 f5 f6 f7 f8 f9 f10 f11; rintro v hs ⟨w, rfl, H⟩; rw [hnx] at H; simp only [hnx, itV, itB] at H ⊢; have o1 := H.t.rdX.one; have o2 := H.t.rdX.cells; refine need ?_)
        | ((with_reducible show actK _ (HAct.call (HX.cst (HV.func (Fn.func 34) _ _)) _) _ _ _ _ _); refine vcall_of ok34 rfl (rnext34 (p := e.q) (s := e.s) (by with_reducible first | exact H | exact H.p1 | exact H.p2 | exact H.p3 | exact H.p4 | exact H.p5 | exact H.p6 | exact H.p7 | exact H.p8 | exact H.p9 | exact H.p10 | exact H.p11) hb hst hsz hlf) ?_;  clear H f0 f1 f2 f3 f4 f5 f6 f7 f8 f9 f10 f11; rintro v hs ⟨w3, rfl, H⟩; rw [hnx] at H; simp only [hnx, itV, itB] at H ⊢; have o3 := H.t.rd.one; have o4 := H.t.rd.cells; refine need ?_)
        | ((with_reducible show drK _ _ _ _ _ _ _ _ _ (some ⟨_, HAct.call (HX.cst (HV.func (Fn.func 34) _ _)) _, none⟩)); refine vdr_call ok34 rfl (rnext34 (p := e.q) (s := e.s) (by with_reducible first | exact H | exact H.p1 | exact H.p2 | exact H.p3 | exact H.p4 | exact H.p5 | exact H.p6 | exact H.p7 | exact H.p8 | exact H.p9 | exact H.p10 | exact H.p11) hb hst hsz hlf) ?_;  clear H f0 f1 f2 f3 f4 f5 f6 f7 f8 f9 f10 f11; rintro v hs ⟨w3, rfl, H⟩; rw [hnx] at H; simp only [hnx, itV, itB] at H ⊢; have o3 := H.t.rd.one; have o4 := H.t.rd.cells; refine need ?_)
        | ((with_reducible show actK _ (HAct.call (HX.cst (HV.func (Fn.func 35) _ _)) _) _ _ _ _ _); refine vcall_of ok35 rfl (keep35 (v := w) (bs := ibd) H.p11.p11.p10.p10.p8.p8.p8.p8.p8.p11.p10.p11 hn hbd) ?_;  clear H f0 f1 f2 f3 f4 f5 f6 f7 f8 f9 f10 f11; rintro _ hs ⟨vo', vw', w2, H⟩; have o1 := o1; refine need ?_)
        | ((with_reducible show drK _ _ _ _ _ _ _ _ _ (some ⟨_, HAct.call (HX.cst (HV.func (Fn.func 35) _ _)) _, none⟩)); refine vdr_call ok35 rfl (keep35 (v := w) (bs := ibd) H.p11.p11.p10.p10.p8.p8.p8.p8.p8.p11.p10.p11 hn hbd) ?_;  clear H f0 f1 f2 f3 f4 f5 f6 f7 f8 f9 f10 f11; rintro _ hs ⟨vo', vw', w2, H⟩; have o1 := o1; refine need ?_)
        | ((with_reducible show actK _ (HAct.call (HX.cst (HV.func (Fn.func 21) _ _)) _) _ _ _ _ _); refine vcall_of ok21 rfl (alike21 (x := ibd) (y := ibd) H (fun _ h => (bk_rd h.t (by simp : (E1 ++ (E2 ++ [⟨w, w2, ibd⟩]))[E1.length + E2.length]? = some ⟨w, w2, ibd⟩)).1) (fun _ h => Sat.rd h.p4) (by omega)) ?_;  clear H f0 f1 f2 f3 f4 f5 f6 f7 f8 f9 f10 f11; rintro v hs ⟨rfl, H⟩; refine need ?_)
        | ((with_reducible show drK _ _ _ _ _ _ _ _ _ (some ⟨_, HAct.call (HX.cst (HV.func (Fn.func 21) _ _)) _, none⟩)); refine vdr_call ok21 rfl (alike21 (x := ibd) (y := ibd) H (fun _ h => (bk_rd h.t (by simp : (E1 ++ (E2 ++ [⟨w, w2, ibd⟩]))[E1.length + E2.length]? = some ⟨w, w2, ibd⟩)).1) (fun _ h => Sat.rd h.p4) (by omega)) ?_;  clear H f0 f1 f2 f3 f4 f5 f6 f7 f8 f9 f10 f11; rintro v hs ⟨rfl, H⟩; refine need ?_)
        | refine opC_K ?_
        | refine opC_D ?_
        | ((with_reducible show opC (unit (hstore _ _ _ _)) _); refine sl_store1 (by with_reducible first | exact H | exact H.p1 | exact H.p2 | exact H.p3 | exact H.p4 | exact H.p5 | exact H.p6 | exact H.p7 | exact H.p8 | exact H.p9 | exact H.p10 | exact H.p11) (Nat.le_of_ble_eq_true rfl) (by first | exact rfl | (simp only [f0, f1, f2, f3, f4, f5, f6, f7, f8, f9, f10, f11]; done) | (simp only [onA, *]; done)) (by first | exact rfl | (simp only [f0, f1, f2, f3, f4, f5, f6, f7, f8, f9, f10, f11]; done) | (simp only [onA, *]; done)) ?_)
        | ((with_reducible show opC (unit (hstore _ _ _ _)) _); refine sl_storeN (by with_reducible first | exact H | exact H.p1 | exact H.p2 | exact H.p3 | exact H.p4 | exact H.p5 | exact H.p6 | exact H.p7 | exact H.p8 | exact H.p9 | exact H.p10 | exact H.p11) rfl (Nat.le_of_ble_eq_true rfl) (by first | exact rfl | (simp only [f0, f1, f2, f3, f4, f5, f6, f7, f8, f9, f10, f11]; done) | (simp only [onA, *]; done)) ?_)
        | ((with_reducible show opC (hbox _ _) _); refine sl_box1 H (by first | exact rfl | (simp only [f0, f1, f2, f3, f4, f5, f6, f7, f8, f9, f10, f11]; done) | (simp only [onA, *]; done)) (by first | exact rfl | (simp only [f0, f1, f2, f3, f4, f5, f6, f7, f8, f9, f10, f11]; done) | (simp only [onA, *]; done)) ?_)
        | ((with_reducible show opC (hbox _ _) _); refine sl_boxA H (by first | exact rfl | (simp only [f0, f1, f2, f3, f4, f5, f6, f7, f8, f9, f10, f11]; done) | (simp only [onA, *]; done)) ?_)
        | refine hwp_draw mixed rfl ?_
        | with_reducible intro hy

      refine ⟨w, w2, ?_⟩
      have H := dk_put (s' := s2) hk H.p2.t.p3.t.p3.t.p6.p2.p6.p6.p4.p7.p6.p7
      refine desk_open.2 ⟨va, vb, vo', vw', lt, x, ?_⟩
      rw [dkA_set hk, dkB_set hk, List.length_set]
      exact H.p5.p5.p5.p5.p5
end Go.Proofs.Ytccfcegmaejlnaa
