/-
  Proved: the law DigitsPrints (stintlaw01) returns true at every number (the tied card).
-/
import Derived.Test.YteedidafobfijaaDoorL
import Derived.Test.YteedidafobfijaaDoorR
import Derived.Test.YteedidafobfijaaDoorHLItoa
import Derived.Shelf.LaysM
import Derived.Shelf.Strconv.Itoa3
namespace Go.Proofs
open Go.Shelf
def Tryd.laysM171_ren : Go.Shelf.Ren := ⟨fun | 171 => 24 | 243 => 32 | 246 => 37 | 283 => 43 | 284 => 44 | 285 => 45 | 286 => 46 | 129 => 54 | 317 => 53 | 318 => 55 | 319 => 56 | 320 => 57 | 337 => 63 | 338 => 64 | n => n, fun | 3 => 3 | 9 => 9 | 2 => 2 | 4 => 4 | 171 => 61 | 0 => 0 | 53 => 62 | 37 => 42 | 5 => 5 | 173 => 65 | 212 => 76 | 51 => 77 | 20 => 20 | 213 => 78 | 46 => 79 | 232 => 88 | 233 => 89 | n => n, fun | 17 => 0 | 18 => 4 | 19 => 5 | n => n⟩
theorem Tryd.laysM171 : Go.Proofs.LaysM.n171 Tryd.prog Tryd.laysM171_ren :=
  { mixed := by kernel_rfl
    f129 := Tryd.func54.trans (congrArg some (by kernel_rfl))
    f171 := Tryd.func24.trans (congrArg some (by kernel_rfl))
    f243 := Tryd.func32.trans (congrArg some (by kernel_rfl))
    f246 := Tryd.func37.trans (congrArg some (by kernel_rfl))
    f283 := Tryd.func43.trans (congrArg some (by kernel_rfl))
    f284 := Tryd.func44.trans (congrArg some (by kernel_rfl))
    f285 := Tryd.func45.trans (congrArg some (by kernel_rfl))
    f286 := Tryd.func46.trans (congrArg some (by kernel_rfl))
    f317 := Tryd.func53.trans (congrArg some (by kernel_rfl))
    f318 := Tryd.func55.trans (congrArg some (by kernel_rfl))
    f319 := Tryd.func56.trans (congrArg some (by kernel_rfl))
    f320 := Tryd.func57.trans (congrArg some (by kernel_rfl))
    f337 := Tryd.func63.trans (congrArg some (by kernel_rfl))
    f338 := Tryd.func64.trans (congrArg some (by kernel_rfl))
    t0 := Tryd.underlying0
    a0 := Tryd.isAgg0
    z0 := Tryd.sizeOf0
    v0 := Tryd.zeroValue0
    t2 := Tryd.underlying2
    a2 := Tryd.isAgg2
    z2 := Tryd.sizeOf2
    v2 := Tryd.zeroValue2
    t3 := Tryd.underlying3
    a3 := Tryd.isAgg3
    z3 := Tryd.sizeOf3
    v3 := Tryd.zeroValue3
    t4 := Tryd.underlying4
    a4 := Tryd.isAgg4
    z4 := Tryd.sizeOf4
    v4 := Tryd.zeroValue4
    t5 := Tryd.underlying5
    a5 := Tryd.isAgg5
    z5 := Tryd.sizeOf5
    v5 := Tryd.zeroValue5
    t9 := Tryd.underlying9
    a9 := Tryd.isAgg9
    z9 := Tryd.sizeOf9
    v9 := Tryd.zeroValue9
    t20 := Tryd.underlying20
    a20 := Tryd.isAgg20
    z20 := Tryd.sizeOf20
    v20 := Tryd.zeroValue20
    t37 := Tryd.underlying42
    a37 := Tryd.isAgg42
    z37 := Tryd.sizeOf42
    v37 := Tryd.zeroValue42
    t46 := Tryd.underlying79
    a46 := Tryd.isAgg79
    z46 := Tryd.sizeOf79
    v46 := Tryd.zeroValue79
    t51 := Tryd.underlying77
    a51 := Tryd.isAgg77
    z51 := Tryd.sizeOf77
    v51 := Tryd.zeroValue77
    t53 := Tryd.underlying62
    a53 := Tryd.isAgg62
    z53 := Tryd.sizeOf62
    v53 := Tryd.zeroValue62
    t171 := Tryd.underlying61
    a171 := Tryd.isAgg61
    z171 := Tryd.sizeOf61
    v171 := Tryd.zeroValue61
    t173 := Tryd.underlying65
    a173 := Tryd.isAgg65
    z173 := Tryd.sizeOf65
    v173 := Tryd.zeroValue65
    t212 := Tryd.underlying76
    a212 := Tryd.isAgg76
    z212 := Tryd.sizeOf76
    v212 := Tryd.zeroValue76
    t213 := Tryd.underlying78
    a213 := Tryd.isAgg78
    z213 := Tryd.sizeOf78
    t232 := Tryd.underlying88
    a232 := Tryd.isAgg88
    z232 := Tryd.sizeOf88
    v232 := Tryd.zeroValue88
    t233 := Tryd.underlying89
    a233 := Tryd.isAgg89
    z233 := Tryd.sizeOf89
    v233 := Tryd.zeroValue89
    g17 := by kernel_rfl
    g18 := by kernel_rfl
    g19 := by kernel_rfl
    i0 := by kernel_rfl
    i2 := by kernel_rfl
    i3 := by kernel_rfl
    i4 := by kernel_rfl
    i5 := by kernel_rfl
    i9 := by kernel_rfl
    i20 := by kernel_rfl
    i37 := by kernel_rfl
    i46 := by kernel_rfl
    i51 := by kernel_rfl
    i53 := by kernel_rfl
    i171 := by kernel_rfl
    i173 := by kernel_rfl
    i212 := by kernel_rfl
    i232 := by kernel_rfl
    i233 := by kernel_rfl
    m17 := by kernel_rfl
    m18 := by kernel_rfl
    m19 := by kernel_rfl }
end Go.Proofs
namespace Go.Proofs.YteedidafobfijaaDoor
open Go Go.HL Go.ChangeShapes Go.WideShapes Go.ChangeAt Go.ChangeMaps Go.RowKit Go.Shelf
namespace W
set_option maxRecDepth 100000
set_option maxHeartbeats 4000000
set_option linter.unusedSimpArgs false

def hs1 : HS := [some (.cells 1 (pow.map (HV.int .u64)) true false []), some (.gpin 0 0), some (.gtab 0 .u64 pow)]

theorem emb_tab3 {P : Program} {w : World} {name : String} {k : IntKind} {zs : List Int} {g : Nat} (hg : P.globalNamed name = some g) (h : Lib.TabIs P w name k zs) :
    Emb [⟨g, 0, zs.length, 1⟩, ⟨g, 0, 1, 1⟩, ⟨g, 0, 1, 1⟩] [some (.cells 1 (zs.map (HV.int k)) true false []), some (.gpin g 0), some (.gtab g k zs)] w := by
  have hb : ∃ t fz, w.heap[g]? = some (.cells (zs.map fun z => Value.int k z).toArray t fz) := by
    unfold Lib.TabIs at h
    simp only [World.var?, hg, Option.bind_some] at h
    split at h
    · rename_i cs t fz hc
      simp at h; subst h
      exact ⟨t, fz, by simpa using hc⟩
    · simp at h
  obtain ⟨t, fz, hb⟩ := hb
  refine ⟨rfl, fun i e b h1 h2 => ?_, fun i j e e' b b' _ _ _ _ h4 _ hro => ?_⟩
  · have hi : i = 0 ∨ i = 1 ∨ i = 2 := by have := lt_of_get h1; simp at this; omega
    rcases hi with rfl | rfl | rfl
    · simp at h1 h2; subst h1 h2
      refine ⟨rfl, _, t, fz, hb, fun h => by simp at h, by simp, by simp, fun i x hx => ?_⟩
      rw [List.getElem?_map, Option.map_eq_some_iff] at hx
      obtain ⟨z, hz, rfl⟩ := hx
      exact ⟨.int k z, by simp [hz], rfl, rfl⟩
    · simp at h1 h2; subst h1 h2
      exact ⟨rfl, rfl, ⟨_, hb⟩, _, rfl, rfl, rfl⟩
    · simp at h1 h2; subst h1 h2
      exact ⟨rfl, rfl, t, fz, hb⟩
  · have hj : j = 0 ∨ j = 1 ∨ j = 2 := by have := lt_of_get h4; simp at this; omega
    rcases hj with rfl | rfl | rfl
    · simp at h4; subst h4; simp [HB.ro] at hro
    · simp at h4; subst h4; simp [HB.ro] at hro
    · simp at h4; subst h4; simp [HB.ro] at hro

theorem ro1 : ∀ (i : Nat) (b : HB), hs1[i]? = some (some b) → b.ro = true := by
  intro i b h
  have hi : i = 0 ∨ i = 1 ∨ i = 2 := by have := lt_of_get h; simp [hs1] at this; omega
  rcases hi with rfl | rfl | rfl <;> (simp [hs1] at h; subst h; rfl)
theorem run10' : ((hcall F X 300 10 [] hs1).map fun x => HV.eqb x.1 (.bool true)) = some true := by kernel_rfl
theorem shown10' : HC Tryd.prog 10 [] hs1 fun v hs' => v = .bool true ∧ hs' = hs1 :=
  HC.frameRo (R := fun v => v = .bool true) ro1 (fun v h => by subst h; rfl) (hcall_bool mixed F_ok X_ok rfl run10')
theorem ok13 : okF Tryd.prog 13 := ⟨_, Tryd.func13, by kernel_rfl, by kernel_rfl⟩
theorem ok14 : okF Tryd.prog 14 := ⟨_, Tryd.func14, by kernel_rfl, by kernel_rfl⟩
theorem ok24 : okF Tryd.prog 24 := ⟨_, Tryd.func24, by kernel_rfl, by kernel_rfl⟩
theorem itoa24 (n : Int) (h0 : -9223372036854775808 ≤ n) (h1 : n ≤ 9223372036854775807) : HCall Tryd.prog 24 [.int .i64 n] hs1 fun v hs' => v = .str (Lib.itoa n) ∧ hs' = hs1 :=
  xItoa_sound (g := 0) ok24 (by kernel_rfl)
    (fun n w h0 h1 ht => (Any.strconv_Itoa Tryd.laysM171 n h0 h1 w ht).mono fun e w' ⟨he, k, os, hw⟩ => ⟨he, hw ▸ Lib.below_grow _ w (Nat.le_refl _) k os⟩)
    (by
      have hc : hasTab hs1 0 .u64 Lib.pow10Tab = true ∧ -9223372036854775808 ≤ n ∧ n ≤ 9223372036854775807 := ⟨by kernel_rfl, h0, h1⟩
      show (if _ then _ else _) = _
      rw [if_pos hc])

def ansPr (n : Int) : List UInt8 := if n < 0 then [] else Lib.decDigits n.toNat
theorem ansPr_neg {n : Int} (h : n < 0) : ansPr n = [] := by rw [ansPr, if_pos h]
theorem ansPr_pos {n : Int} (h : ¬ n < 0) : ansPr n = Lib.itoa n := by rw [ansPr, if_neg h, Lib.itoa, if_neg h]

theorem print13 (n : Int) (h0 : -9223372036854775808 ≤ n) (h1 : n ≤ 9223372036854775807) : HC Tryd.prog 13 [.int .i64 n] hs1 fun v hs' => v = .str (ansPr n) ∧ hs' = hs1 := by
  refine HC.body Tryd.func13 P3.c13 ?_
  refine HW.seq (HW.region (HL.op rfl (HL.nil ?_)))
  try simp only [killFr, List.foldl, put, frame0, P3.h13, List.length, List.replicate, Nat.sub, List.append, List.set, HX.ev, List.getElem?_cons_succ, List.getElem?_cons_zero, Option.getD_some, HAppend.hAppend, Append.append]
  refine HW.seq (HW.seq (HW.region ?_))
  refine HL.op rfl ?_
  try simp only [killFr, List.foldl, put, frame0, P3.h13, List.length, List.replicate, Nat.sub, List.append, List.set, HX.ev, List.getElem?_cons_succ, List.getElem?_cons_zero, Option.getD_some, HAppend.hAppend, Append.append]
  refine HL.op (v := .bool (decide (n < 0))) rfl (HL.nil ?_)
  try simp only [killFr, List.foldl, put, frame0, P3.h13, List.length, List.replicate, Nat.sub, List.append, List.set, HX.ev, List.getElem?_cons_succ, List.getElem?_cons_zero, Option.getD_some, HAppend.hAppend, Append.append]
  show HW Tryd.prog _ _ _ _
  cases hn : decide (n < 0) with
  | true =>
    have hn := of_decide_eq_true hn
    refine HW.cond (t := true) rfl (HW.seq (HW.region ?_))
    refine HL.op rfl (HL.nil (HW.ret ?_))
    try simp only [killFr, List.foldl, put, frame0, P3.h13, List.length, List.replicate, Nat.sub, List.append, List.set, HX.ev, List.getElem?_cons_succ, List.getElem?_cons_zero, Option.getD_some, HAppend.hAppend, Append.append]
    exact ⟨rfl, _, rfl, congrArg HV.str (ansPr_neg hn).symm, rfl⟩
  | false =>
    have hn := of_decide_eq_false hn
    refine HW.cond (t := false) rfl (HW.skip ?_)
    show HW Tryd.prog _ _ _ _
    refine HW.seq (HW.region ?_)
    refine HL.op rfl ?_
    try simp only [killFr, List.foldl, put, frame0, P3.h13, List.length, List.replicate, Nat.sub, List.append, List.set, HX.ev, List.getElem?_cons_succ, List.getElem?_cons_zero, Option.getD_some, HAppend.hAppend, Append.append]
    refine HL.call (g := 24) (xs := [.int .i64 n]) rfl ((itoa24 n h0 h1).mono ?_)
    rintro v hs' ⟨rfl, rfl⟩
    try simp only [killFr, List.foldl, put, frame0, P3.h13, List.length, List.replicate, Nat.sub, List.append, List.set, HX.ev, List.getElem?_cons_succ, List.getElem?_cons_zero, Option.getD_some, HAppend.hAppend, Append.append]
    refine HL.op rfl (HL.nil (HW.ret ?_))
    try simp only [killFr, List.foldl, put, frame0, P3.h13, List.length, List.replicate, Nat.sub, List.append, List.set, HX.ev, List.getElem?_cons_succ, List.getElem?_cons_zero, Option.getD_some, HAppend.hAppend, Append.append]
    exact ⟨rfl, _, rfl, congrArg HV.str (ansPr_pos hn).symm, trivial⟩
theorem neg14 (n : Int) (hn : n < 0) : HC Tryd.prog 14 [.int .i64 n] [] fun v _ => v = .str [] := by
  refine HC.body Tryd.func14 P3.c14 ?_
  refine HW.seq (HW.region (HL.op rfl (HL.nil ?_)))
  try simp only [killFr, List.foldl, put, frame0, P3.h14, List.length, List.replicate, Nat.sub, List.append, List.set, HX.ev, List.getElem?_cons_succ, List.getElem?_cons_zero, Option.getD_some, HAppend.hAppend, Append.append]
  refine HW.seq (HW.seq (HW.region ?_))
  refine HL.op rfl ?_
  try simp only [killFr, List.foldl, put, frame0, P3.h14, List.length, List.replicate, Nat.sub, List.append, List.set, HX.ev, List.getElem?_cons_succ, List.getElem?_cons_zero, Option.getD_some, HAppend.hAppend, Append.append]
  refine HL.op (v := .bool true) (congrArg (fun b => some (HV.bool b, _)) (decide_eq_true hn)) (HL.nil ?_)
  try simp only [killFr, List.foldl, put, frame0, P3.h14, List.length, List.replicate, Nat.sub, List.append, List.set, HX.ev, List.getElem?_cons_succ, List.getElem?_cons_zero, Option.getD_some, HAppend.hAppend, Append.append]
  show HW Tryd.prog _ _ _ _
  refine HW.cond (t := true) rfl (HW.seq (HW.region ?_))
  refine HL.op rfl (HL.nil (HW.ret ?_))
  try simp only [killFr, List.foldl, put, frame0, P3.h14, List.length, List.replicate, Nat.sub, List.append, List.set, HX.ev, List.getElem?_cons_succ, List.getElem?_cons_zero, Option.getD_some, HAppend.hAppend, Append.append]
  exact ⟨rfl, _, rfl, rfl⟩
theorem ref14 (n : Int) (h1 : n ≤ 9223372036854775807) (hs : HS) : HC Tryd.prog 14 [.int .i64 n] hs fun v hs' => v = .str (ansPr n) ∧ hs' = hs := by
  refine HC.frame (R := fun v => v = .str (ansPr n)) rfl (fun v h => by subst h; rfl) ?_
  by_cases hn : n < 0
  · rw [ansPr, if_pos hn]
    exact neg14 n hn
  · rw [ansPr, if_neg hn]
    have h := print14 n.toNat (by omega)
    rw [Int.toNat_of_nonneg (by omega)] at h
    exact h
theorem eqstr (s : List UInt8) : hbin .eql (some .str) (.str s) (.str s) = some (.bool true) := by
  have h0 : hbin .eql (some .str) (.str s) (.str s) = some (.bool (s == s)) := rfl
  rw [h0, beq_self_eq_true]

theorem law4 (n : Int) (h0 : -9223372036854775808 ≤ n) (h1 : n ≤ 9223372036854775807) : HC Tryd.prog 4 [.int .i64 n] hs1 fun v _ => v = .bool true := by
  refine HC.body Tryd.func4 P3.c4 ?_
  refine HW.seq (HW.region (HL.op rfl (HL.nil ?_)))
  try simp only [killFr, List.foldl, put, frame0, P3.h4, List.length, List.replicate, Nat.sub, List.append, List.set, HX.ev, List.getElem?_cons_succ, List.getElem?_cons_zero, Option.getD_some, HAppend.hAppend, Append.append]
  refine HW.seq (HW.region ?_)
  refine HL.call (g := 10) (xs := []) rfl (HC.call ok10 shown10' ?_)
  rintro v hs' ⟨rfl, rfl⟩
  try simp only [killFr, List.foldl, put, frame0, P3.h4, List.length, List.replicate, Nat.sub, List.append, List.set, HX.ev, List.getElem?_cons_succ, List.getElem?_cons_zero, Option.getD_some, HAppend.hAppend, Append.append]
  refine HL.op rfl (HL.nil ?_)
  try simp only [killFr, List.foldl, put, frame0, P3.h4, List.length, List.replicate, Nat.sub, List.append, List.set, HX.ev, List.getElem?_cons_succ, List.getElem?_cons_zero, Option.getD_some, HAppend.hAppend, Append.append]
  refine HW.seq (HW.region ?_)
  refine HL.op rfl ?_
  try simp only [killFr, List.foldl, put, frame0, P3.h4, List.length, List.replicate, Nat.sub, List.append, List.set, HX.ev, List.getElem?_cons_succ, List.getElem?_cons_zero, Option.getD_some, HAppend.hAppend, Append.append]
  refine HL.op rfl ?_
  try simp only [killFr, List.foldl, put, frame0, P3.h4, List.length, List.replicate, Nat.sub, List.append, List.set, HX.ev, List.getElem?_cons_succ, List.getElem?_cons_zero, Option.getD_some, HAppend.hAppend, Append.append]
  refine HL.opIf rfl rfl ?_
  try simp only [killFr, List.foldl, put, frame0, P3.h4, List.length, List.replicate, Nat.sub, List.append, List.set, HX.ev, List.getElem?_cons_succ, List.getElem?_cons_zero, Option.getD_some, HAppend.hAppend, Append.append]
  refine HL.callIf rfl (g := 13) (xs := [.int .i64 n]) rfl (HC.call ok13 (print13 n h0 h1) ?_)
  rintro v hs2 ⟨rfl, rfl⟩
  try simp only [killFr, List.foldl, put, frame0, P3.h4, List.length, List.replicate, Nat.sub, List.append, List.set, HX.ev, List.getElem?_cons_succ, List.getElem?_cons_zero, Option.getD_some, HAppend.hAppend, Append.append]
  refine HL.opIf rfl rfl ?_
  try simp only [killFr, List.foldl, put, frame0, P3.h4, List.length, List.replicate, Nat.sub, List.append, List.set, HX.ev, List.getElem?_cons_succ, List.getElem?_cons_zero, Option.getD_some, HAppend.hAppend, Append.append]
  refine HL.callIf rfl (g := 14) (xs := [.int .i64 n]) rfl (HC.call ok14 (ref14 n h1 hs1) ?_)
  rintro v hs3 ⟨rfl, rfl⟩
  try simp only [killFr, List.foldl, put, frame0, P3.h4, List.length, List.replicate, Nat.sub, List.append, List.set, HX.ev, List.getElem?_cons_succ, List.getElem?_cons_zero, Option.getD_some, HAppend.hAppend, Append.append]
  refine HL.opIf (v := .bool true) rfl (congrArg (same _) (eqstr _)) ?_
  try simp only [killFr, List.foldl, put, frame0, P3.h4, List.length, List.replicate, Nat.sub, List.append, List.set, HX.ev, List.getElem?_cons_succ, List.getElem?_cons_zero, Option.getD_some, HAppend.hAppend, Append.append]
  refine HL.op (pickT rfl rfl) ?_
  try simp only [killFr, List.foldl, put, frame0, P3.h4, List.length, List.replicate, Nat.sub, List.append, List.set, HX.ev, List.getElem?_cons_succ, List.getElem?_cons_zero, Option.getD_some, HAppend.hAppend, Append.append]
  refine HL.op rfl (HL.nil ?_)
  try simp only [killFr, List.foldl, put, frame0, P3.h4, List.length, List.replicate, Nat.sub, List.append, List.set, HX.ev, List.getElem?_cons_succ, List.getElem?_cons_zero, Option.getD_some, HAppend.hAppend, Append.append]
  refine HW.ret ?_
  exact ⟨rfl, _, rfl, rfl⟩

theorem pow_of_laidR {W : World} (h : laidMetH Tryd.prog Rows.digitsPrintsRow.laid W) : Lib.TabIs Tryd.prog W "internal/strconv.uint64pow10" .u64 pow := by
  rw [MakeChecks.laidMetH_plain _ _ _ (by kernel_rfl)] at h
  have h2 : laidMet Tryd.prog (("internal/strconv.uint64pow10", Lib.tabData .u64 pow) :: [("unicode/utf8.acceptRanges", Rows.laid_unicode_utf8_acceptRanges), ("unicode/utf8.first", Rows.laid_unicode_utf8_first)]) W := h.tail.tail
  exact Lib.tabIs_of_head (g := 0) (by kernel_rfl) (by kernel_rfl) Tryd.underlying76 Tryd.underlying62 (by kernel_rfl) (by kernel_rfl) h2

theorem prints_lifted (os : Os) (started : os.Started) (H : Type) (enc : TypeId × Value → H) :
    ReturnsInHanded {} Tryd.checked os 4 .any (fun w args => (Rows.digitsPrintsSpec.pre enc Tryd.prog Tryd.f4 [] false w args ∧ laidMetH Tryd.prog Rows.digitsPrintsRow.laid w) ∧ sizedMet enc Tryd.prog Tryd.f4 (OpenSpec.ofChange Rows.digitsPrintsSpec) false w args)
      (Rows.digitsPrintsSpec.post enc Tryd.prog Tryd.f4 false true false false) := by
  refine returnsInHanded_of_change_and (C := Tryd.checked) (X := fun w _ => laidMetH Tryd.prog Rows.digitsPrintsRow.laid w) (fun _ _ _ hh h => h.of_heap hh) own started (by kernel_rfl) Tryd.func4
    (ChangeSpec.witness_shaped (enc := enc) (C := Tryd.checked) (os := os) (X := fun w _ => laidMetH Tryd.prog Rows.digitsPrintsRow.laid w) false (World.laidAll Tryd.prog os Rows.digitsPrintsRow.laid) #[.int .i64 0] 8 (World.laidAll_os _ _ _)
      (World.shaped_of_ZipB (by kernel_rfl) (by kernel_rfl)) (by kernel_rfl) (by kernel_rfl) (by kernel_rfl)
      (by rw [MakeChecks.laidMetH_plain _ _ _ (by kernel_rfl)]; exact laidMet_laidAll _ (by kernel_rfl) (by kernel_rfl))) ?_
  intro W base args ds gs before hval0 hW _ _ hL _
  have hval : ∀ (j : Nat) t v, Tryd.f4.params[j]? = some t → args[j]? = some v → Value.okWide Tryd.prog W .any base t v := hval0
  have hW' := hW
  obtain ⟨p, q, hA0, hV, rfl, hfz, hnd⟩ := hW
  have hA : DataW.TrodAll enc Tryd.prog W 0 (fun _ => true) true Tryd.f4.params.toList args.toList ds p := hA0
  rw [Tryd.params4] at hA hval
  obtain ⟨v0, d0, rfl, rfl, h0⟩ := trodAll_one hA
  obtain ⟨m, rfl, rfl, rfl, hwm⟩ := open_int Tryd.underlying3 (hval 0 3 v0 rfl rfl) h0
  have hm : -9223372036854775808 ≤ m ∧ m ≤ 9223372036854775807 := by
    have h2 : (decide (IntKind.i64.min ≤ m) && decide (m ≤ IntKind.i64.max)) = true := hwm
    rw [Bool.and_eq_true, decide_eq_true_eq, decide_eq_true_eq] at h2
    have h3 : IntKind.i64.max = 9223372036854775807 := by decide
    have h4 : IntKind.i64.min = -9223372036854775808 := by decide
    rw [h3, h4] at h2
    exact h2
  obtain ⟨rfl, rfl⟩ := trodVars_none hV
  have hR : RelL [⟨0, 0, pow.length, 1⟩, ⟨0, 0, 1, 1⟩, ⟨0, 0, 1, 1⟩] [HV.int .i64 m] [Value.int .i64 m] := by
    simp only [RelL, Rel]
    exact ⟨_, _, rfl, rfl, rfl⟩
  refine (HC.below (emb_tab3 (by kernel_rfl) (pow_of_laidR hL)) hR (fun i c h => ?_) (law4 m hm.1 hm.2)).mono fun e W' ⟨he, hb⟩ => ?_
  · exact ro1 i c h
  subst he
  exact ⟨_, rfl, law_post (tb := 4) laidOut rfl Tryd.underlying4 (by kernel_rfl) (by kernel_rfl) hW' rfl hb⟩

theorem digitsPrints_holds : Rows.DigitsPrintsSaid :=
  OpenClaim.holds_of_wide 4 Tryd.f4 rfl rfl rfl rfl rfl rfl rfl ⟨rfl, rfl, rfl, rfl, rfl⟩ rfl rfl rfl rfl rfl (by kernel_rfl) Tryd.func4 (by kernel_rfl)
    (of_decide_eq_true (by kernel_rfl)) (by unfold Func.isWrapper; first | (rw [if_pos (by decide +kernel)]; kernel_rfl) | (rw [if_neg (by decide +kernel)]; exact ⟨rfl, rfl⟩))
    (fun os started H enc _ => prints_lifted os started H enc)
theorem digitsPrints_card : Rows.DigitsPrintsCardSaid :=
  Claim7.holds_tied_plain_at .later [] [.data, .data, .data, .data, .pinned] true (true, "292aa59d8ee6bf52d4ffcf097a31faf6b554d06dee12e25551358aaa0ec2dfd0") false
    digitsPrints_holds (fun _ h => by cases h) (by kernel_rfl) (fun _ h => by cases h) digitsPrints_row_tie rfl ⟨rfl, rfl⟩ (by kernel_rfl) rfl
    (fun f fn hf hfn => by
      obtain rfl : f = 4 := Option.some.inj ((show Tryd.prog.funcNamed "stint/stintlaw01.DigitsPrints" = some 4 by kernel_rfl).symm.trans hf) |>.symm
      obtain rfl : fn = Tryd.f4 := (Option.some.inj (Tryd.func4.symm.trans hfn)).symm
      exact ⟨by kernel_rfl, fun j t ht => by
        rw [Tryd.params4] at ht
        have hm : t ∈ [3] := by simpa using Array.mem_of_getElem? ht
        have hall : ([3].all fun u => !Tryd.prog.wantsStandIn u) = true := by kernel_rfl
        exact (show Tryd.prog.wantsStandIn t = false by simpa using List.all_eq_true.1 hall t hm)⟩)
    (by kernel_rfl)
#print axioms digitsPrints_card
end W
end Go.Proofs.YteedidafobfijaaDoor
