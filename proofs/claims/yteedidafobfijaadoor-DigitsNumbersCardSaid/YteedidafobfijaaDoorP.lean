/-
  digits.Parse and stintref01.Parse: what they answer at any text and bound (printed by a program of this claim's maker).
-/
import Derived.Test.YteedidafobfijaaDoorF2
import Derived.Test.YteedidafobfijaaDoorW
namespace Go.Proofs.YteedidafobfijaaDoor
open Go Go.HL
namespace W
set_option maxRecDepth 100000
set_option maxHeartbeats 4000000
set_option linter.unusedSimpArgs false

def stepP (M n : Nat) (c : UInt8) : Option Nat := if 48 ≤ c.toNat ∧ c.toNat ≤ 57 ∧ 10 * n + (c.toNat - 48) ≤ M then some (10 * n + (c.toNat - 48)) else none
def runP (M : Nat) : List UInt8 → Nat → Option Nat
  | [], n => some n
  | c :: r, n => match stepP M n c with
    | some m => runP M r m
    | none => none
def ansP : Option Nat → HV
  | some n => .tup [.int .i64 n, .bool true]
  | none => .tup [.int .i64 0, .bool false]
theorem runP_bad {M n i : Nat} {s : List UInt8} {c : UInt8} (hc : s[i]? = some c) (h : stepP M n c = none) : runP M (s.drop i) n = none := by
  have hlt := lt_of_get hc
  rw [List.getElem?_eq_getElem hlt] at hc
  rw [List.drop_eq_getElem_cons hlt, Option.some.inj hc]
  simp [runP, h]
theorem runP_ok {M n m i : Nat} {s : List UInt8} {c : UInt8} (hc : s[i]? = some c) (h : stepP M n c = some m) : runP M (s.drop i) n = runP M (s.drop (i + 1)) m := by
  have hlt := lt_of_get hc
  rw [List.getElem?_eq_getElem hlt] at hc
  rw [List.drop_eq_getElem_cons hlt, Option.some.inj hc]
  simp [runP, h]
theorem wr64 {x : Int} (h1 : -9223372036854775808 ≤ x) (h2 : x < 9223372036854775808) : wr .i64 x = x := by
  show (x + 9223372036854775808) % 18446744073709551616 - 9223372036854775808 = x
  omega
theorem hquo {a : Nat} (h : a < 9223372036854775808) : hbin .quo none (.int .i64 a) (.int .i64 10) = some (.int .i64 ((a / 10 : Nat) : Int)) := by
  have h0 : hbin .quo none (.int .i64 a) (.int .i64 10) = some (.int .i64 (wr .i64 ((a : Int).tdiv 10))) := rfl
  have h1 : (a : Int).tdiv 10 = ((a / 10 : Nat) : Int) := (Int.ofNat_tdiv a 10).symm
  rw [h0, h1, wr64 (by omega) (by omega)]
theorem hmul {a : Nat} (h : a * 10 < 9223372036854775808) : hbin .mul none (.int .i64 a) (.int .i64 10) = some (.int .i64 ((10 * a : Nat) : Int)) := by
  have h0 : hbin .mul none (.int .i64 a) (.int .i64 10) = some (.int .i64 (wr .i64 ((a : Int) * 10))) := rfl
  rw [h0, wr64 (by omega) (by omega)]
  congr 2; omega
theorem hmul' {a : Nat} (h : a * 10 < 9223372036854775808) : hbin .mul none (.int .i64 10) (.int .i64 a) = some (.int .i64 ((10 * a : Nat) : Int)) := by
  have h0 : hbin .mul none (.int .i64 10) (.int .i64 a) = some (.int .i64 (wr .i64 (10 * (a : Int)))) := rfl
  rw [h0, wr64 (by omega) (by omega)]
  congr 2
theorem hadd {a b : Nat} (h : a + b < 9223372036854775808) : hbin .add none (.int .i64 a) (.int .i64 b) = some (.int .i64 ((a + b : Nat) : Int)) := by
  have h0 : hbin .add none (.int .i64 a) (.int .i64 b) = some (.int .i64 (wr .i64 ((a : Int) + b))) := rfl
  rw [h0, wr64 (by omega) (by omega)]
  congr 2
theorem hsub {a b : Nat} (ha : a < 9223372036854775808) (hb : b < 1000) : hbin .sub none (.int .i64 a) (.int .i64 b) = some (.int .i64 ((a : Int) - b)) := by
  have h0 : hbin .sub none (.int .i64 a) (.int .i64 b) = some (.int .i64 (wr .i64 ((a : Int) - b))) := rfl
  rw [h0, wr64 (by omega) (by omega)]
theorem hsub32 {r : Nat} (h1 : 48 ≤ r) (h2 : r ≤ 57) : hbin .sub none (.int .i32 r) (.int .i32 48) = some (.int .i32 ((r - 48 : Nat) : Int)) := by
  have h0 : hbin .sub none (.int .i32 r) (.int .i32 48) = some (.int .i32 (wr .i32 ((r : Int) - 48))) := rfl
  have h3 : wr .i32 ((r : Int) - 48) = ((r - 48 : Nat) : Int) := by
    show ((r : Int) - 48 + 2147483648) % 4294967296 - 2147483648 = _
    omega
  rw [h0, h3]
theorem hsub8 {r : Nat} (h1 : 48 ≤ r) (h2 : r ≤ 57) : hbin .sub none (.int .u8 r) (.int .u8 48) = some (.int .u8 ((r - 48 : Nat) : Int)) := by
  have h0 : hbin .sub none (.int .u8 r) (.int .u8 48) = some (.int .u8 (wr .u8 ((r : Int) - 48))) := rfl
  have h3 : wr .u8 ((r : Int) - 48) = ((r - 48 : Nat) : Int) := by
    show ((r : Int) - 48) % 256 = _
    omega
  rw [h0, h3]
theorem hconv {k : IntKind} {d : Nat} (h : d < 1000) : hconvInt .i64 (.int k d) = some (.int .i64 (d : Int)) := by
  have h0 : hconvInt .i64 (.int k d) = some (.int .i64 (wr .i64 (d : Int))) := rfl
  rw [h0, wr64 (by omega) (by omega)]
theorem eqNil (s : List UInt8) : hbin .eql (some .str) (.str s) (.str []) = some (.bool s.isEmpty) := by cases s <;> rfl

def base11 (s : List UInt8) (M n : Nat) : List HV :=
  [.str s, .int .i64 M, .undef, .undef, .int .i64 0, .bool false, .int .i64 n, .undef, .undef, .undef, .undef, .undef, .undef, .undef, .undef, .undef, .undef, .ptr 0 0, .undef, .undef, .undef, .undef, .undef, .undef, .undef, .undef, .undef, .undef, .undef, .undef, .undef, .undef, .undef, .undef, .undef, .undef, .undef, .undef, .undef, .undef, .undef, .undef, .undef, .undef, .undef, .undef, .undef]
def I11 (s : List UInt8) (M : Nat) (k : Nat) (fr : List HV) (hs : HS) : Prop :=
  ∃ i n, i ≤ s.length ∧ k = s.length - i ∧ hs = [some (.siter s i)] ∧ n ≤ M ∧ runP M s 0 = runP M (s.drop i) n ∧ Less (base11 s M n) fr
def base12 (s : List UInt8) (M n i : Nat) : List HV :=
  [.str s, .int .i64 M, .undef, .undef, .int .i64 0, .bool false, .int .i64 n, .int .i64 i, .undef, .undef, .undef, .undef, .undef, .undef, .undef, .undef, .undef, .undef, .undef, .undef, .undef, .undef, .undef, .undef, .undef, .undef, .undef, .undef, .undef, .undef, .undef, .undef, .undef, .undef, .undef, .undef, .undef, .undef, .undef, .undef, .undef, .undef, .undef, .undef, .undef, .undef, .undef, .undef, .undef, .undef, .undef, .undef, .undef]
def I12 (s : List UInt8) (M : Nat) (k : Nat) (fr : List HV) (hs : HS) : Prop :=
  ∃ i n, i ≤ s.length ∧ k = s.length - i ∧ hs = [] ∧ n ≤ M ∧ runP M s 0 = runP M (s.drop i) n ∧ Less (base12 s M n i) fr

theorem parse11 (s : List UInt8) (M : Nat) (hs0 : s ≠ []) (hM : M < 9223372036854775808) : HC Tryd.prog 11 [.str s, .int .i64 M] [] fun v _ => v = ansP (runP M s 0) := by
  have he : s.isEmpty = false := by cases s <;> simp_all
  have hm0 : decide ((M : Int) < 0) = false := decide_eq_false (by omega)
  refine HC.body Tryd.func11 P2.c11 ?_
  refine HW.seq (HW.region ?_)
  refine HL.op rfl ?_
  try simp only [killFr, List.foldl, put, frame0, P2.h11, List.length, List.replicate, Nat.sub, List.append, List.set, HX.ev, List.getElem?_cons_succ, List.getElem?_cons_zero, Option.getD_some, HAppend.hAppend, Append.append]
  refine HL.op rfl (HL.nil ?_)
  try simp only [killFr, List.foldl, put, frame0, P2.h11, List.length, List.replicate, Nat.sub, List.append, List.set, HX.ev, List.getElem?_cons_succ, List.getElem?_cons_zero, Option.getD_some, HAppend.hAppend, Append.append]
  refine HW.seq (HW.seq (HW.region ?_))
  refine HL.op rfl ?_
  try simp only [killFr, List.foldl, put, frame0, P2.h11, List.length, List.replicate, Nat.sub, List.append, List.set, HX.ev, List.getElem?_cons_succ, List.getElem?_cons_zero, Option.getD_some, HAppend.hAppend, Append.append]
  refine HL.op (v := .bool false) (congrArg (same _) ((eqNil s).trans (sb he))) ?_
  try simp only [killFr, List.foldl, put, frame0, P2.h11, List.length, List.replicate, Nat.sub, List.append, List.set, HX.ev, List.getElem?_cons_succ, List.getElem?_cons_zero, Option.getD_some, HAppend.hAppend, Append.append]
  refine HL.op rfl ?_
  try simp only [killFr, List.foldl, put, frame0, P2.h11, List.length, List.replicate, Nat.sub, List.append, List.set, HX.ev, List.getElem?_cons_succ, List.getElem?_cons_zero, Option.getD_some, HAppend.hAppend, Append.append]
  refine HL.opIf rfl rfl ?_
  try simp only [killFr, List.foldl, put, frame0, P2.h11, List.length, List.replicate, Nat.sub, List.append, List.set, HX.ev, List.getElem?_cons_succ, List.getElem?_cons_zero, Option.getD_some, HAppend.hAppend, Append.append]
  refine HL.opIf (v := .bool false) rfl (congrArg (fun b => some (HV.bool b, _)) hm0) ?_
  try simp only [killFr, List.foldl, put, frame0, P2.h11, List.length, List.replicate, Nat.sub, List.append, List.set, HX.ev, List.getElem?_cons_succ, List.getElem?_cons_zero, Option.getD_some, HAppend.hAppend, Append.append]
  refine HL.op (pickF rfl rfl) (HL.nil ?_)
  try simp only [killFr, List.foldl, put, frame0, P2.h11, List.length, List.replicate, Nat.sub, List.append, List.set, HX.ev, List.getElem?_cons_succ, List.getElem?_cons_zero, Option.getD_some, HAppend.hAppend, Append.append]
  show HW Tryd.prog _ _ _ _
  refine HW.cond (t := false) rfl (HW.skip ?_)
  show HW Tryd.prog _ _ _ _
  refine HW.seq (HW.region (HL.op rfl (HL.nil ?_)))
  try simp only [killFr, List.foldl, put, frame0, P2.h11, List.length, List.replicate, Nat.sub, List.append, List.set, HX.ev, List.getElem?_cons_succ, List.getElem?_cons_zero, Option.getD_some, HAppend.hAppend, Append.append]
  show HW Tryd.prog _ _ _ _
  refine HW.seq (HW.seq (HW.region ?_))
  refine HL.op rfl ?_
  try simp only [killFr, List.foldl, put, frame0, P2.h11, List.length, List.replicate, Nat.sub, List.append, List.set, HX.ev, List.getElem?_cons_succ, List.getElem?_cons_zero, Option.getD_some, HAppend.hAppend, Append.append]
  refine HL.op (v := .ptr 0 0) (hs' := [some (.siter s 0)]) rfl (HL.nil ?_)
  try simp only [killFr, List.foldl, put, frame0, P2.h11, List.length, List.replicate, Nat.sub, List.append, List.set, HX.ev, List.getElem?_cons_succ, List.getElem?_cons_zero, Option.getD_some, HAppend.hAppend, Append.append]
  show HW Tryd.prog _ _ _ _
  refine HW.block (HW.loop (I11 s M) s.length ⟨0, 0, by omega, by omega, rfl, by omega, rfl, ?_⟩ ?_)
  · unfold base11
    repeat first | exact Less.nil | refine Less.undef _ ?_ | refine Less.keep _ ?_
  rintro k fr hs ⟨i, n, hi, hk, rfl, hn, hrun, hL⟩
  refine HW.less hL ?_
  unfold base11
  refine HW.seq (HW.region ?_)
  by_cases hil : i < s.length
  case neg =>
    have hd : s.drop i = [] := List.drop_eq_nil_of_le (by omega)
    refine HL.op (hnext_end hil) ?_
    try simp only [killFr, List.foldl, put, frame0, P2.h11, List.length, List.replicate, Nat.sub, List.append, List.set, HX.ev, List.getElem?_cons_succ, List.getElem?_cons_zero, Option.getD_some, HAppend.hAppend, Append.append]
    refine HL.op (v := .bool false) rfl (HL.nil ?_)
    try simp only [killFr, List.foldl, put, frame0, P2.h11, List.length, List.replicate, Nat.sub, List.append, List.set, HX.ev, List.getElem?_cons_succ, List.getElem?_cons_zero, Option.getD_some, HAppend.hAppend, Append.append]
    refine HW.seq (HW.cond (t := false) rfl (HW.exit ?_))
    simp only [HThen, HBlock, if_true]
    refine HW.seq (HW.region ?_)
    refine HL.op rfl ?_
    try simp only [killFr, List.foldl, put, frame0, P2.h11, List.length, List.replicate, Nat.sub, List.append, List.set, HX.ev, List.getElem?_cons_succ, List.getElem?_cons_zero, Option.getD_some, HAppend.hAppend, Append.append]
    refine HL.op rfl ?_
    try simp only [killFr, List.foldl, put, frame0, P2.h11, List.length, List.replicate, Nat.sub, List.append, List.set, HX.ev, List.getElem?_cons_succ, List.getElem?_cons_zero, Option.getD_some, HAppend.hAppend, Append.append]
    refine HL.op rfl (HL.nil (HW.ret ?_))
    try simp only [killFr, List.foldl, put, frame0, P2.h11, List.length, List.replicate, Nat.sub, List.append, List.set, HX.ev, List.getElem?_cons_succ, List.getElem?_cons_zero, Option.getD_some, HAppend.hAppend, Append.append]
    refine ⟨rfl, _, rfl, ?_⟩
    rw [hrun, hd]; rfl
  case pos =>
    obtain ⟨c, hc⟩ : ∃ c, s[i]? = some c := ⟨_, List.getElem?_eq_getElem hil⟩
    refine HL.op (hnext_more hil) ?_
    try simp only [killFr, List.foldl, put, frame0, P2.h11, List.length, List.replicate, Nat.sub, List.append, List.set, HX.ev, List.getElem?_cons_succ, List.getElem?_cons_zero, Option.getD_some, HAppend.hAppend, Append.append]
    have hd1 := @dec_low s i c hc
    have hd2 := @dec_high s i c hc
    generalize hr : (Utf8.decode ⟨s.toArray⟩ i).1 = r
    generalize hwd : (Utf8.decode ⟨s.toArray⟩ i).2 = wd
    rw [hr] at hd2
    have hd1' : c.toNat < 128 → r = c.toNat ∧ wd = 1 := fun h => by rw [← hr, ← hwd, hd1 h]; exact ⟨rfl, rfl⟩
    have hcr : c.toNat = r ∨ (128 ≤ c.toNat ∧ 128 ≤ r) := by
      rcases Nat.lt_or_ge c.toNat 128 with h | h
      · exact .inl (hd1' h).1.symm
      · exact .inr ⟨h, hd2 h⟩
    refine HL.op (v := .bool true) rfl (HL.nil ?_)
    try simp only [killFr, List.foldl, put, frame0, P2.h11, List.length, List.replicate, Nat.sub, List.append, List.set, HX.ev, List.getElem?_cons_succ, List.getElem?_cons_zero, Option.getD_some, HAppend.hAppend, Append.append]
    refine HW.seq (HW.cond (t := true) rfl (HW.skip ?_))
    show HW Tryd.prog _ _ _ _
    refine HW.block (HW.seq (HW.region ?_))
    refine HL.op (v := .int .i32 r) rfl ?_
    try simp only [killFr, List.foldl, put, frame0, P2.h11, List.length, List.replicate, Nat.sub, List.append, List.set, HX.ev, List.getElem?_cons_succ, List.getElem?_cons_zero, Option.getD_some, HAppend.hAppend, Append.append]
    refine HL.op rfl (HL.nil ?_)
    try simp only [killFr, List.foldl, put, frame0, P2.h11, List.length, List.replicate, Nat.sub, List.append, List.set, HX.ev, List.getElem?_cons_succ, List.getElem?_cons_zero, Option.getD_some, HAppend.hAppend, Append.append]
    show HW Tryd.prog _ _ _ _
    refine HW.seq (HW.seq (HW.region ?_))
    refine HL.op rfl ?_
    try simp only [killFr, List.foldl, put, frame0, P2.h11, List.length, List.replicate, Nat.sub, List.append, List.set, HX.ev, List.getElem?_cons_succ, List.getElem?_cons_zero, Option.getD_some, HAppend.hAppend, Append.append]
    refine HL.op (v := .bool (decide ((r : Int) < 48))) rfl ?_
    try simp only [killFr, List.foldl, put, frame0, P2.h11, List.length, List.replicate, Nat.sub, List.append, List.set, HX.ev, List.getElem?_cons_succ, List.getElem?_cons_zero, Option.getD_some, HAppend.hAppend, Append.append]
    refine HL.op rfl ?_
    try simp only [killFr, List.foldl, put, frame0, P2.h11, List.length, List.replicate, Nat.sub, List.append, List.set, HX.ev, List.getElem?_cons_succ, List.getElem?_cons_zero, Option.getD_some, HAppend.hAppend, Append.append]
    cases g1 : decide ((r : Int) < 48) with
    | true =>
      have g1' := of_decide_eq_true g1
      refine HL.opNot rfl ?_
      try simp only [killFr, List.foldl, put, frame0, P2.h11, List.length, List.replicate, Nat.sub, List.append, List.set, HX.ev, List.getElem?_cons_succ, List.getElem?_cons_zero, Option.getD_some, HAppend.hAppend, Append.append]
      refine HL.opNot rfl ?_
      try simp only [killFr, List.foldl, put, frame0, P2.h11, List.length, List.replicate, Nat.sub, List.append, List.set, HX.ev, List.getElem?_cons_succ, List.getElem?_cons_zero, Option.getD_some, HAppend.hAppend, Append.append]
      refine HL.op (pickT rfl rfl) (HL.nil ?_)
      try simp only [killFr, List.foldl, put, frame0, P2.h11, List.length, List.replicate, Nat.sub, List.append, List.set, HX.ev, List.getElem?_cons_succ, List.getElem?_cons_zero, Option.getD_some, HAppend.hAppend, Append.append]
      show HW Tryd.prog _ _ _ _
      refine HW.cond (t := true) rfl (HW.seq (HW.region ?_))
      refine HL.op rfl ?_
      try simp only [killFr, List.foldl, put, frame0, P2.h11, List.length, List.replicate, Nat.sub, List.append, List.set, HX.ev, List.getElem?_cons_succ, List.getElem?_cons_zero, Option.getD_some, HAppend.hAppend, Append.append]
      refine HL.op rfl (HL.nil (HW.ret ?_))
      try simp only [killFr, List.foldl, put, frame0, P2.h11, List.length, List.replicate, Nat.sub, List.append, List.set, HX.ev, List.getElem?_cons_succ, List.getElem?_cons_zero, Option.getD_some, HAppend.hAppend, Append.append]
      refine ⟨rfl, _, rfl, ?_⟩
      rw [hrun, runP_bad hc (n := n) (by unfold stepP; rw [if_neg]; omega)]; rfl
    | false =>
      have g1' := of_decide_eq_false g1
      refine HL.opIf rfl rfl ?_
      try simp only [killFr, List.foldl, put, frame0, P2.h11, List.length, List.replicate, Nat.sub, List.append, List.set, HX.ev, List.getElem?_cons_succ, List.getElem?_cons_zero, Option.getD_some, HAppend.hAppend, Append.append]
      refine HL.opIf (v := .bool (decide ((r : Int) > 57))) rfl rfl ?_
      try simp only [killFr, List.foldl, put, frame0, P2.h11, List.length, List.replicate, Nat.sub, List.append, List.set, HX.ev, List.getElem?_cons_succ, List.getElem?_cons_zero, Option.getD_some, HAppend.hAppend, Append.append]
      refine HL.op (pickF rfl rfl) (HL.nil ?_)
      try simp only [killFr, List.foldl, put, frame0, P2.h11, List.length, List.replicate, Nat.sub, List.append, List.set, HX.ev, List.getElem?_cons_succ, List.getElem?_cons_zero, Option.getD_some, HAppend.hAppend, Append.append]
      show HW Tryd.prog _ _ _ _
      cases g2 : decide ((r : Int) > 57) with
      | true =>
        have g2' := of_decide_eq_true g2
        refine HW.cond (t := true) rfl (HW.seq (HW.region ?_))
        refine HL.op rfl ?_
        try simp only [killFr, List.foldl, put, frame0, P2.h11, List.length, List.replicate, Nat.sub, List.append, List.set, HX.ev, List.getElem?_cons_succ, List.getElem?_cons_zero, Option.getD_some, HAppend.hAppend, Append.append]
        refine HL.op rfl (HL.nil (HW.ret ?_))
        try simp only [killFr, List.foldl, put, frame0, P2.h11, List.length, List.replicate, Nat.sub, List.append, List.set, HX.ev, List.getElem?_cons_succ, List.getElem?_cons_zero, Option.getD_some, HAppend.hAppend, Append.append]
        refine ⟨rfl, _, rfl, ?_⟩
        rw [hrun, runP_bad hc (n := n) (by unfold stepP; rw [if_neg]; omega)]; rfl
      | false =>
        have g2' := of_decide_eq_false g2
        have hlo : c.toNat < 128 := by omega
        obtain ⟨hrc, hw1⟩ := hd1' hlo
        refine HW.cond (t := false) rfl (HW.skip ?_)
        show HW Tryd.prog _ _ _ _
        refine HW.seq (HW.region ?_)
        refine HL.op rfl ?_
        try simp only [killFr, List.foldl, put, frame0, P2.h11, List.length, List.replicate, Nat.sub, List.append, List.set, HX.ev, List.getElem?_cons_succ, List.getElem?_cons_zero, Option.getD_some, HAppend.hAppend, Append.append]
        refine HL.op (v := .int .i32 ((r - 48 : Nat) : Int)) (congrArg (same _) (hsub32 (by omega) (by omega))) ?_
        try simp only [killFr, List.foldl, put, frame0, P2.h11, List.length, List.replicate, Nat.sub, List.append, List.set, HX.ev, List.getElem?_cons_succ, List.getElem?_cons_zero, Option.getD_some, HAppend.hAppend, Append.append]
        refine HL.op (v := .int .i64 ((r - 48 : Nat) : Int)) (congrArg (same _) (hconv (by omega))) ?_
        try simp only [killFr, List.foldl, put, frame0, P2.h11, List.length, List.replicate, Nat.sub, List.append, List.set, HX.ev, List.getElem?_cons_succ, List.getElem?_cons_zero, Option.getD_some, HAppend.hAppend, Append.append]
        refine HL.op rfl (HL.nil ?_)
        try simp only [killFr, List.foldl, put, frame0, P2.h11, List.length, List.replicate, Nat.sub, List.append, List.set, HX.ev, List.getElem?_cons_succ, List.getElem?_cons_zero, Option.getD_some, HAppend.hAppend, Append.append]
        show HW Tryd.prog _ _ _ _
        refine HW.seq (HW.seq (HW.region ?_))
        refine HL.op rfl ?_
        try simp only [killFr, List.foldl, put, frame0, P2.h11, List.length, List.replicate, Nat.sub, List.append, List.set, HX.ev, List.getElem?_cons_succ, List.getElem?_cons_zero, Option.getD_some, HAppend.hAppend, Append.append]
        refine HL.op rfl ?_
        try simp only [killFr, List.foldl, put, frame0, P2.h11, List.length, List.replicate, Nat.sub, List.append, List.set, HX.ev, List.getElem?_cons_succ, List.getElem?_cons_zero, Option.getD_some, HAppend.hAppend, Append.append]
        refine HL.op (v := .int .i64 ((M / 10 : Nat) : Int)) (congrArg (same _) (hquo hM)) ?_
        try simp only [killFr, List.foldl, put, frame0, P2.h11, List.length, List.replicate, Nat.sub, List.append, List.set, HX.ev, List.getElem?_cons_succ, List.getElem?_cons_zero, Option.getD_some, HAppend.hAppend, Append.append]
        refine HL.op (v := .bool (decide ((n : Int) > ((M / 10 : Nat) : Int)))) rfl ?_
        try simp only [killFr, List.foldl, put, frame0, P2.h11, List.length, List.replicate, Nat.sub, List.append, List.set, HX.ev, List.getElem?_cons_succ, List.getElem?_cons_zero, Option.getD_some, HAppend.hAppend, Append.append]
        refine HL.op rfl ?_
        try simp only [killFr, List.foldl, put, frame0, P2.h11, List.length, List.replicate, Nat.sub, List.append, List.set, HX.ev, List.getElem?_cons_succ, List.getElem?_cons_zero, Option.getD_some, HAppend.hAppend, Append.append]
        cases g3 : decide ((n : Int) > ((M / 10 : Nat) : Int)) with
        | true =>
          have g3' := of_decide_eq_true g3
          refine HL.opNot rfl ?_
          try simp only [killFr, List.foldl, put, frame0, P2.h11, List.length, List.replicate, Nat.sub, List.append, List.set, HX.ev, List.getElem?_cons_succ, List.getElem?_cons_zero, Option.getD_some, HAppend.hAppend, Append.append]
          refine HL.opNot rfl ?_
          try simp only [killFr, List.foldl, put, frame0, P2.h11, List.length, List.replicate, Nat.sub, List.append, List.set, HX.ev, List.getElem?_cons_succ, List.getElem?_cons_zero, Option.getD_some, HAppend.hAppend, Append.append]
          refine HL.opNot rfl ?_
          try simp only [killFr, List.foldl, put, frame0, P2.h11, List.length, List.replicate, Nat.sub, List.append, List.set, HX.ev, List.getElem?_cons_succ, List.getElem?_cons_zero, Option.getD_some, HAppend.hAppend, Append.append]
          refine HL.opNot rfl ?_
          try simp only [killFr, List.foldl, put, frame0, P2.h11, List.length, List.replicate, Nat.sub, List.append, List.set, HX.ev, List.getElem?_cons_succ, List.getElem?_cons_zero, Option.getD_some, HAppend.hAppend, Append.append]
          refine HL.opNot rfl ?_
          try simp only [killFr, List.foldl, put, frame0, P2.h11, List.length, List.replicate, Nat.sub, List.append, List.set, HX.ev, List.getElem?_cons_succ, List.getElem?_cons_zero, Option.getD_some, HAppend.hAppend, Append.append]
          refine HL.opNot rfl ?_
          try simp only [killFr, List.foldl, put, frame0, P2.h11, List.length, List.replicate, Nat.sub, List.append, List.set, HX.ev, List.getElem?_cons_succ, List.getElem?_cons_zero, Option.getD_some, HAppend.hAppend, Append.append]
          refine HL.op (pickT rfl rfl) (HL.nil ?_)
          try simp only [killFr, List.foldl, put, frame0, P2.h11, List.length, List.replicate, Nat.sub, List.append, List.set, HX.ev, List.getElem?_cons_succ, List.getElem?_cons_zero, Option.getD_some, HAppend.hAppend, Append.append]
          show HW Tryd.prog _ _ _ _
          refine HW.cond (t := true) rfl (HW.seq (HW.region ?_))
          refine HL.op rfl ?_
          try simp only [killFr, List.foldl, put, frame0, P2.h11, List.length, List.replicate, Nat.sub, List.append, List.set, HX.ev, List.getElem?_cons_succ, List.getElem?_cons_zero, Option.getD_some, HAppend.hAppend, Append.append]
          refine HL.op rfl (HL.nil (HW.ret ?_))
          try simp only [killFr, List.foldl, put, frame0, P2.h11, List.length, List.replicate, Nat.sub, List.append, List.set, HX.ev, List.getElem?_cons_succ, List.getElem?_cons_zero, Option.getD_some, HAppend.hAppend, Append.append]
          refine ⟨rfl, _, rfl, ?_⟩
          rw [hrun, runP_bad hc (n := n) (by unfold stepP; rw [if_neg]; omega)]; rfl
        | false =>
          have g3' := of_decide_eq_false g3
          refine HL.opIf rfl rfl ?_
          try simp only [killFr, List.foldl, put, frame0, P2.h11, List.length, List.replicate, Nat.sub, List.append, List.set, HX.ev, List.getElem?_cons_succ, List.getElem?_cons_zero, Option.getD_some, HAppend.hAppend, Append.append]
          refine HL.opIf (v := .int .i64 ((10 * n : Nat) : Int)) rfl (congrArg (same _) (hmul (by omega))) ?_
          try simp only [killFr, List.foldl, put, frame0, P2.h11, List.length, List.replicate, Nat.sub, List.append, List.set, HX.ev, List.getElem?_cons_succ, List.getElem?_cons_zero, Option.getD_some, HAppend.hAppend, Append.append]
          refine HL.opIf rfl rfl ?_
          try simp only [killFr, List.foldl, put, frame0, P2.h11, List.length, List.replicate, Nat.sub, List.append, List.set, HX.ev, List.getElem?_cons_succ, List.getElem?_cons_zero, Option.getD_some, HAppend.hAppend, Append.append]
          refine HL.opIf rfl rfl ?_
          try simp only [killFr, List.foldl, put, frame0, P2.h11, List.length, List.replicate, Nat.sub, List.append, List.set, HX.ev, List.getElem?_cons_succ, List.getElem?_cons_zero, Option.getD_some, HAppend.hAppend, Append.append]
          refine HL.opIf (v := .int .i64 ((M : Int) - ((r - 48 : Nat) : Int))) rfl (congrArg (same _) (hsub hM (by omega))) ?_
          try simp only [killFr, List.foldl, put, frame0, P2.h11, List.length, List.replicate, Nat.sub, List.append, List.set, HX.ev, List.getElem?_cons_succ, List.getElem?_cons_zero, Option.getD_some, HAppend.hAppend, Append.append]
          refine HL.opIf (v := .bool (decide (((10 * n : Nat) : Int) > (M : Int) - ((r - 48 : Nat) : Int)))) rfl rfl ?_
          try simp only [killFr, List.foldl, put, frame0, P2.h11, List.length, List.replicate, Nat.sub, List.append, List.set, HX.ev, List.getElem?_cons_succ, List.getElem?_cons_zero, Option.getD_some, HAppend.hAppend, Append.append]
          refine HL.op (pickF rfl rfl) (HL.nil ?_)
          try simp only [killFr, List.foldl, put, frame0, P2.h11, List.length, List.replicate, Nat.sub, List.append, List.set, HX.ev, List.getElem?_cons_succ, List.getElem?_cons_zero, Option.getD_some, HAppend.hAppend, Append.append]
          show HW Tryd.prog _ _ _ _
          cases g4 : decide (((10 * n : Nat) : Int) > (M : Int) - ((r - 48 : Nat) : Int)) with
          | true =>
            have g4' := of_decide_eq_true g4
            refine HW.cond (t := true) rfl (HW.seq (HW.region ?_))
            refine HL.op rfl ?_
            try simp only [killFr, List.foldl, put, frame0, P2.h11, List.length, List.replicate, Nat.sub, List.append, List.set, HX.ev, List.getElem?_cons_succ, List.getElem?_cons_zero, Option.getD_some, HAppend.hAppend, Append.append]
            refine HL.op rfl (HL.nil (HW.ret ?_))
            try simp only [killFr, List.foldl, put, frame0, P2.h11, List.length, List.replicate, Nat.sub, List.append, List.set, HX.ev, List.getElem?_cons_succ, List.getElem?_cons_zero, Option.getD_some, HAppend.hAppend, Append.append]
            refine ⟨rfl, _, rfl, ?_⟩
            rw [hrun, runP_bad hc (n := n) (by unfold stepP; rw [if_neg]; omega)]; rfl
          | false =>
            have g4' := of_decide_eq_false g4
            refine HW.cond (t := false) rfl (HW.skip ?_)
            show HW Tryd.prog _ _ _ _
            refine HW.region ?_
            refine HL.op rfl ?_
            try simp only [killFr, List.foldl, put, frame0, P2.h11, List.length, List.replicate, Nat.sub, List.append, List.set, HX.ev, List.getElem?_cons_succ, List.getElem?_cons_zero, Option.getD_some, HAppend.hAppend, Append.append]
            refine HL.op (v := .int .i64 ((10 * n : Nat) : Int)) (congrArg (same _) (hmul (by omega))) ?_
            try simp only [killFr, List.foldl, put, frame0, P2.h11, List.length, List.replicate, Nat.sub, List.append, List.set, HX.ev, List.getElem?_cons_succ, List.getElem?_cons_zero, Option.getD_some, HAppend.hAppend, Append.append]
            refine HL.op rfl ?_
            try simp only [killFr, List.foldl, put, frame0, P2.h11, List.length, List.replicate, Nat.sub, List.append, List.set, HX.ev, List.getElem?_cons_succ, List.getElem?_cons_zero, Option.getD_some, HAppend.hAppend, Append.append]
            refine HL.op (v := .int .i64 ((10 * n + (r - 48) : Nat) : Int)) (congrArg (same _) (hadd (by omega))) ?_
            try simp only [killFr, List.foldl, put, frame0, P2.h11, List.length, List.replicate, Nat.sub, List.append, List.set, HX.ev, List.getElem?_cons_succ, List.getElem?_cons_zero, Option.getD_some, HAppend.hAppend, Append.append]
            refine HL.op rfl (HL.nil ?_)
            try simp only [killFr, List.foldl, put, frame0, P2.h11, List.length, List.replicate, Nat.sub, List.append, List.set, HX.ev, List.getElem?_cons_succ, List.getElem?_cons_zero, Option.getD_some, HAppend.hAppend, Append.append]
            have hstep : stepP M n c = some (10 * n + (r - 48)) := by
              unfold stepP
              rw [if_pos (by omega), hrc]
            refine ⟨s.length - (i + 1), by omega, i + 1, 10 * n + (r - 48), by omega, rfl, by rw [hw1], by omega, by rw [hrun, runP_ok hc hstep], ?_⟩
            unfold base11
            repeat first | exact Less.nil | refine Less.undef _ ?_ | refine Less.keep _ ?_
theorem eqLen {s : List UInt8} (h : s ≠ []) : hbin .eql (some .int) (.int .i64 s.length) (.int .i64 0) = some (.bool false) := by
  cases s with
  | nil => exact absurd rfl h
  | cons c r => rfl
theorem hsubN {a b : Nat} (ha : a < 9223372036854775808) (hb : b ≤ a) : hbin .sub none (.int .i64 a) (.int .i64 b) = some (.int .i64 ((a - b : Nat) : Int)) := by
  have h0 : hbin .sub none (.int .i64 a) (.int .i64 b) = some (.int .i64 (wr .i64 ((a : Int) - b))) := rfl
  rw [h0, wr64 (by omega) (by omega)]
  congr 2; omega
theorem parse12 (s : List UInt8) (M : Nat) (hs0 : s ≠ []) (hl : s.length < 9223372036854775808) (hM : M < 9223372036854775808) : HC Tryd.prog 12 [.str s, .int .i64 M] [] fun v _ => v = ansP (runP M s 0) := by
  have hm0 : decide ((M : Int) < 0) = false := decide_eq_false (by omega)
  refine HC.body Tryd.func12 P2.c12 ?_
  refine HW.seq (HW.region ?_)
  refine HL.op rfl ?_
  try simp only [killFr, List.foldl, put, frame0, P2.h12, List.length, List.replicate, Nat.sub, List.append, List.set, HX.ev, List.getElem?_cons_succ, List.getElem?_cons_zero, Option.getD_some, HAppend.hAppend, Append.append]
  refine HL.op rfl (HL.nil ?_)
  try simp only [killFr, List.foldl, put, frame0, P2.h12, List.length, List.replicate, Nat.sub, List.append, List.set, HX.ev, List.getElem?_cons_succ, List.getElem?_cons_zero, Option.getD_some, HAppend.hAppend, Append.append]
  refine HW.seq (HW.seq (HW.region ?_))
  refine HL.op rfl ?_
  try simp only [killFr, List.foldl, put, frame0, P2.h12, List.length, List.replicate, Nat.sub, List.append, List.set, HX.ev, List.getElem?_cons_succ, List.getElem?_cons_zero, Option.getD_some, HAppend.hAppend, Append.append]
  refine HL.op (v := .int .i64 s.length) rfl ?_
  try simp only [killFr, List.foldl, put, frame0, P2.h12, List.length, List.replicate, Nat.sub, List.append, List.set, HX.ev, List.getElem?_cons_succ, List.getElem?_cons_zero, Option.getD_some, HAppend.hAppend, Append.append]
  refine HL.op (v := .bool false) (congrArg (same _) (eqLen hs0)) ?_
  try simp only [killFr, List.foldl, put, frame0, P2.h12, List.length, List.replicate, Nat.sub, List.append, List.set, HX.ev, List.getElem?_cons_succ, List.getElem?_cons_zero, Option.getD_some, HAppend.hAppend, Append.append]
  refine HL.op rfl ?_
  try simp only [killFr, List.foldl, put, frame0, P2.h12, List.length, List.replicate, Nat.sub, List.append, List.set, HX.ev, List.getElem?_cons_succ, List.getElem?_cons_zero, Option.getD_some, HAppend.hAppend, Append.append]
  refine HL.opIf rfl rfl ?_
  try simp only [killFr, List.foldl, put, frame0, P2.h12, List.length, List.replicate, Nat.sub, List.append, List.set, HX.ev, List.getElem?_cons_succ, List.getElem?_cons_zero, Option.getD_some, HAppend.hAppend, Append.append]
  refine HL.opIf (v := .bool false) rfl (congrArg (fun b => some (HV.bool b, _)) hm0) ?_
  try simp only [killFr, List.foldl, put, frame0, P2.h12, List.length, List.replicate, Nat.sub, List.append, List.set, HX.ev, List.getElem?_cons_succ, List.getElem?_cons_zero, Option.getD_some, HAppend.hAppend, Append.append]
  refine HL.op (pickF rfl rfl) (HL.nil ?_)
  try simp only [killFr, List.foldl, put, frame0, P2.h12, List.length, List.replicate, Nat.sub, List.append, List.set, HX.ev, List.getElem?_cons_succ, List.getElem?_cons_zero, Option.getD_some, HAppend.hAppend, Append.append]
  show HW Tryd.prog _ _ _ _
  refine HW.cond (t := false) rfl (HW.skip ?_)
  show HW Tryd.prog _ _ _ _
  refine HW.seq (HW.region (HL.op rfl (HL.nil ?_)))
  try simp only [killFr, List.foldl, put, frame0, P2.h12, List.length, List.replicate, Nat.sub, List.append, List.set, HX.ev, List.getElem?_cons_succ, List.getElem?_cons_zero, Option.getD_some, HAppend.hAppend, Append.append]
  show HW Tryd.prog _ _ _ _
  refine HW.seq (HW.seq (HW.region (HL.op rfl (HL.nil ?_))))
  try simp only [killFr, List.foldl, put, frame0, P2.h12, List.length, List.replicate, Nat.sub, List.append, List.set, HX.ev, List.getElem?_cons_succ, List.getElem?_cons_zero, Option.getD_some, HAppend.hAppend, Append.append]
  show HW Tryd.prog _ _ _ _
  refine HW.block (HW.loop (I12 s M) s.length ⟨0, 0, by omega, by omega, rfl, by omega, rfl, ?_⟩ ?_)
  · unfold base12
    repeat first | exact Less.nil | refine Less.undef _ ?_ | refine Less.keep _ ?_
  rintro k fr hs ⟨i, n, hi, hk, rfl, hn, hrun, hL⟩
  refine HW.less hL ?_
  unfold base12
  refine HW.seq (HW.seq (HW.region ?_))
  refine HL.op rfl ?_
  try simp only [killFr, List.foldl, put, frame0, P2.h12, List.length, List.replicate, Nat.sub, List.append, List.set, HX.ev, List.getElem?_cons_succ, List.getElem?_cons_zero, Option.getD_some, HAppend.hAppend, Append.append]
  refine HL.op rfl ?_
  try simp only [killFr, List.foldl, put, frame0, P2.h12, List.length, List.replicate, Nat.sub, List.append, List.set, HX.ev, List.getElem?_cons_succ, List.getElem?_cons_zero, Option.getD_some, HAppend.hAppend, Append.append]
  refine HL.op rfl ?_
  try simp only [killFr, List.foldl, put, frame0, P2.h12, List.length, List.replicate, Nat.sub, List.append, List.set, HX.ev, List.getElem?_cons_succ, List.getElem?_cons_zero, Option.getD_some, HAppend.hAppend, Append.append]
  refine HL.op (v := .bool (decide ((i : Int) < (s.length : Nat)))) rfl (HL.nil ?_)
  try simp only [killFr, List.foldl, put, frame0, P2.h12, List.length, List.replicate, Nat.sub, List.append, List.set, HX.ev, List.getElem?_cons_succ, List.getElem?_cons_zero, Option.getD_some, HAppend.hAppend, Append.append]
  show HW Tryd.prog _ _ _ _
  cases h4 : decide ((i : Int) < (s.length : Nat)) with
  | false =>
    have hil : i = s.length := by have := of_decide_eq_false h4; omega
    have hd : s.drop i = [] := List.drop_eq_nil_of_le (by omega)
    refine HW.cond (t := false) rfl (HW.exit ?_)
    simp only [HThen, HBlock, if_true]
    refine HW.seq (HW.region ?_)
    refine HL.op rfl ?_
    try simp only [killFr, List.foldl, put, frame0, P2.h12, List.length, List.replicate, Nat.sub, List.append, List.set, HX.ev, List.getElem?_cons_succ, List.getElem?_cons_zero, Option.getD_some, HAppend.hAppend, Append.append]
    refine HL.op rfl ?_
    try simp only [killFr, List.foldl, put, frame0, P2.h12, List.length, List.replicate, Nat.sub, List.append, List.set, HX.ev, List.getElem?_cons_succ, List.getElem?_cons_zero, Option.getD_some, HAppend.hAppend, Append.append]
    refine HL.op rfl (HL.nil (HW.ret ?_))
    try simp only [killFr, List.foldl, put, frame0, P2.h12, List.length, List.replicate, Nat.sub, List.append, List.set, HX.ev, List.getElem?_cons_succ, List.getElem?_cons_zero, Option.getD_some, HAppend.hAppend, Append.append]
    refine ⟨rfl, _, rfl, ?_⟩
    rw [hrun, hd]; rfl
  | true =>
    have hil : i < s.length := by have := of_decide_eq_true h4; omega
    obtain ⟨c, hc⟩ : ∃ c, s[i]? = some c := ⟨_, List.getElem?_eq_getElem hil⟩
    refine HW.cond (t := true) rfl (HW.skip ?_)
    show HW Tryd.prog _ _ _ _
    refine HW.seq (HW.block (HW.seq (HW.seq (HW.region ?_))))
    refine HL.op rfl ?_
    try simp only [killFr, List.foldl, put, frame0, P2.h12, List.length, List.replicate, Nat.sub, List.append, List.set, HX.ev, List.getElem?_cons_succ, List.getElem?_cons_zero, Option.getD_some, HAppend.hAppend, Append.append]
    refine HL.op rfl ?_
    try simp only [killFr, List.foldl, put, frame0, P2.h12, List.length, List.replicate, Nat.sub, List.append, List.set, HX.ev, List.getElem?_cons_succ, List.getElem?_cons_zero, Option.getD_some, HAppend.hAppend, Append.append]
    refine HL.op (v := .int .u8 c.toNat) (congrArg (same _) (hidx hc)) ?_
    try simp only [killFr, List.foldl, put, frame0, P2.h12, List.length, List.replicate, Nat.sub, List.append, List.set, HX.ev, List.getElem?_cons_succ, List.getElem?_cons_zero, Option.getD_some, HAppend.hAppend, Append.append]
    refine HL.op (v := .bool (decide ((c.toNat : Int) < 48))) rfl ?_
    try simp only [killFr, List.foldl, put, frame0, P2.h12, List.length, List.replicate, Nat.sub, List.append, List.set, HX.ev, List.getElem?_cons_succ, List.getElem?_cons_zero, Option.getD_some, HAppend.hAppend, Append.append]
    refine HL.op rfl ?_
    try simp only [killFr, List.foldl, put, frame0, P2.h12, List.length, List.replicate, Nat.sub, List.append, List.set, HX.ev, List.getElem?_cons_succ, List.getElem?_cons_zero, Option.getD_some, HAppend.hAppend, Append.append]
    cases g1 : decide ((c.toNat : Int) < 48) with
    | true =>
      have g1' := of_decide_eq_true g1
      refine HL.opNot rfl ?_
      try simp only [killFr, List.foldl, put, frame0, P2.h12, List.length, List.replicate, Nat.sub, List.append, List.set, HX.ev, List.getElem?_cons_succ, List.getElem?_cons_zero, Option.getD_some, HAppend.hAppend, Append.append]
      refine HL.opNot rfl ?_
      try simp only [killFr, List.foldl, put, frame0, P2.h12, List.length, List.replicate, Nat.sub, List.append, List.set, HX.ev, List.getElem?_cons_succ, List.getElem?_cons_zero, Option.getD_some, HAppend.hAppend, Append.append]
      refine HL.opNot rfl ?_
      try simp only [killFr, List.foldl, put, frame0, P2.h12, List.length, List.replicate, Nat.sub, List.append, List.set, HX.ev, List.getElem?_cons_succ, List.getElem?_cons_zero, Option.getD_some, HAppend.hAppend, Append.append]
      refine HL.opNot rfl ?_
      try simp only [killFr, List.foldl, put, frame0, P2.h12, List.length, List.replicate, Nat.sub, List.append, List.set, HX.ev, List.getElem?_cons_succ, List.getElem?_cons_zero, Option.getD_some, HAppend.hAppend, Append.append]
      refine HL.op (pickT rfl rfl) (HL.nil ?_)
      try simp only [killFr, List.foldl, put, frame0, P2.h12, List.length, List.replicate, Nat.sub, List.append, List.set, HX.ev, List.getElem?_cons_succ, List.getElem?_cons_zero, Option.getD_some, HAppend.hAppend, Append.append]
      show HW Tryd.prog _ _ _ _
      refine HW.cond (t := true) rfl (HW.seq (HW.region ?_))
      refine HL.op rfl ?_
      try simp only [killFr, List.foldl, put, frame0, P2.h12, List.length, List.replicate, Nat.sub, List.append, List.set, HX.ev, List.getElem?_cons_succ, List.getElem?_cons_zero, Option.getD_some, HAppend.hAppend, Append.append]
      refine HL.op rfl (HL.nil (HW.ret ?_))
      try simp only [killFr, List.foldl, put, frame0, P2.h12, List.length, List.replicate, Nat.sub, List.append, List.set, HX.ev, List.getElem?_cons_succ, List.getElem?_cons_zero, Option.getD_some, HAppend.hAppend, Append.append]
      refine ⟨rfl, _, rfl, ?_⟩
      rw [hrun, runP_bad hc (n := n) (by unfold stepP; rw [if_neg]; omega)]; rfl
    | false =>
      have g1' := of_decide_eq_false g1
      refine HL.opIf rfl rfl ?_
      try simp only [killFr, List.foldl, put, frame0, P2.h12, List.length, List.replicate, Nat.sub, List.append, List.set, HX.ev, List.getElem?_cons_succ, List.getElem?_cons_zero, Option.getD_some, HAppend.hAppend, Append.append]
      refine HL.opIf rfl rfl ?_
      try simp only [killFr, List.foldl, put, frame0, P2.h12, List.length, List.replicate, Nat.sub, List.append, List.set, HX.ev, List.getElem?_cons_succ, List.getElem?_cons_zero, Option.getD_some, HAppend.hAppend, Append.append]
      refine HL.opIf (v := .int .u8 c.toNat) rfl (congrArg (same _) (hidx hc)) ?_
      try simp only [killFr, List.foldl, put, frame0, P2.h12, List.length, List.replicate, Nat.sub, List.append, List.set, HX.ev, List.getElem?_cons_succ, List.getElem?_cons_zero, Option.getD_some, HAppend.hAppend, Append.append]
      refine HL.opIf (v := .bool (decide ((c.toNat : Int) > 57))) rfl rfl ?_
      try simp only [killFr, List.foldl, put, frame0, P2.h12, List.length, List.replicate, Nat.sub, List.append, List.set, HX.ev, List.getElem?_cons_succ, List.getElem?_cons_zero, Option.getD_some, HAppend.hAppend, Append.append]
      refine HL.op (pickF rfl rfl) (HL.nil ?_)
      try simp only [killFr, List.foldl, put, frame0, P2.h12, List.length, List.replicate, Nat.sub, List.append, List.set, HX.ev, List.getElem?_cons_succ, List.getElem?_cons_zero, Option.getD_some, HAppend.hAppend, Append.append]
      show HW Tryd.prog _ _ _ _
      cases g2 : decide ((c.toNat : Int) > 57) with
      | true =>
        have g2' := of_decide_eq_true g2
        refine HW.cond (t := true) rfl (HW.seq (HW.region ?_))
        refine HL.op rfl ?_
        try simp only [killFr, List.foldl, put, frame0, P2.h12, List.length, List.replicate, Nat.sub, List.append, List.set, HX.ev, List.getElem?_cons_succ, List.getElem?_cons_zero, Option.getD_some, HAppend.hAppend, Append.append]
        refine HL.op rfl (HL.nil (HW.ret ?_))
        try simp only [killFr, List.foldl, put, frame0, P2.h12, List.length, List.replicate, Nat.sub, List.append, List.set, HX.ev, List.getElem?_cons_succ, List.getElem?_cons_zero, Option.getD_some, HAppend.hAppend, Append.append]
        refine ⟨rfl, _, rfl, ?_⟩
        rw [hrun, runP_bad hc (n := n) (by unfold stepP; rw [if_neg]; omega)]; rfl
      | false =>
        have g2' := of_decide_eq_false g2
        refine HW.cond (t := false) rfl (HW.skip ?_)
        show HW Tryd.prog _ _ _ _
        refine HW.seq (HW.region ?_)
        refine HL.op rfl ?_
        try simp only [killFr, List.foldl, put, frame0, P2.h12, List.length, List.replicate, Nat.sub, List.append, List.set, HX.ev, List.getElem?_cons_succ, List.getElem?_cons_zero, Option.getD_some, HAppend.hAppend, Append.append]
        refine HL.op rfl ?_
        try simp only [killFr, List.foldl, put, frame0, P2.h12, List.length, List.replicate, Nat.sub, List.append, List.set, HX.ev, List.getElem?_cons_succ, List.getElem?_cons_zero, Option.getD_some, HAppend.hAppend, Append.append]
        refine HL.op (v := .int .u8 c.toNat) (congrArg (same _) (hidx hc)) ?_
        try simp only [killFr, List.foldl, put, frame0, P2.h12, List.length, List.replicate, Nat.sub, List.append, List.set, HX.ev, List.getElem?_cons_succ, List.getElem?_cons_zero, Option.getD_some, HAppend.hAppend, Append.append]
        refine HL.op (v := .int .u8 ((c.toNat - 48 : Nat) : Int)) (congrArg (same _) (hsub8 (by omega) (by omega))) ?_
        try simp only [killFr, List.foldl, put, frame0, P2.h12, List.length, List.replicate, Nat.sub, List.append, List.set, HX.ev, List.getElem?_cons_succ, List.getElem?_cons_zero, Option.getD_some, HAppend.hAppend, Append.append]
        refine HL.op (v := .int .i64 ((c.toNat - 48 : Nat) : Int)) (congrArg (same _) (hconv (by omega))) ?_
        try simp only [killFr, List.foldl, put, frame0, P2.h12, List.length, List.replicate, Nat.sub, List.append, List.set, HX.ev, List.getElem?_cons_succ, List.getElem?_cons_zero, Option.getD_some, HAppend.hAppend, Append.append]
        refine HL.op rfl (HL.nil ?_)
        try simp only [killFr, List.foldl, put, frame0, P2.h12, List.length, List.replicate, Nat.sub, List.append, List.set, HX.ev, List.getElem?_cons_succ, List.getElem?_cons_zero, Option.getD_some, HAppend.hAppend, Append.append]
        show HW Tryd.prog _ _ _ _
        refine HW.seq (HW.seq (HW.region ?_))
        refine HL.op rfl ?_
        try simp only [killFr, List.foldl, put, frame0, P2.h12, List.length, List.replicate, Nat.sub, List.append, List.set, HX.ev, List.getElem?_cons_succ, List.getElem?_cons_zero, Option.getD_some, HAppend.hAppend, Append.append]
        refine HL.op rfl ?_
        try simp only [killFr, List.foldl, put, frame0, P2.h12, List.length, List.replicate, Nat.sub, List.append, List.set, HX.ev, List.getElem?_cons_succ, List.getElem?_cons_zero, Option.getD_some, HAppend.hAppend, Append.append]
        refine HL.op (v := .bool (decide (((c.toNat - 48 : Nat) : Int) > (M : Int)))) rfl ?_
        try simp only [killFr, List.foldl, put, frame0, P2.h12, List.length, List.replicate, Nat.sub, List.append, List.set, HX.ev, List.getElem?_cons_succ, List.getElem?_cons_zero, Option.getD_some, HAppend.hAppend, Append.append]
        refine HL.op rfl ?_
        try simp only [killFr, List.foldl, put, frame0, P2.h12, List.length, List.replicate, Nat.sub, List.append, List.set, HX.ev, List.getElem?_cons_succ, List.getElem?_cons_zero, Option.getD_some, HAppend.hAppend, Append.append]
        cases g3 : decide (((c.toNat - 48 : Nat) : Int) > (M : Int)) with
        | true =>
          have g3' := of_decide_eq_true g3
          refine HL.opNot rfl ?_
          try simp only [killFr, List.foldl, put, frame0, P2.h12, List.length, List.replicate, Nat.sub, List.append, List.set, HX.ev, List.getElem?_cons_succ, List.getElem?_cons_zero, Option.getD_some, HAppend.hAppend, Append.append]
          refine HL.opNot rfl ?_
          try simp only [killFr, List.foldl, put, frame0, P2.h12, List.length, List.replicate, Nat.sub, List.append, List.set, HX.ev, List.getElem?_cons_succ, List.getElem?_cons_zero, Option.getD_some, HAppend.hAppend, Append.append]
          refine HL.opNot rfl ?_
          try simp only [killFr, List.foldl, put, frame0, P2.h12, List.length, List.replicate, Nat.sub, List.append, List.set, HX.ev, List.getElem?_cons_succ, List.getElem?_cons_zero, Option.getD_some, HAppend.hAppend, Append.append]
          refine HL.opNot rfl ?_
          try simp only [killFr, List.foldl, put, frame0, P2.h12, List.length, List.replicate, Nat.sub, List.append, List.set, HX.ev, List.getElem?_cons_succ, List.getElem?_cons_zero, Option.getD_some, HAppend.hAppend, Append.append]
          refine HL.opNot rfl ?_
          try simp only [killFr, List.foldl, put, frame0, P2.h12, List.length, List.replicate, Nat.sub, List.append, List.set, HX.ev, List.getElem?_cons_succ, List.getElem?_cons_zero, Option.getD_some, HAppend.hAppend, Append.append]
          refine HL.opNot rfl ?_
          try simp only [killFr, List.foldl, put, frame0, P2.h12, List.length, List.replicate, Nat.sub, List.append, List.set, HX.ev, List.getElem?_cons_succ, List.getElem?_cons_zero, Option.getD_some, HAppend.hAppend, Append.append]
          refine HL.op (pickT rfl rfl) (HL.nil ?_)
          try simp only [killFr, List.foldl, put, frame0, P2.h12, List.length, List.replicate, Nat.sub, List.append, List.set, HX.ev, List.getElem?_cons_succ, List.getElem?_cons_zero, Option.getD_some, HAppend.hAppend, Append.append]
          show HW Tryd.prog _ _ _ _
          refine HW.cond (t := true) rfl (HW.seq (HW.region ?_))
          refine HL.op rfl ?_
          try simp only [killFr, List.foldl, put, frame0, P2.h12, List.length, List.replicate, Nat.sub, List.append, List.set, HX.ev, List.getElem?_cons_succ, List.getElem?_cons_zero, Option.getD_some, HAppend.hAppend, Append.append]
          refine HL.op rfl (HL.nil (HW.ret ?_))
          try simp only [killFr, List.foldl, put, frame0, P2.h12, List.length, List.replicate, Nat.sub, List.append, List.set, HX.ev, List.getElem?_cons_succ, List.getElem?_cons_zero, Option.getD_some, HAppend.hAppend, Append.append]
          refine ⟨rfl, _, rfl, ?_⟩
          rw [hrun, runP_bad hc (n := n) (by unfold stepP; rw [if_neg]; omega)]; rfl
        | false =>
          have g3' := of_decide_eq_false g3
          refine HL.opIf rfl rfl ?_
          try simp only [killFr, List.foldl, put, frame0, P2.h12, List.length, List.replicate, Nat.sub, List.append, List.set, HX.ev, List.getElem?_cons_succ, List.getElem?_cons_zero, Option.getD_some, HAppend.hAppend, Append.append]
          refine HL.opIf rfl rfl ?_
          try simp only [killFr, List.foldl, put, frame0, P2.h12, List.length, List.replicate, Nat.sub, List.append, List.set, HX.ev, List.getElem?_cons_succ, List.getElem?_cons_zero, Option.getD_some, HAppend.hAppend, Append.append]
          refine HL.opIf rfl rfl ?_
          try simp only [killFr, List.foldl, put, frame0, P2.h12, List.length, List.replicate, Nat.sub, List.append, List.set, HX.ev, List.getElem?_cons_succ, List.getElem?_cons_zero, Option.getD_some, HAppend.hAppend, Append.append]
          refine HL.opIf (v := .int .i64 ((M - (c.toNat - 48) : Nat) : Int)) rfl (congrArg (same _) (hsubN hM (by omega))) ?_
          try simp only [killFr, List.foldl, put, frame0, P2.h12, List.length, List.replicate, Nat.sub, List.append, List.set, HX.ev, List.getElem?_cons_succ, List.getElem?_cons_zero, Option.getD_some, HAppend.hAppend, Append.append]
          refine HL.opIf (v := .int .i64 (((M - (c.toNat - 48)) / 10 : Nat) : Int)) rfl (congrArg (same _) (hquo (by omega))) ?_
          try simp only [killFr, List.foldl, put, frame0, P2.h12, List.length, List.replicate, Nat.sub, List.append, List.set, HX.ev, List.getElem?_cons_succ, List.getElem?_cons_zero, Option.getD_some, HAppend.hAppend, Append.append]
          refine HL.opIf (v := .bool (decide ((n : Int) > (((M - (c.toNat - 48)) / 10 : Nat) : Int)))) rfl rfl ?_
          try simp only [killFr, List.foldl, put, frame0, P2.h12, List.length, List.replicate, Nat.sub, List.append, List.set, HX.ev, List.getElem?_cons_succ, List.getElem?_cons_zero, Option.getD_some, HAppend.hAppend, Append.append]
          refine HL.op (pickF rfl rfl) (HL.nil ?_)
          try simp only [killFr, List.foldl, put, frame0, P2.h12, List.length, List.replicate, Nat.sub, List.append, List.set, HX.ev, List.getElem?_cons_succ, List.getElem?_cons_zero, Option.getD_some, HAppend.hAppend, Append.append]
          show HW Tryd.prog _ _ _ _
          cases g4 : decide ((n : Int) > (((M - (c.toNat - 48)) / 10 : Nat) : Int)) with
          | true =>
            have g4' := of_decide_eq_true g4
            refine HW.cond (t := true) rfl (HW.seq (HW.region ?_))
            refine HL.op rfl ?_
            try simp only [killFr, List.foldl, put, frame0, P2.h12, List.length, List.replicate, Nat.sub, List.append, List.set, HX.ev, List.getElem?_cons_succ, List.getElem?_cons_zero, Option.getD_some, HAppend.hAppend, Append.append]
            refine HL.op rfl (HL.nil (HW.ret ?_))
            try simp only [killFr, List.foldl, put, frame0, P2.h12, List.length, List.replicate, Nat.sub, List.append, List.set, HX.ev, List.getElem?_cons_succ, List.getElem?_cons_zero, Option.getD_some, HAppend.hAppend, Append.append]
            refine ⟨rfl, _, rfl, ?_⟩
            rw [hrun, runP_bad hc (n := n) (by unfold stepP; rw [if_neg]; omega)]; rfl
          | false =>
            have g4' := of_decide_eq_false g4
            refine HW.cond (t := false) rfl (HW.skip ?_)
            show HW Tryd.prog _ _ _ _
            refine HW.region ?_
            refine HL.op rfl ?_
            try simp only [killFr, List.foldl, put, frame0, P2.h12, List.length, List.replicate, Nat.sub, List.append, List.set, HX.ev, List.getElem?_cons_succ, List.getElem?_cons_zero, Option.getD_some, HAppend.hAppend, Append.append]
            refine HL.op (v := .int .i64 ((10 * n : Nat) : Int)) (congrArg (same _) (hmul' (by omega))) ?_
            try simp only [killFr, List.foldl, put, frame0, P2.h12, List.length, List.replicate, Nat.sub, List.append, List.set, HX.ev, List.getElem?_cons_succ, List.getElem?_cons_zero, Option.getD_some, HAppend.hAppend, Append.append]
            refine HL.op rfl ?_
            try simp only [killFr, List.foldl, put, frame0, P2.h12, List.length, List.replicate, Nat.sub, List.append, List.set, HX.ev, List.getElem?_cons_succ, List.getElem?_cons_zero, Option.getD_some, HAppend.hAppend, Append.append]
            refine HL.op (v := .int .i64 ((10 * n + (c.toNat - 48) : Nat) : Int)) (congrArg (same _) (hadd (by omega))) ?_
            try simp only [killFr, List.foldl, put, frame0, P2.h12, List.length, List.replicate, Nat.sub, List.append, List.set, HX.ev, List.getElem?_cons_succ, List.getElem?_cons_zero, Option.getD_some, HAppend.hAppend, Append.append]
            refine HL.op rfl (HL.nil ?_)
            try simp only [killFr, List.foldl, put, frame0, P2.h12, List.length, List.replicate, Nat.sub, List.append, List.set, HX.ev, List.getElem?_cons_succ, List.getElem?_cons_zero, Option.getD_some, HAppend.hAppend, Append.append]
            show HW Tryd.prog _ _ _ _
            refine HW.region ?_
            refine HL.op rfl ?_
            try simp only [killFr, List.foldl, put, frame0, P2.h12, List.length, List.replicate, Nat.sub, List.append, List.set, HX.ev, List.getElem?_cons_succ, List.getElem?_cons_zero, Option.getD_some, HAppend.hAppend, Append.append]
            refine HL.op (v := .int .i64 ((i + 1 : Nat) : Int)) (congrArg (same []) (hadd1 (by omega))) ?_
            try simp only [killFr, List.foldl, put, frame0, P2.h12, List.length, List.replicate, Nat.sub, List.append, List.set, HX.ev, List.getElem?_cons_succ, List.getElem?_cons_zero, Option.getD_some, HAppend.hAppend, Append.append]
            refine HL.op rfl (HL.nil ?_)
            try simp only [killFr, List.foldl, put, frame0, P2.h12, List.length, List.replicate, Nat.sub, List.append, List.set, HX.ev, List.getElem?_cons_succ, List.getElem?_cons_zero, Option.getD_some, HAppend.hAppend, Append.append]
            have hstep : stepP M n c = some (10 * n + (c.toNat - 48)) := by
              unfold stepP
              rw [if_pos (by omega)]
            refine ⟨s.length - (i + 1), by omega, i + 1, 10 * n + (c.toNat - 48), by omega, rfl, rfl, by omega, by rw [hrun, runP_ok hc hstep], ?_⟩
            unfold base12
            repeat first | exact Less.nil | refine Less.undef _ ?_ | refine Less.keep _ ?_
end W
end Go.Proofs.YteedidafobfijaaDoor
