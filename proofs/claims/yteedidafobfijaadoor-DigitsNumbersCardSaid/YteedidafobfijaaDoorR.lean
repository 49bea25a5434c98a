/-
  stintref01.Print: what it answers at any number (printed by a program of this claim's maker).
-/
import Derived.Test.YteedidafobfijaaDoorF3
import Derived.Test.YteedidafobfijaaDoorP
import Derived.Lib.ItoaNum
namespace Go.Proofs.YteedidafobfijaaDoor
open Go Go.HL
namespace W
set_option maxRecDepth 100000
set_option maxHeartbeats 4000000
set_option linter.unusedSimpArgs false

theorem hrem {a : Nat} : hbin .rem none (.int .i64 a) (.int .i64 10) = some (.int .i64 ((a % 10 : Nat) : Int)) := by
  have h0 : hbin .rem none (.int .i64 a) (.int .i64 10) = some (.int .i64 ((a : Int).tmod 10)) := rfl
  have h1 : (a : Int).tmod 10 = ((a % 10 : Nat) : Int) := (Int.ofNat_tmod a 10).symm
  rw [h0, h1]
theorem hconv8 {d : Nat} (h : d < 10) : hconvInt .u8 (.int .i64 ((48 + d : Nat) : Int)) = some (.int .u8 ((UInt8.ofNat (48 + d)).toNat : Int)) := by
  have h0 : hconvInt .u8 (.int .i64 ((48 + d : Nat) : Int)) = some (.int .u8 (wr .u8 ((48 + d : Nat) : Int))) := rfl
  have h1 : wr .u8 ((48 + d : Nat) : Int) = ((UInt8.ofNat (48 + d)).toNat : Int) := by
    show ((48 + d : Nat) : Int) % 256 = _
    have hx : (UInt8.ofNat (48 + d)).toNat = (48 + d) % 256 := rfl
    rw [hx]
    omega
  rw [h0, h1]
theorem hbyte (c : UInt8) (hs : HS) : hbuildSlice hs 1 1 [.int .u8 0] [(0, 1, .int .u8 c.toNat)] = some (.slice hs.length 0 1 (some 1), hs ++ [some (.cells 1 [.int .u8 c.toNat] false false [])]) := rfl
theorem hstr (c : UInt8) (hs : HS) : hb2s (hs ++ [some (.cells 1 [.int .u8 c.toNat] false false [])]) (.slice hs.length 0 1 (some 1)) = some (.str [c]) := by
  simp [hb2s, takeCells, asBytes]
theorem happ {a b : List UInt8} (h : a.length + b.length ≤ maxLen) : hbin .add none (.str a) (.str b) = some (.str (a ++ b)) := by
  have h0 : hbin .add none (.str a) (.str b) = (if a.length + b.length ≤ maxLen then some (.str (a ++ b)) else none) := rfl
  rw [h0, if_pos h]
theorem dec_big {m : Nat} (h : ¬ m < 10) : Lib.decDigits m = Lib.decDigits (m / 10) ++ [UInt8.ofNat (48 + m % 10)] := by rw [Lib.decDigits, dif_neg h]

def base14 (m : Nat) (acc : List UInt8) : List HV :=
  [.int .i64 m, .undef, .str [], .str acc, .undef, .undef, .undef, .undef, .undef, .undef, .undef, .undef, .undef, .undef, .undef, .undef, .undef, .undef, .undef, .undef, .undef, .undef, .undef, .undef, .undef]
def I14 (n : Nat) (k : Nat) (fr : List HV) (_ : HS) : Prop :=
  ∃ (m : Nat) (acc r : List UInt8), k = m ∧ acc.length + m ≤ n + 1 ∧ m ≤ n ∧ (if m < 10 then r = [] else r = Lib.decDigits (m / 10)) ∧ Lib.decDigits n = r ++ acc ∧ Less (base14 m acc) fr

theorem print14 (n : Nat) (hn : n < 9223372036854775808) : HC Tryd.prog 14 [.int .i64 n] [] fun v _ => v = .str (Lib.decDigits n) := by
  have hm0 : decide ((n : Int) < 0) = false := decide_eq_false (by omega)
  refine HC.body Tryd.func14 P3.c14 ?_
  refine HW.seq (HW.region (HL.op rfl (HL.nil ?_)))
  try simp only [killFr, List.foldl, put, frame0, P3.h14, List.length, List.replicate, Nat.sub, List.append, List.set, HX.ev, List.getElem?_cons_succ, List.getElem?_cons_zero, Option.getD_some, HAppend.hAppend, Append.append]
  refine HW.seq (HW.seq (HW.region ?_))
  refine HL.op rfl ?_
  try simp only [killFr, List.foldl, put, frame0, P3.h14, List.length, List.replicate, Nat.sub, List.append, List.set, HX.ev, List.getElem?_cons_succ, List.getElem?_cons_zero, Option.getD_some, HAppend.hAppend, Append.append]
  refine HL.op (v := .bool false) (congrArg (fun b => some (HV.bool b, _)) hm0) (HL.nil ?_)
  try simp only [killFr, List.foldl, put, frame0, P3.h14, List.length, List.replicate, Nat.sub, List.append, List.set, HX.ev, List.getElem?_cons_succ, List.getElem?_cons_zero, Option.getD_some, HAppend.hAppend, Append.append]
  show HW Tryd.prog _ _ _ _
  refine HW.cond (t := false) rfl (HW.skip ?_)
  show HW Tryd.prog _ _ _ _
  refine HW.seq (HW.region ?_)
  refine HL.op rfl ?_
  try simp only [killFr, List.foldl, put, frame0, P3.h14, List.length, List.replicate, Nat.sub, List.append, List.set, HX.ev, List.getElem?_cons_succ, List.getElem?_cons_zero, Option.getD_some, HAppend.hAppend, Append.append]
  refine HL.op (v := .int .i64 ((n % 10 : Nat) : Int)) (congrArg (same _) hrem) ?_
  try simp only [killFr, List.foldl, put, frame0, P3.h14, List.length, List.replicate, Nat.sub, List.append, List.set, HX.ev, List.getElem?_cons_succ, List.getElem?_cons_zero, Option.getD_some, HAppend.hAppend, Append.append]
  refine HL.op (v := .int .i64 ((48 + n % 10 : Nat) : Int)) (congrArg (same _) (hadd (a := 48) (by omega))) ?_
  try simp only [killFr, List.foldl, put, frame0, P3.h14, List.length, List.replicate, Nat.sub, List.append, List.set, HX.ev, List.getElem?_cons_succ, List.getElem?_cons_zero, Option.getD_some, HAppend.hAppend, Append.append]
  refine HL.op (v := .int .u8 ((UInt8.ofNat (48 + n % 10)).toNat : Int)) (congrArg (same _) (hconv8 (by omega))) ?_
  try simp only [killFr, List.foldl, put, frame0, P3.h14, List.length, List.replicate, Nat.sub, List.append, List.set, HX.ev, List.getElem?_cons_succ, List.getElem?_cons_zero, Option.getD_some, HAppend.hAppend, Append.append]
  refine HL.op (hbyte (UInt8.ofNat (48 + n % 10)) []) ?_
  try simp only [killFr, List.foldl, put, frame0, P3.h14, List.length, List.replicate, Nat.sub, List.append, List.set, HX.ev, List.getElem?_cons_succ, List.getElem?_cons_zero, Option.getD_some, HAppend.hAppend, Append.append]
  refine HL.op (v := .str [UInt8.ofNat (48 + n % 10)]) (congrArg (same _) (hstr (UInt8.ofNat (48 + n % 10)) [])) ?_
  try simp only [killFr, List.foldl, put, frame0, P3.h14, List.length, List.replicate, Nat.sub, List.append, List.set, HX.ev, List.getElem?_cons_succ, List.getElem?_cons_zero, Option.getD_some, HAppend.hAppend, Append.append]
  refine HL.op rfl (HL.nil ?_)
  try simp only [killFr, List.foldl, put, frame0, P3.h14, List.length, List.replicate, Nat.sub, List.append, List.set, HX.ev, List.getElem?_cons_succ, List.getElem?_cons_zero, Option.getD_some, HAppend.hAppend, Append.append]
  show HW Tryd.prog _ _ _ _
  refine HW.seq (HW.block (HW.loop (I14 n) n ⟨n, [UInt8.ofNat (48 + n % 10)], if n < 10 then [] else Lib.decDigits (n / 10), rfl, by simp; omega, by omega, by split <;> rfl, ?_, ?_⟩ ?_))
  · by_cases h : n < 10
    · rw [if_pos h, Lib.decDigits_one h, Nat.mod_eq_of_lt h]; rfl
    · rw [if_neg h]; exact dec_big h
  · unfold base14
    repeat first | exact Less.nil | refine Less.undef _ ?_ | refine Less.keep _ ?_
  rintro k fr hs ⟨m, acc, r, rfl, hacc, hmn, hr, hdec, hL⟩
  refine HW.less hL ?_
  unfold base14
  refine HW.seq (HW.seq (HW.region ?_))
  refine HL.op rfl ?_
  try simp only [killFr, List.foldl, put, frame0, P3.h14, List.length, List.replicate, Nat.sub, List.append, List.set, HX.ev, List.getElem?_cons_succ, List.getElem?_cons_zero, Option.getD_some, HAppend.hAppend, Append.append]
  refine HL.op (v := .bool (decide ((k : Int) ≥ 10))) rfl (HL.nil ?_)
  try simp only [killFr, List.foldl, put, frame0, P3.h14, List.length, List.replicate, Nat.sub, List.append, List.set, HX.ev, List.getElem?_cons_succ, List.getElem?_cons_zero, Option.getD_some, HAppend.hAppend, Append.append]
  show HW Tryd.prog _ _ _ _
  cases h4 : decide ((k : Int) ≥ 10) with
  | false =>
    have hk : k < 10 := by have := of_decide_eq_false h4; omega
    refine HW.cond (t := false) rfl (HW.exit ?_)
    simp only [HThen, HBlock, if_true]
    refine HW.seq (HW.region ?_)
    refine HL.op rfl ?_
    try simp only [killFr, List.foldl, put, frame0, P3.h14, List.length, List.replicate, Nat.sub, List.append, List.set, HX.ev, List.getElem?_cons_succ, List.getElem?_cons_zero, Option.getD_some, HAppend.hAppend, Append.append]
    refine HL.op rfl (HL.nil (HW.ret ?_))
    try simp only [killFr, List.foldl, put, frame0, P3.h14, List.length, List.replicate, Nat.sub, List.append, List.set, HX.ev, List.getElem?_cons_succ, List.getElem?_cons_zero, Option.getD_some, HAppend.hAppend, Append.append]
    refine ⟨rfl, _, rfl, ?_⟩
    rw [if_pos hk] at hr
    rw [hdec, hr]; rfl
  | true =>
    have hk : ¬ k < 10 := by have := of_decide_eq_true h4; omega
    rw [if_neg hk] at hr
    refine HW.cond (t := true) rfl (HW.skip ?_)
    show HW Tryd.prog _ _ _ _
    refine HW.block (HW.seq (HW.region ?_))
    refine HL.op rfl ?_
    try simp only [killFr, List.foldl, put, frame0, P3.h14, List.length, List.replicate, Nat.sub, List.append, List.set, HX.ev, List.getElem?_cons_succ, List.getElem?_cons_zero, Option.getD_some, HAppend.hAppend, Append.append]
    refine HL.op (v := .int .i64 ((k / 10 : Nat) : Int)) (congrArg (same _) (hquo (by omega))) ?_
    try simp only [killFr, List.foldl, put, frame0, P3.h14, List.length, List.replicate, Nat.sub, List.append, List.set, HX.ev, List.getElem?_cons_succ, List.getElem?_cons_zero, Option.getD_some, HAppend.hAppend, Append.append]
    refine HL.op rfl (HL.nil ?_)
    try simp only [killFr, List.foldl, put, frame0, P3.h14, List.length, List.replicate, Nat.sub, List.append, List.set, HX.ev, List.getElem?_cons_succ, List.getElem?_cons_zero, Option.getD_some, HAppend.hAppend, Append.append]
    show HW Tryd.prog _ _ _ _
    refine HW.region ?_
    refine HL.op rfl ?_
    try simp only [killFr, List.foldl, put, frame0, P3.h14, List.length, List.replicate, Nat.sub, List.append, List.set, HX.ev, List.getElem?_cons_succ, List.getElem?_cons_zero, Option.getD_some, HAppend.hAppend, Append.append]
    refine HL.op (v := .int .i64 ((k / 10 % 10 : Nat) : Int)) (congrArg (same _) hrem) ?_
    try simp only [killFr, List.foldl, put, frame0, P3.h14, List.length, List.replicate, Nat.sub, List.append, List.set, HX.ev, List.getElem?_cons_succ, List.getElem?_cons_zero, Option.getD_some, HAppend.hAppend, Append.append]
    refine HL.op (v := .int .i64 ((48 + k / 10 % 10 : Nat) : Int)) (congrArg (same _) (hadd (a := 48) (by omega))) ?_
    try simp only [killFr, List.foldl, put, frame0, P3.h14, List.length, List.replicate, Nat.sub, List.append, List.set, HX.ev, List.getElem?_cons_succ, List.getElem?_cons_zero, Option.getD_some, HAppend.hAppend, Append.append]
    refine HL.op (v := .int .u8 ((UInt8.ofNat (48 + k / 10 % 10)).toNat : Int)) (congrArg (same _) (hconv8 (by omega))) ?_
    try simp only [killFr, List.foldl, put, frame0, P3.h14, List.length, List.replicate, Nat.sub, List.append, List.set, HX.ev, List.getElem?_cons_succ, List.getElem?_cons_zero, Option.getD_some, HAppend.hAppend, Append.append]
    refine HL.op (hbyte (UInt8.ofNat (48 + k / 10 % 10)) hs) ?_
    try simp only [killFr, List.foldl, put, frame0, P3.h14, List.length, List.replicate, Nat.sub, List.append, List.set, HX.ev, List.getElem?_cons_succ, List.getElem?_cons_zero, Option.getD_some, HAppend.hAppend, Append.append]
    refine HL.op (v := .str [UInt8.ofNat (48 + k / 10 % 10)]) (congrArg (same _) (hstr (UInt8.ofNat (48 + k / 10 % 10)) hs)) ?_
    try simp only [killFr, List.foldl, put, frame0, P3.h14, List.length, List.replicate, Nat.sub, List.append, List.set, HX.ev, List.getElem?_cons_succ, List.getElem?_cons_zero, Option.getD_some, HAppend.hAppend, Append.append]
    refine HL.op rfl ?_
    try simp only [killFr, List.foldl, put, frame0, P3.h14, List.length, List.replicate, Nat.sub, List.append, List.set, HX.ev, List.getElem?_cons_succ, List.getElem?_cons_zero, Option.getD_some, HAppend.hAppend, Append.append]
    refine HL.op (v := .str ([UInt8.ofNat (48 + k / 10 % 10)] ++ acc)) (congrArg (same _) (happ (by unfold maxLen; simp; omega))) ?_
    try simp only [killFr, List.foldl, put, frame0, P3.h14, List.length, List.replicate, Nat.sub, List.append, List.set, HX.ev, List.getElem?_cons_succ, List.getElem?_cons_zero, Option.getD_some, HAppend.hAppend, Append.append]
    refine HL.op rfl (HL.nil ?_)
    try simp only [killFr, List.foldl, put, frame0, P3.h14, List.length, List.replicate, Nat.sub, List.append, List.set, HX.ev, List.getElem?_cons_succ, List.getElem?_cons_zero, Option.getD_some, HAppend.hAppend, Append.append]
    refine ⟨k / 10, by omega, k / 10, [UInt8.ofNat (48 + k / 10 % 10)] ++ acc, if k / 10 < 10 then [] else Lib.decDigits (k / 10 / 10), rfl, by simp; omega, by omega, by split <;> rfl, ?_, ?_⟩
    · rw [hdec, hr]
      by_cases h : k / 10 < 10
      · rw [if_pos h, Lib.decDigits_one h, Nat.mod_eq_of_lt h]; rfl
      · rw [if_neg h, dec_big h, List.append_assoc]
    · unfold base14
      repeat first | exact Less.nil | refine Less.undef _ ?_ | refine Less.keep _ ?_
end W
end Go.Proofs.YteedidafobfijaaDoor
