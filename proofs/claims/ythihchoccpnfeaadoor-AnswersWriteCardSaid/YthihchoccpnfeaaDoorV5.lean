/-
  stintref05.Valid: what it answers at any text (printed by a program of this claim's maker).
  stintref01.Print: what it answers at any number (printed by a program of this claim's maker).
-/
import Derived.Test.YthihchoccpnfeaaDoorV2
import Derived.Test.YthihchoccpnfeaaDoorA
import Derived.Test.YthihchoccpnfeaaDoorHLByte
import Derived.Lib.ItoaNum
namespace Go.Proofs.YthihchoccpnfeaaDoor
open Go Go.HL
namespace V
set_option maxRecDepth 100000
set_option maxHeartbeats 4000000
set_option linter.unusedSimpArgs false

def oth : List UInt8 := [45, 43, 47, 59, 46, 36, 95, 40, 41]
def inR (c : UInt8) : Bool := (decide ((c.toNat : Int) ≥ 97) && decide ((c.toNat : Int) ≤ 122)) || (decide ((c.toNat : Int) ≥ 65) && decide ((c.toNat : Int) ≤ 90)) || (decide ((c.toNat : Int) ≥ 48) && decide ((c.toNat : Int) ≤ 57))
def acc (c : UInt8) (k : Nat) : Bool := inR c || (oth.take k).any fun d => decide ((c.toNat : Int) = d.toNat)
theorem acc_check : ((List.range 256).all fun n => acc (UInt8.ofNat n) 9 == mayB n) = true := by kernel_rfl
theorem acc_all (c : UInt8) : acc c 9 = mayB c.toNat := by
  have h := List.all_eq_true.1 acc_check c.toNat (by simpa using c.toNat_lt)
  rw [UInt8.ofNat_toNat] at h
  simpa using h
theorem acc_succ (c d : UInt8) (k : Nat) (h : oth[k]? = some d) : acc c (k + 1) = (acc c k || decide ((c.toNat : Int) = d.toNat)) := by
  have : oth.take (k + 1) = oth.take k ++ [d] := by rw [List.take_add_one, h]; rfl
  unfold acc
  rw [this, List.any_append, Bool.or_assoc]
  simp

def base10 (s : List UInt8) (i : Nat) : List HV :=
  [.str s, .undef, .bool false, .str [45, 43, 47, 59, 46, 36, 95, 40, 41], .int .i64 i, .undef, .undef, .undef, .undef, .undef, .undef, .undef, .undef, .undef, .undef, .undef, .undef, .undef, .undef, .undef, .undef, .undef, .undef, .undef, .undef, .undef, .undef, .undef, .undef, .undef, .undef, .undef, .undef, .undef, .undef, .undef, .undef, .undef, .undef, .undef, .undef, .undef, .undef, .undef, .undef, .undef, .undef, .undef, .undef, .undef, .undef, .undef, .undef, .undef, .undef, .undef, .undef, .undef, .undef, .undef, .undef, .undef, .undef, .undef, .undef, .undef, .undef, .undef]
def inb (s : List UInt8) (i : Nat) (c : UInt8) (b : Bool) (k : Nat) : List HV :=
  [.str s, .undef, .bool false, .str [45, 43, 47, 59, 46, 36, 95, 40, 41], .int .i64 i, .int .u8 c.toNat, .bool b, .int .i64 k, .undef, .undef, .undef, .undef, .undef, .undef, .undef, .undef, .undef, .undef, .undef, .undef, .undef, .undef, .undef, .undef, .undef, .undef, .undef, .undef, .undef, .undef, .undef, .undef, .undef, .undef, .undef, .undef, .undef, .undef, .undef, .undef, .undef, .undef, .undef, .undef, .undef, .undef, .undef, .undef, .undef, .undef, .undef, .undef, .undef, .undef, .undef, .undef, .undef, .undef, .undef, .undef, .undef, .undef, .undef, .undef, .undef, .undef, .undef, .undef]
def mid (s : List UInt8) (i : Nat) (c : UInt8) (b : Bool) : List HV :=
  [.str s, .undef, .bool false, .str [45, 43, 47, 59, 46, 36, 95, 40, 41], .int .i64 i, .int .u8 c.toNat, .bool b, .undef, .undef, .undef, .undef, .undef, .undef, .undef, .undef, .undef, .undef, .undef, .undef, .undef, .undef, .undef, .undef, .undef, .undef, .undef, .undef, .undef, .undef, .undef, .undef, .undef, .undef, .undef, .undef, .undef, .undef, .undef, .undef, .undef, .undef, .undef, .undef, .undef, .undef, .undef, .undef, .undef, .undef, .undef, .undef, .undef, .undef, .undef, .undef, .undef, .undef, .undef, .undef, .undef, .undef, .undef, .undef, .undef, .undef, .undef, .undef, .undef]
def I10 (s : List UInt8) (n : Nat) (fr : List HV) (hs : HS) : Prop :=
  ∃ i, i ≤ s.length ∧ n = s.length - i ∧ hs = [] ∧ (∀ k c, k < i → s[k]? = some c → mayB c.toNat = true) ∧ Less (base10 s i) fr
def J10 (s : List UInt8) (i : Nat) (c : UInt8) (n : Nat) (fr : List HV) (hs : HS) : Prop :=
  ∃ k, k ≤ 9 ∧ n = 9 - k ∧ hs = [] ∧ Less (inb s i c (acc c k) k) fr

def reg8 : List HOper := [
  ⟨(some 30), (.op (.mv (.tmp 5))), none⟩,
  ⟨(some 31), (.op (.bin .geq none (.tmp 30) (.cst (.int .u8 97)))), none⟩,
  ⟨(some 32), (.op (.mv (.tmp 31))), none⟩,
  ⟨(some 33), (.op (.mv (.tmp 5))), (some (32, true))⟩,
  ⟨(some 34), (.op (.bin .leq none (.tmp 33) (.cst (.int .u8 122)))), (some (32, true))⟩,
  ⟨(some 35), (.op (.pick (.tmp 32) (.tmp 34) (.cst (.bool false)))), none⟩,
  ⟨(some 36), (.op (.mv (.tmp 35))), none⟩,
  ⟨(some 37), (.op (.mv (.tmp 5))), (some (36, false))⟩,
  ⟨(some 38), (.op (.bin .geq none (.tmp 37) (.cst (.int .u8 65)))), (some (36, false))⟩,
  ⟨(some 39), (.op (.mv (.tmp 38))), (some (36, false))⟩,
  ⟨(some 40), (.op (.mv (.tmp 5))), (some (39, true))⟩,
  ⟨(some 41), (.op (.bin .leq none (.tmp 40) (.cst (.int .u8 90)))), (some (39, true))⟩,
  ⟨(some 42), (.op (.pick (.tmp 39) (.tmp 41) (.cst (.bool false)))), (some (36, false))⟩,
  ⟨(some 43), (.op (.pick (.tmp 36) (.cst (.bool true)) (.tmp 42))), none⟩,
  ⟨(some 44), (.op (.mv (.tmp 43))), none⟩,
  ⟨(some 45), (.op (.mv (.tmp 5))), (some (44, false))⟩,
  ⟨(some 46), (.op (.bin .geq none (.tmp 45) (.cst (.int .u8 48)))), (some (44, false))⟩,
  ⟨(some 47), (.op (.mv (.tmp 46))), (some (44, false))⟩,
  ⟨(some 48), (.op (.mv (.tmp 5))), (some (47, true))⟩,
  ⟨(some 49), (.op (.bin .leq none (.tmp 48) (.cst (.int .u8 57)))), (some (47, true))⟩,
  ⟨(some 50), (.op (.pick (.tmp 47) (.tmp 49) (.cst (.bool false)))), (some (44, false))⟩,
  ⟨(some 51), (.op (.pick (.tmp 44) (.cst (.bool true)) (.tmp 50))), none⟩,
  ⟨(some 6), (.op (.mv (.tmp 51))), none⟩]

theorem reg8_does (s : List UInt8) (i : Nat) (c : UInt8) : HL Tryd.prog reg8 ([.str s, .undef, .bool false, .str [45, 43, 47, 59, 46, 36, 95, 40, 41], .int .i64 i, .int .u8 c.toNat, .undef, .undef, .undef, .undef, .undef, .undef, .undef, .undef, .undef, .undef, .undef, .undef, .undef, .undef, .undef, .undef, .undef, .undef, .undef, .undef, .undef, .undef, .undef, .undef, .undef, .undef, .undef, .undef, .undef, .undef, .undef, .undef, .undef, .undef, .undef, .undef, .undef, .undef, .undef, .undef, .undef, .undef, .undef, .undef, .undef, .undef, .undef, .undef, .undef, .undef, .undef, .undef, .undef, .undef, .undef, .undef, .undef, .undef, .undef, .undef, .undef, .undef]) [] fun fr hs => hs = [] ∧ Less (mid s i c (inR c)) fr := by
  unfold reg8
  refine HL.op rfl ?_
  try simp only [killFr, List.foldl, put, frame0, h56, List.length, List.replicate, Nat.sub, List.append, List.set, HX.ev, List.getElem?_cons_succ, List.getElem?_cons_zero, Option.getD_some, HAppend.hAppend, Append.append]
  refine HL.op (v := .bool (decide ((c.toNat : Int) ≥ 97))) rfl ?_
  try simp only [killFr, List.foldl, put, frame0, h56, List.length, List.replicate, Nat.sub, List.append, List.set, HX.ev, List.getElem?_cons_succ, List.getElem?_cons_zero, Option.getD_some, HAppend.hAppend, Append.append]
  refine HL.op rfl ?_
  try simp only [killFr, List.foldl, put, frame0, h56, List.length, List.replicate, Nat.sub, List.append, List.set, HX.ev, List.getElem?_cons_succ, List.getElem?_cons_zero, Option.getD_some, HAppend.hAppend, Append.append]
  cases g1 : decide ((c.toNat : Int) ≥ 97) with
  | true =>
    refine HL.opIf rfl rfl ?_
    try simp only [killFr, List.foldl, put, frame0, h56, List.length, List.replicate, Nat.sub, List.append, List.set, HX.ev, List.getElem?_cons_succ, List.getElem?_cons_zero, Option.getD_some, HAppend.hAppend, Append.append]
    refine HL.opIf (v := .bool (decide ((c.toNat : Int) ≤ 122))) rfl rfl ?_
    try simp only [killFr, List.foldl, put, frame0, h56, List.length, List.replicate, Nat.sub, List.append, List.set, HX.ev, List.getElem?_cons_succ, List.getElem?_cons_zero, Option.getD_some, HAppend.hAppend, Append.append]
    refine HL.op (pickT rfl rfl) ?_
    try simp only [killFr, List.foldl, put, frame0, h56, List.length, List.replicate, Nat.sub, List.append, List.set, HX.ev, List.getElem?_cons_succ, List.getElem?_cons_zero, Option.getD_some, HAppend.hAppend, Append.append]
    refine HL.op rfl ?_
    try simp only [killFr, List.foldl, put, frame0, h56, List.length, List.replicate, Nat.sub, List.append, List.set, HX.ev, List.getElem?_cons_succ, List.getElem?_cons_zero, Option.getD_some, HAppend.hAppend, Append.append]
    cases g2 : decide ((c.toNat : Int) ≤ 122) with
    | true =>
      refine HL.opNot rfl ?_
      try simp only [killFr, List.foldl, put, frame0, h56, List.length, List.replicate, Nat.sub, List.append, List.set, HX.ev, List.getElem?_cons_succ, List.getElem?_cons_zero, Option.getD_some, HAppend.hAppend, Append.append]
      refine HL.opNot rfl ?_
      try simp only [killFr, List.foldl, put, frame0, h56, List.length, List.replicate, Nat.sub, List.append, List.set, HX.ev, List.getElem?_cons_succ, List.getElem?_cons_zero, Option.getD_some, HAppend.hAppend, Append.append]
      refine HL.opNot rfl ?_
      try simp only [killFr, List.foldl, put, frame0, h56, List.length, List.replicate, Nat.sub, List.append, List.set, HX.ev, List.getElem?_cons_succ, List.getElem?_cons_zero, Option.getD_some, HAppend.hAppend, Append.append]
      refine HL.opNone rfl ?_
      try simp only [killFr, List.foldl, put, frame0, h56, List.length, List.replicate, Nat.sub, List.append, List.set, HX.ev, List.getElem?_cons_succ, List.getElem?_cons_zero, Option.getD_some, HAppend.hAppend, Append.append]
      refine HL.opNone rfl ?_
      try simp only [killFr, List.foldl, put, frame0, h56, List.length, List.replicate, Nat.sub, List.append, List.set, HX.ev, List.getElem?_cons_succ, List.getElem?_cons_zero, Option.getD_some, HAppend.hAppend, Append.append]
      refine HL.opNot rfl ?_
      try simp only [killFr, List.foldl, put, frame0, h56, List.length, List.replicate, Nat.sub, List.append, List.set, HX.ev, List.getElem?_cons_succ, List.getElem?_cons_zero, Option.getD_some, HAppend.hAppend, Append.append]
      refine HL.op (pickT rfl rfl) ?_
      try simp only [killFr, List.foldl, put, frame0, h56, List.length, List.replicate, Nat.sub, List.append, List.set, HX.ev, List.getElem?_cons_succ, List.getElem?_cons_zero, Option.getD_some, HAppend.hAppend, Append.append]
      refine HL.op rfl ?_
      try simp only [killFr, List.foldl, put, frame0, h56, List.length, List.replicate, Nat.sub, List.append, List.set, HX.ev, List.getElem?_cons_succ, List.getElem?_cons_zero, Option.getD_some, HAppend.hAppend, Append.append]
      refine HL.opNot rfl ?_
      try simp only [killFr, List.foldl, put, frame0, h56, List.length, List.replicate, Nat.sub, List.append, List.set, HX.ev, List.getElem?_cons_succ, List.getElem?_cons_zero, Option.getD_some, HAppend.hAppend, Append.append]
      refine HL.opNot rfl ?_
      try simp only [killFr, List.foldl, put, frame0, h56, List.length, List.replicate, Nat.sub, List.append, List.set, HX.ev, List.getElem?_cons_succ, List.getElem?_cons_zero, Option.getD_some, HAppend.hAppend, Append.append]
      refine HL.opNot rfl ?_
      try simp only [killFr, List.foldl, put, frame0, h56, List.length, List.replicate, Nat.sub, List.append, List.set, HX.ev, List.getElem?_cons_succ, List.getElem?_cons_zero, Option.getD_some, HAppend.hAppend, Append.append]
      refine HL.opNone rfl ?_
      try simp only [killFr, List.foldl, put, frame0, h56, List.length, List.replicate, Nat.sub, List.append, List.set, HX.ev, List.getElem?_cons_succ, List.getElem?_cons_zero, Option.getD_some, HAppend.hAppend, Append.append]
      refine HL.opNone rfl ?_
      try simp only [killFr, List.foldl, put, frame0, h56, List.length, List.replicate, Nat.sub, List.append, List.set, HX.ev, List.getElem?_cons_succ, List.getElem?_cons_zero, Option.getD_some, HAppend.hAppend, Append.append]
      refine HL.opNot rfl ?_
      try simp only [killFr, List.foldl, put, frame0, h56, List.length, List.replicate, Nat.sub, List.append, List.set, HX.ev, List.getElem?_cons_succ, List.getElem?_cons_zero, Option.getD_some, HAppend.hAppend, Append.append]
      refine HL.op (pickT rfl rfl) ?_
      try simp only [killFr, List.foldl, put, frame0, h56, List.length, List.replicate, Nat.sub, List.append, List.set, HX.ev, List.getElem?_cons_succ, List.getElem?_cons_zero, Option.getD_some, HAppend.hAppend, Append.append]
      refine HL.op rfl ?_
      try simp only [killFr, List.foldl, put, frame0, h56, List.length, List.replicate, Nat.sub, List.append, List.set, HX.ev, List.getElem?_cons_succ, List.getElem?_cons_zero, Option.getD_some, HAppend.hAppend, Append.append]
      refine HL.nil ⟨rfl, ?_⟩
      have hR : inR c = true := by unfold inR; rw [g1, g2]; rfl
      rw [hR]; unfold mid
      repeat first | exact Less.nil | refine Less.undef _ ?_ | refine Less.keep _ ?_
    | false =>
      refine HL.opIf rfl rfl ?_
      try simp only [killFr, List.foldl, put, frame0, h56, List.length, List.replicate, Nat.sub, List.append, List.set, HX.ev, List.getElem?_cons_succ, List.getElem?_cons_zero, Option.getD_some, HAppend.hAppend, Append.append]
      refine HL.opIf (v := .bool (decide ((c.toNat : Int) ≥ 65))) rfl rfl ?_
      try simp only [killFr, List.foldl, put, frame0, h56, List.length, List.replicate, Nat.sub, List.append, List.set, HX.ev, List.getElem?_cons_succ, List.getElem?_cons_zero, Option.getD_some, HAppend.hAppend, Append.append]
      refine HL.opIf rfl rfl ?_
      try simp only [killFr, List.foldl, put, frame0, h56, List.length, List.replicate, Nat.sub, List.append, List.set, HX.ev, List.getElem?_cons_succ, List.getElem?_cons_zero, Option.getD_some, HAppend.hAppend, Append.append]
      cases g3 : decide ((c.toNat : Int) ≥ 65) with
      | true =>
        refine HL.opIf rfl rfl ?_
        try simp only [killFr, List.foldl, put, frame0, h56, List.length, List.replicate, Nat.sub, List.append, List.set, HX.ev, List.getElem?_cons_succ, List.getElem?_cons_zero, Option.getD_some, HAppend.hAppend, Append.append]
        refine HL.opIf (v := .bool (decide ((c.toNat : Int) ≤ 90))) rfl rfl ?_
        try simp only [killFr, List.foldl, put, frame0, h56, List.length, List.replicate, Nat.sub, List.append, List.set, HX.ev, List.getElem?_cons_succ, List.getElem?_cons_zero, Option.getD_some, HAppend.hAppend, Append.append]
        refine HL.opIf rfl (pickT rfl rfl) ?_
        try simp only [killFr, List.foldl, put, frame0, h56, List.length, List.replicate, Nat.sub, List.append, List.set, HX.ev, List.getElem?_cons_succ, List.getElem?_cons_zero, Option.getD_some, HAppend.hAppend, Append.append]
        refine HL.op (pickF rfl rfl) ?_
        try simp only [killFr, List.foldl, put, frame0, h56, List.length, List.replicate, Nat.sub, List.append, List.set, HX.ev, List.getElem?_cons_succ, List.getElem?_cons_zero, Option.getD_some, HAppend.hAppend, Append.append]
        refine HL.op rfl ?_
        try simp only [killFr, List.foldl, put, frame0, h56, List.length, List.replicate, Nat.sub, List.append, List.set, HX.ev, List.getElem?_cons_succ, List.getElem?_cons_zero, Option.getD_some, HAppend.hAppend, Append.append]
        cases g4 : decide ((c.toNat : Int) ≤ 90) with
        | true =>
          refine HL.opNot rfl ?_
          try simp only [killFr, List.foldl, put, frame0, h56, List.length, List.replicate, Nat.sub, List.append, List.set, HX.ev, List.getElem?_cons_succ, List.getElem?_cons_zero, Option.getD_some, HAppend.hAppend, Append.append]
          refine HL.opNot rfl ?_
          try simp only [killFr, List.foldl, put, frame0, h56, List.length, List.replicate, Nat.sub, List.append, List.set, HX.ev, List.getElem?_cons_succ, List.getElem?_cons_zero, Option.getD_some, HAppend.hAppend, Append.append]
          refine HL.opNot rfl ?_
          try simp only [killFr, List.foldl, put, frame0, h56, List.length, List.replicate, Nat.sub, List.append, List.set, HX.ev, List.getElem?_cons_succ, List.getElem?_cons_zero, Option.getD_some, HAppend.hAppend, Append.append]
          refine HL.opNone rfl ?_
          try simp only [killFr, List.foldl, put, frame0, h56, List.length, List.replicate, Nat.sub, List.append, List.set, HX.ev, List.getElem?_cons_succ, List.getElem?_cons_zero, Option.getD_some, HAppend.hAppend, Append.append]
          refine HL.opNone rfl ?_
          try simp only [killFr, List.foldl, put, frame0, h56, List.length, List.replicate, Nat.sub, List.append, List.set, HX.ev, List.getElem?_cons_succ, List.getElem?_cons_zero, Option.getD_some, HAppend.hAppend, Append.append]
          refine HL.opNot rfl ?_
          try simp only [killFr, List.foldl, put, frame0, h56, List.length, List.replicate, Nat.sub, List.append, List.set, HX.ev, List.getElem?_cons_succ, List.getElem?_cons_zero, Option.getD_some, HAppend.hAppend, Append.append]
          refine HL.op (pickT rfl rfl) ?_
          try simp only [killFr, List.foldl, put, frame0, h56, List.length, List.replicate, Nat.sub, List.append, List.set, HX.ev, List.getElem?_cons_succ, List.getElem?_cons_zero, Option.getD_some, HAppend.hAppend, Append.append]
          refine HL.op rfl ?_
          try simp only [killFr, List.foldl, put, frame0, h56, List.length, List.replicate, Nat.sub, List.append, List.set, HX.ev, List.getElem?_cons_succ, List.getElem?_cons_zero, Option.getD_some, HAppend.hAppend, Append.append]
          refine HL.nil ⟨rfl, ?_⟩
          have hR : inR c = true := by unfold inR; rw [g1, g2, g3, g4]; rfl
          rw [hR]; unfold mid
          repeat first | exact Less.nil | refine Less.undef _ ?_ | refine Less.keep _ ?_
        | false =>
          refine HL.opIf rfl rfl ?_
          try simp only [killFr, List.foldl, put, frame0, h56, List.length, List.replicate, Nat.sub, List.append, List.set, HX.ev, List.getElem?_cons_succ, List.getElem?_cons_zero, Option.getD_some, HAppend.hAppend, Append.append]
          refine HL.opIf (v := .bool (decide ((c.toNat : Int) ≥ 48))) rfl rfl ?_
          try simp only [killFr, List.foldl, put, frame0, h56, List.length, List.replicate, Nat.sub, List.append, List.set, HX.ev, List.getElem?_cons_succ, List.getElem?_cons_zero, Option.getD_some, HAppend.hAppend, Append.append]
          refine HL.opIf rfl rfl ?_
          try simp only [killFr, List.foldl, put, frame0, h56, List.length, List.replicate, Nat.sub, List.append, List.set, HX.ev, List.getElem?_cons_succ, List.getElem?_cons_zero, Option.getD_some, HAppend.hAppend, Append.append]
          cases g5 : decide ((c.toNat : Int) ≥ 48) with
          | true =>
            refine HL.opIf rfl rfl ?_
            try simp only [killFr, List.foldl, put, frame0, h56, List.length, List.replicate, Nat.sub, List.append, List.set, HX.ev, List.getElem?_cons_succ, List.getElem?_cons_zero, Option.getD_some, HAppend.hAppend, Append.append]
            refine HL.opIf (v := .bool (decide ((c.toNat : Int) ≤ 57))) rfl rfl ?_
            try simp only [killFr, List.foldl, put, frame0, h56, List.length, List.replicate, Nat.sub, List.append, List.set, HX.ev, List.getElem?_cons_succ, List.getElem?_cons_zero, Option.getD_some, HAppend.hAppend, Append.append]
            refine HL.opIf rfl (pickT rfl rfl) ?_
            try simp only [killFr, List.foldl, put, frame0, h56, List.length, List.replicate, Nat.sub, List.append, List.set, HX.ev, List.getElem?_cons_succ, List.getElem?_cons_zero, Option.getD_some, HAppend.hAppend, Append.append]
            refine HL.op (pickF rfl rfl) ?_
            try simp only [killFr, List.foldl, put, frame0, h56, List.length, List.replicate, Nat.sub, List.append, List.set, HX.ev, List.getElem?_cons_succ, List.getElem?_cons_zero, Option.getD_some, HAppend.hAppend, Append.append]
            refine HL.op rfl ?_
            try simp only [killFr, List.foldl, put, frame0, h56, List.length, List.replicate, Nat.sub, List.append, List.set, HX.ev, List.getElem?_cons_succ, List.getElem?_cons_zero, Option.getD_some, HAppend.hAppend, Append.append]
            cases g6 : decide ((c.toNat : Int) ≤ 57) with
            | true =>
              refine HL.nil ⟨rfl, ?_⟩
              have hR : inR c = true := by unfold inR; rw [g1, g2, g3, g4, g5, g6]; rfl
              rw [hR]; unfold mid
              repeat first | exact Less.nil | refine Less.undef _ ?_ | refine Less.keep _ ?_
            | false =>
              refine HL.nil ⟨rfl, ?_⟩
              have hR : inR c = false := by unfold inR; rw [g1, g2, g3, g4, g5, g6]; rfl
              rw [hR]; unfold mid
              repeat first | exact Less.nil | refine Less.undef _ ?_ | refine Less.keep _ ?_
          | false =>
            refine HL.opNot rfl ?_
            try simp only [killFr, List.foldl, put, frame0, h56, List.length, List.replicate, Nat.sub, List.append, List.set, HX.ev, List.getElem?_cons_succ, List.getElem?_cons_zero, Option.getD_some, HAppend.hAppend, Append.append]
            refine HL.opNot rfl ?_
            try simp only [killFr, List.foldl, put, frame0, h56, List.length, List.replicate, Nat.sub, List.append, List.set, HX.ev, List.getElem?_cons_succ, List.getElem?_cons_zero, Option.getD_some, HAppend.hAppend, Append.append]
            refine HL.opIf rfl (pickF rfl rfl) ?_
            try simp only [killFr, List.foldl, put, frame0, h56, List.length, List.replicate, Nat.sub, List.append, List.set, HX.ev, List.getElem?_cons_succ, List.getElem?_cons_zero, Option.getD_some, HAppend.hAppend, Append.append]
            refine HL.op (pickF rfl rfl) ?_
            try simp only [killFr, List.foldl, put, frame0, h56, List.length, List.replicate, Nat.sub, List.append, List.set, HX.ev, List.getElem?_cons_succ, List.getElem?_cons_zero, Option.getD_some, HAppend.hAppend, Append.append]
            refine HL.op rfl ?_
            try simp only [killFr, List.foldl, put, frame0, h56, List.length, List.replicate, Nat.sub, List.append, List.set, HX.ev, List.getElem?_cons_succ, List.getElem?_cons_zero, Option.getD_some, HAppend.hAppend, Append.append]
            refine HL.nil ⟨rfl, ?_⟩
            have hR : inR c = false := by unfold inR; rw [g1, g2, g3, g4, g5]; rfl
            rw [hR]; unfold mid
            repeat first | exact Less.nil | refine Less.undef _ ?_ | refine Less.keep _ ?_
      | false =>
        refine HL.opNot rfl ?_
        try simp only [killFr, List.foldl, put, frame0, h56, List.length, List.replicate, Nat.sub, List.append, List.set, HX.ev, List.getElem?_cons_succ, List.getElem?_cons_zero, Option.getD_some, HAppend.hAppend, Append.append]
        refine HL.opNot rfl ?_
        try simp only [killFr, List.foldl, put, frame0, h56, List.length, List.replicate, Nat.sub, List.append, List.set, HX.ev, List.getElem?_cons_succ, List.getElem?_cons_zero, Option.getD_some, HAppend.hAppend, Append.append]
        refine HL.opIf rfl (pickF rfl rfl) ?_
        try simp only [killFr, List.foldl, put, frame0, h56, List.length, List.replicate, Nat.sub, List.append, List.set, HX.ev, List.getElem?_cons_succ, List.getElem?_cons_zero, Option.getD_some, HAppend.hAppend, Append.append]
        refine HL.op (pickF rfl rfl) ?_
        try simp only [killFr, List.foldl, put, frame0, h56, List.length, List.replicate, Nat.sub, List.append, List.set, HX.ev, List.getElem?_cons_succ, List.getElem?_cons_zero, Option.getD_some, HAppend.hAppend, Append.append]
        refine HL.op rfl ?_
        try simp only [killFr, List.foldl, put, frame0, h56, List.length, List.replicate, Nat.sub, List.append, List.set, HX.ev, List.getElem?_cons_succ, List.getElem?_cons_zero, Option.getD_some, HAppend.hAppend, Append.append]
        refine HL.opIf rfl rfl ?_
        try simp only [killFr, List.foldl, put, frame0, h56, List.length, List.replicate, Nat.sub, List.append, List.set, HX.ev, List.getElem?_cons_succ, List.getElem?_cons_zero, Option.getD_some, HAppend.hAppend, Append.append]
        refine HL.opIf (v := .bool (decide ((c.toNat : Int) ≥ 48))) rfl rfl ?_
        try simp only [killFr, List.foldl, put, frame0, h56, List.length, List.replicate, Nat.sub, List.append, List.set, HX.ev, List.getElem?_cons_succ, List.getElem?_cons_zero, Option.getD_some, HAppend.hAppend, Append.append]
        refine HL.opIf rfl rfl ?_
        try simp only [killFr, List.foldl, put, frame0, h56, List.length, List.replicate, Nat.sub, List.append, List.set, HX.ev, List.getElem?_cons_succ, List.getElem?_cons_zero, Option.getD_some, HAppend.hAppend, Append.append]
        cases g5 : decide ((c.toNat : Int) ≥ 48) with
        | true =>
          refine HL.opIf rfl rfl ?_
          try simp only [killFr, List.foldl, put, frame0, h56, List.length, List.replicate, Nat.sub, List.append, List.set, HX.ev, List.getElem?_cons_succ, List.getElem?_cons_zero, Option.getD_some, HAppend.hAppend, Append.append]
          refine HL.opIf (v := .bool (decide ((c.toNat : Int) ≤ 57))) rfl rfl ?_
          try simp only [killFr, List.foldl, put, frame0, h56, List.length, List.replicate, Nat.sub, List.append, List.set, HX.ev, List.getElem?_cons_succ, List.getElem?_cons_zero, Option.getD_some, HAppend.hAppend, Append.append]
          refine HL.opIf rfl (pickT rfl rfl) ?_
          try simp only [killFr, List.foldl, put, frame0, h56, List.length, List.replicate, Nat.sub, List.append, List.set, HX.ev, List.getElem?_cons_succ, List.getElem?_cons_zero, Option.getD_some, HAppend.hAppend, Append.append]
          refine HL.op (pickF rfl rfl) ?_
          try simp only [killFr, List.foldl, put, frame0, h56, List.length, List.replicate, Nat.sub, List.append, List.set, HX.ev, List.getElem?_cons_succ, List.getElem?_cons_zero, Option.getD_some, HAppend.hAppend, Append.append]
          refine HL.op rfl ?_
          try simp only [killFr, List.foldl, put, frame0, h56, List.length, List.replicate, Nat.sub, List.append, List.set, HX.ev, List.getElem?_cons_succ, List.getElem?_cons_zero, Option.getD_some, HAppend.hAppend, Append.append]
          cases g6 : decide ((c.toNat : Int) ≤ 57) with
          | true =>
            refine HL.nil ⟨rfl, ?_⟩
            have hR : inR c = true := by unfold inR; rw [g1, g2, g3, g5, g6]; rfl
            rw [hR]; unfold mid
            repeat first | exact Less.nil | refine Less.undef _ ?_ | refine Less.keep _ ?_
          | false =>
            refine HL.nil ⟨rfl, ?_⟩
            have hR : inR c = false := by unfold inR; rw [g1, g2, g3, g5, g6]; rfl
            rw [hR]; unfold mid
            repeat first | exact Less.nil | refine Less.undef _ ?_ | refine Less.keep _ ?_
        | false =>
          refine HL.opNot rfl ?_
          try simp only [killFr, List.foldl, put, frame0, h56, List.length, List.replicate, Nat.sub, List.append, List.set, HX.ev, List.getElem?_cons_succ, List.getElem?_cons_zero, Option.getD_some, HAppend.hAppend, Append.append]
          refine HL.opNot rfl ?_
          try simp only [killFr, List.foldl, put, frame0, h56, List.length, List.replicate, Nat.sub, List.append, List.set, HX.ev, List.getElem?_cons_succ, List.getElem?_cons_zero, Option.getD_some, HAppend.hAppend, Append.append]
          refine HL.opIf rfl (pickF rfl rfl) ?_
          try simp only [killFr, List.foldl, put, frame0, h56, List.length, List.replicate, Nat.sub, List.append, List.set, HX.ev, List.getElem?_cons_succ, List.getElem?_cons_zero, Option.getD_some, HAppend.hAppend, Append.append]
          refine HL.op (pickF rfl rfl) ?_
          try simp only [killFr, List.foldl, put, frame0, h56, List.length, List.replicate, Nat.sub, List.append, List.set, HX.ev, List.getElem?_cons_succ, List.getElem?_cons_zero, Option.getD_some, HAppend.hAppend, Append.append]
          refine HL.op rfl ?_
          try simp only [killFr, List.foldl, put, frame0, h56, List.length, List.replicate, Nat.sub, List.append, List.set, HX.ev, List.getElem?_cons_succ, List.getElem?_cons_zero, Option.getD_some, HAppend.hAppend, Append.append]
          refine HL.nil ⟨rfl, ?_⟩
          have hR : inR c = false := by unfold inR; rw [g1, g2, g3, g5]; rfl
          rw [hR]; unfold mid
          repeat first | exact Less.nil | refine Less.undef _ ?_ | refine Less.keep _ ?_
  | false =>
    refine HL.opNot rfl ?_
    try simp only [killFr, List.foldl, put, frame0, h56, List.length, List.replicate, Nat.sub, List.append, List.set, HX.ev, List.getElem?_cons_succ, List.getElem?_cons_zero, Option.getD_some, HAppend.hAppend, Append.append]
    refine HL.opNot rfl ?_
    try simp only [killFr, List.foldl, put, frame0, h56, List.length, List.replicate, Nat.sub, List.append, List.set, HX.ev, List.getElem?_cons_succ, List.getElem?_cons_zero, Option.getD_some, HAppend.hAppend, Append.append]
    refine HL.op (pickF rfl rfl) ?_
    try simp only [killFr, List.foldl, put, frame0, h56, List.length, List.replicate, Nat.sub, List.append, List.set, HX.ev, List.getElem?_cons_succ, List.getElem?_cons_zero, Option.getD_some, HAppend.hAppend, Append.append]
    refine HL.op rfl ?_
    try simp only [killFr, List.foldl, put, frame0, h56, List.length, List.replicate, Nat.sub, List.append, List.set, HX.ev, List.getElem?_cons_succ, List.getElem?_cons_zero, Option.getD_some, HAppend.hAppend, Append.append]
    refine HL.opIf rfl rfl ?_
    try simp only [killFr, List.foldl, put, frame0, h56, List.length, List.replicate, Nat.sub, List.append, List.set, HX.ev, List.getElem?_cons_succ, List.getElem?_cons_zero, Option.getD_some, HAppend.hAppend, Append.append]
    refine HL.opIf (v := .bool (decide ((c.toNat : Int) ≥ 65))) rfl rfl ?_
    try simp only [killFr, List.foldl, put, frame0, h56, List.length, List.replicate, Nat.sub, List.append, List.set, HX.ev, List.getElem?_cons_succ, List.getElem?_cons_zero, Option.getD_some, HAppend.hAppend, Append.append]
    refine HL.opIf rfl rfl ?_
    try simp only [killFr, List.foldl, put, frame0, h56, List.length, List.replicate, Nat.sub, List.append, List.set, HX.ev, List.getElem?_cons_succ, List.getElem?_cons_zero, Option.getD_some, HAppend.hAppend, Append.append]
    cases g3 : decide ((c.toNat : Int) ≥ 65) with
    | true =>
      refine HL.opIf rfl rfl ?_
      try simp only [killFr, List.foldl, put, frame0, h56, List.length, List.replicate, Nat.sub, List.append, List.set, HX.ev, List.getElem?_cons_succ, List.getElem?_cons_zero, Option.getD_some, HAppend.hAppend, Append.append]
      refine HL.opIf (v := .bool (decide ((c.toNat : Int) ≤ 90))) rfl rfl ?_
      try simp only [killFr, List.foldl, put, frame0, h56, List.length, List.replicate, Nat.sub, List.append, List.set, HX.ev, List.getElem?_cons_succ, List.getElem?_cons_zero, Option.getD_some, HAppend.hAppend, Append.append]
      refine HL.opIf rfl (pickT rfl rfl) ?_
      try simp only [killFr, List.foldl, put, frame0, h56, List.length, List.replicate, Nat.sub, List.append, List.set, HX.ev, List.getElem?_cons_succ, List.getElem?_cons_zero, Option.getD_some, HAppend.hAppend, Append.append]
      refine HL.op (pickF rfl rfl) ?_
      try simp only [killFr, List.foldl, put, frame0, h56, List.length, List.replicate, Nat.sub, List.append, List.set, HX.ev, List.getElem?_cons_succ, List.getElem?_cons_zero, Option.getD_some, HAppend.hAppend, Append.append]
      refine HL.op rfl ?_
      try simp only [killFr, List.foldl, put, frame0, h56, List.length, List.replicate, Nat.sub, List.append, List.set, HX.ev, List.getElem?_cons_succ, List.getElem?_cons_zero, Option.getD_some, HAppend.hAppend, Append.append]
      cases g4 : decide ((c.toNat : Int) ≤ 90) with
      | true =>
        refine HL.opNot rfl ?_
        try simp only [killFr, List.foldl, put, frame0, h56, List.length, List.replicate, Nat.sub, List.append, List.set, HX.ev, List.getElem?_cons_succ, List.getElem?_cons_zero, Option.getD_some, HAppend.hAppend, Append.append]
        refine HL.opNot rfl ?_
        try simp only [killFr, List.foldl, put, frame0, h56, List.length, List.replicate, Nat.sub, List.append, List.set, HX.ev, List.getElem?_cons_succ, List.getElem?_cons_zero, Option.getD_some, HAppend.hAppend, Append.append]
        refine HL.opNot rfl ?_
        try simp only [killFr, List.foldl, put, frame0, h56, List.length, List.replicate, Nat.sub, List.append, List.set, HX.ev, List.getElem?_cons_succ, List.getElem?_cons_zero, Option.getD_some, HAppend.hAppend, Append.append]
        refine HL.opNone rfl ?_
        try simp only [killFr, List.foldl, put, frame0, h56, List.length, List.replicate, Nat.sub, List.append, List.set, HX.ev, List.getElem?_cons_succ, List.getElem?_cons_zero, Option.getD_some, HAppend.hAppend, Append.append]
        refine HL.opNone rfl ?_
        try simp only [killFr, List.foldl, put, frame0, h56, List.length, List.replicate, Nat.sub, List.append, List.set, HX.ev, List.getElem?_cons_succ, List.getElem?_cons_zero, Option.getD_some, HAppend.hAppend, Append.append]
        refine HL.opNot rfl ?_
        try simp only [killFr, List.foldl, put, frame0, h56, List.length, List.replicate, Nat.sub, List.append, List.set, HX.ev, List.getElem?_cons_succ, List.getElem?_cons_zero, Option.getD_some, HAppend.hAppend, Append.append]
        refine HL.op (pickT rfl rfl) ?_
        try simp only [killFr, List.foldl, put, frame0, h56, List.length, List.replicate, Nat.sub, List.append, List.set, HX.ev, List.getElem?_cons_succ, List.getElem?_cons_zero, Option.getD_some, HAppend.hAppend, Append.append]
        refine HL.op rfl ?_
        try simp only [killFr, List.foldl, put, frame0, h56, List.length, List.replicate, Nat.sub, List.append, List.set, HX.ev, List.getElem?_cons_succ, List.getElem?_cons_zero, Option.getD_some, HAppend.hAppend, Append.append]
        refine HL.nil ⟨rfl, ?_⟩
        have hR : inR c = true := by unfold inR; rw [g1, g3, g4]; rfl
        rw [hR]; unfold mid
        repeat first | exact Less.nil | refine Less.undef _ ?_ | refine Less.keep _ ?_
      | false =>
        refine HL.opIf rfl rfl ?_
        try simp only [killFr, List.foldl, put, frame0, h56, List.length, List.replicate, Nat.sub, List.append, List.set, HX.ev, List.getElem?_cons_succ, List.getElem?_cons_zero, Option.getD_some, HAppend.hAppend, Append.append]
        refine HL.opIf (v := .bool (decide ((c.toNat : Int) ≥ 48))) rfl rfl ?_
        try simp only [killFr, List.foldl, put, frame0, h56, List.length, List.replicate, Nat.sub, List.append, List.set, HX.ev, List.getElem?_cons_succ, List.getElem?_cons_zero, Option.getD_some, HAppend.hAppend, Append.append]
        refine HL.opIf rfl rfl ?_
        try simp only [killFr, List.foldl, put, frame0, h56, List.length, List.replicate, Nat.sub, List.append, List.set, HX.ev, List.getElem?_cons_succ, List.getElem?_cons_zero, Option.getD_some, HAppend.hAppend, Append.append]
        cases g5 : decide ((c.toNat : Int) ≥ 48) with
        | true =>
          refine HL.opIf rfl rfl ?_
          try simp only [killFr, List.foldl, put, frame0, h56, List.length, List.replicate, Nat.sub, List.append, List.set, HX.ev, List.getElem?_cons_succ, List.getElem?_cons_zero, Option.getD_some, HAppend.hAppend, Append.append]
          refine HL.opIf (v := .bool (decide ((c.toNat : Int) ≤ 57))) rfl rfl ?_
          try simp only [killFr, List.foldl, put, frame0, h56, List.length, List.replicate, Nat.sub, List.append, List.set, HX.ev, List.getElem?_cons_succ, List.getElem?_cons_zero, Option.getD_some, HAppend.hAppend, Append.append]
          refine HL.opIf rfl (pickT rfl rfl) ?_
          try simp only [killFr, List.foldl, put, frame0, h56, List.length, List.replicate, Nat.sub, List.append, List.set, HX.ev, List.getElem?_cons_succ, List.getElem?_cons_zero, Option.getD_some, HAppend.hAppend, Append.append]
          refine HL.op (pickF rfl rfl) ?_
          try simp only [killFr, List.foldl, put, frame0, h56, List.length, List.replicate, Nat.sub, List.append, List.set, HX.ev, List.getElem?_cons_succ, List.getElem?_cons_zero, Option.getD_some, HAppend.hAppend, Append.append]
          refine HL.op rfl ?_
          try simp only [killFr, List.foldl, put, frame0, h56, List.length, List.replicate, Nat.sub, List.append, List.set, HX.ev, List.getElem?_cons_succ, List.getElem?_cons_zero, Option.getD_some, HAppend.hAppend, Append.append]
          cases g6 : decide ((c.toNat : Int) ≤ 57) with
          | true =>
            refine HL.nil ⟨rfl, ?_⟩
            have hR : inR c = true := by unfold inR; rw [g1, g3, g4, g5, g6]; rfl
            rw [hR]; unfold mid
            repeat first | exact Less.nil | refine Less.undef _ ?_ | refine Less.keep _ ?_
          | false =>
            refine HL.nil ⟨rfl, ?_⟩
            have hR : inR c = false := by unfold inR; rw [g1, g3, g4, g5, g6]; rfl
            rw [hR]; unfold mid
            repeat first | exact Less.nil | refine Less.undef _ ?_ | refine Less.keep _ ?_
        | false =>
          refine HL.opNot rfl ?_
          try simp only [killFr, List.foldl, put, frame0, h56, List.length, List.replicate, Nat.sub, List.append, List.set, HX.ev, List.getElem?_cons_succ, List.getElem?_cons_zero, Option.getD_some, HAppend.hAppend, Append.append]
          refine HL.opNot rfl ?_
          try simp only [killFr, List.foldl, put, frame0, h56, List.length, List.replicate, Nat.sub, List.append, List.set, HX.ev, List.getElem?_cons_succ, List.getElem?_cons_zero, Option.getD_some, HAppend.hAppend, Append.append]
          refine HL.opIf rfl (pickF rfl rfl) ?_
          try simp only [killFr, List.foldl, put, frame0, h56, List.length, List.replicate, Nat.sub, List.append, List.set, HX.ev, List.getElem?_cons_succ, List.getElem?_cons_zero, Option.getD_some, HAppend.hAppend, Append.append]
          refine HL.op (pickF rfl rfl) ?_
          try simp only [killFr, List.foldl, put, frame0, h56, List.length, List.replicate, Nat.sub, List.append, List.set, HX.ev, List.getElem?_cons_succ, List.getElem?_cons_zero, Option.getD_some, HAppend.hAppend, Append.append]
          refine HL.op rfl ?_
          try simp only [killFr, List.foldl, put, frame0, h56, List.length, List.replicate, Nat.sub, List.append, List.set, HX.ev, List.getElem?_cons_succ, List.getElem?_cons_zero, Option.getD_some, HAppend.hAppend, Append.append]
          refine HL.nil ⟨rfl, ?_⟩
          have hR : inR c = false := by unfold inR; rw [g1, g3, g4, g5]; rfl
          rw [hR]; unfold mid
          repeat first | exact Less.nil | refine Less.undef _ ?_ | refine Less.keep _ ?_
    | false =>
      refine HL.opNot rfl ?_
      try simp only [killFr, List.foldl, put, frame0, h56, List.length, List.replicate, Nat.sub, List.append, List.set, HX.ev, List.getElem?_cons_succ, List.getElem?_cons_zero, Option.getD_some, HAppend.hAppend, Append.append]
      refine HL.opNot rfl ?_
      try simp only [killFr, List.foldl, put, frame0, h56, List.length, List.replicate, Nat.sub, List.append, List.set, HX.ev, List.getElem?_cons_succ, List.getElem?_cons_zero, Option.getD_some, HAppend.hAppend, Append.append]
      refine HL.opIf rfl (pickF rfl rfl) ?_
      try simp only [killFr, List.foldl, put, frame0, h56, List.length, List.replicate, Nat.sub, List.append, List.set, HX.ev, List.getElem?_cons_succ, List.getElem?_cons_zero, Option.getD_some, HAppend.hAppend, Append.append]
      refine HL.op (pickF rfl rfl) ?_
      try simp only [killFr, List.foldl, put, frame0, h56, List.length, List.replicate, Nat.sub, List.append, List.set, HX.ev, List.getElem?_cons_succ, List.getElem?_cons_zero, Option.getD_some, HAppend.hAppend, Append.append]
      refine HL.op rfl ?_
      try simp only [killFr, List.foldl, put, frame0, h56, List.length, List.replicate, Nat.sub, List.append, List.set, HX.ev, List.getElem?_cons_succ, List.getElem?_cons_zero, Option.getD_some, HAppend.hAppend, Append.append]
      refine HL.opIf rfl rfl ?_
      try simp only [killFr, List.foldl, put, frame0, h56, List.length, List.replicate, Nat.sub, List.append, List.set, HX.ev, List.getElem?_cons_succ, List.getElem?_cons_zero, Option.getD_some, HAppend.hAppend, Append.append]
      refine HL.opIf (v := .bool (decide ((c.toNat : Int) ≥ 48))) rfl rfl ?_
      try simp only [killFr, List.foldl, put, frame0, h56, List.length, List.replicate, Nat.sub, List.append, List.set, HX.ev, List.getElem?_cons_succ, List.getElem?_cons_zero, Option.getD_some, HAppend.hAppend, Append.append]
      refine HL.opIf rfl rfl ?_
      try simp only [killFr, List.foldl, put, frame0, h56, List.length, List.replicate, Nat.sub, List.append, List.set, HX.ev, List.getElem?_cons_succ, List.getElem?_cons_zero, Option.getD_some, HAppend.hAppend, Append.append]
      cases g5 : decide ((c.toNat : Int) ≥ 48) with
      | true =>
        refine HL.opIf rfl rfl ?_
        try simp only [killFr, List.foldl, put, frame0, h56, List.length, List.replicate, Nat.sub, List.append, List.set, HX.ev, List.getElem?_cons_succ, List.getElem?_cons_zero, Option.getD_some, HAppend.hAppend, Append.append]
        refine HL.opIf (v := .bool (decide ((c.toNat : Int) ≤ 57))) rfl rfl ?_
        try simp only [killFr, List.foldl, put, frame0, h56, List.length, List.replicate, Nat.sub, List.append, List.set, HX.ev, List.getElem?_cons_succ, List.getElem?_cons_zero, Option.getD_some, HAppend.hAppend, Append.append]
        refine HL.opIf rfl (pickT rfl rfl) ?_
        try simp only [killFr, List.foldl, put, frame0, h56, List.length, List.replicate, Nat.sub, List.append, List.set, HX.ev, List.getElem?_cons_succ, List.getElem?_cons_zero, Option.getD_some, HAppend.hAppend, Append.append]
        refine HL.op (pickF rfl rfl) ?_
        try simp only [killFr, List.foldl, put, frame0, h56, List.length, List.replicate, Nat.sub, List.append, List.set, HX.ev, List.getElem?_cons_succ, List.getElem?_cons_zero, Option.getD_some, HAppend.hAppend, Append.append]
        refine HL.op rfl ?_
        try simp only [killFr, List.foldl, put, frame0, h56, List.length, List.replicate, Nat.sub, List.append, List.set, HX.ev, List.getElem?_cons_succ, List.getElem?_cons_zero, Option.getD_some, HAppend.hAppend, Append.append]
        cases g6 : decide ((c.toNat : Int) ≤ 57) with
        | true =>
          refine HL.nil ⟨rfl, ?_⟩
          have hR : inR c = true := by unfold inR; rw [g1, g3, g5, g6]; rfl
          rw [hR]; unfold mid
          repeat first | exact Less.nil | refine Less.undef _ ?_ | refine Less.keep _ ?_
        | false =>
          refine HL.nil ⟨rfl, ?_⟩
          have hR : inR c = false := by unfold inR; rw [g1, g3, g5, g6]; rfl
          rw [hR]; unfold mid
          repeat first | exact Less.nil | refine Less.undef _ ?_ | refine Less.keep _ ?_
      | false =>
        refine HL.opNot rfl ?_
        try simp only [killFr, List.foldl, put, frame0, h56, List.length, List.replicate, Nat.sub, List.append, List.set, HX.ev, List.getElem?_cons_succ, List.getElem?_cons_zero, Option.getD_some, HAppend.hAppend, Append.append]
        refine HL.opNot rfl ?_
        try simp only [killFr, List.foldl, put, frame0, h56, List.length, List.replicate, Nat.sub, List.append, List.set, HX.ev, List.getElem?_cons_succ, List.getElem?_cons_zero, Option.getD_some, HAppend.hAppend, Append.append]
        refine HL.opIf rfl (pickF rfl rfl) ?_
        try simp only [killFr, List.foldl, put, frame0, h56, List.length, List.replicate, Nat.sub, List.append, List.set, HX.ev, List.getElem?_cons_succ, List.getElem?_cons_zero, Option.getD_some, HAppend.hAppend, Append.append]
        refine HL.op (pickF rfl rfl) ?_
        try simp only [killFr, List.foldl, put, frame0, h56, List.length, List.replicate, Nat.sub, List.append, List.set, HX.ev, List.getElem?_cons_succ, List.getElem?_cons_zero, Option.getD_some, HAppend.hAppend, Append.append]
        refine HL.op rfl ?_
        try simp only [killFr, List.foldl, put, frame0, h56, List.length, List.replicate, Nat.sub, List.append, List.set, HX.ev, List.getElem?_cons_succ, List.getElem?_cons_zero, Option.getD_some, HAppend.hAppend, Append.append]
        refine HL.nil ⟨rfl, ?_⟩
        have hR : inR c = false := by unfold inR; rw [g1, g3, g5]; rfl
        rw [hR]; unfold mid
        repeat first | exact Less.nil | refine Less.undef _ ?_ | refine Less.keep _ ?_

theorem ref_short : ((hcall F X 60 56 [.str []] []).map fun x => HV.eqb x.1 (.bool false)) = some true := by kernel_rfl
theorem hlen9 : hlenK [] .str (.str [45, 43, 47, 59, 46, 36, 95, 40, 41]) = some (.int .i64 9) := rfl
theorem ref10 (s : List UInt8) : HC Tryd.prog 56 [.str s] [] fun v _ => v = .bool (validL s) := by
  cases s with
  | nil => exact hcall_bool mixed F_ok X_ok rfl ref_short
  | cons c r =>
  have h1 : decide (((c :: r).length : Int) < 1) = false := decide_eq_false (by simp; omega)
  refine HC.body Tryd.func56 c56 ?_
  refine HW.seq (HW.region (HL.op rfl (HL.nil ?_)))
  try simp only [killFr, List.foldl, put, frame0, h56, List.length, List.replicate, Nat.sub, List.append, List.set, HX.ev, List.getElem?_cons_succ, List.getElem?_cons_zero, Option.getD_some, HAppend.hAppend, Append.append]
  refine HW.seq ?_
  refine HW.seq (HW.region ?_)
  refine HL.op rfl ?_
  try simp only [killFr, List.foldl, put, frame0, h56, List.length, List.replicate, Nat.sub, List.append, List.set, HX.ev, List.getElem?_cons_succ, List.getElem?_cons_zero, Option.getD_some, HAppend.hAppend, Append.append]
  refine HL.op rfl ?_
  try simp only [killFr, List.foldl, put, frame0, h56, List.length, List.replicate, Nat.sub, List.append, List.set, HX.ev, List.getElem?_cons_succ, List.getElem?_cons_zero, Option.getD_some, HAppend.hAppend, Append.append]
  refine HL.op (v := .bool false) (congrArg (fun b => some (HV.bool b, _)) h1) ?_
  try simp only [killFr, List.foldl, put, frame0, h56, List.length, List.replicate, Nat.sub, List.append, List.set, HX.ev, List.getElem?_cons_succ, List.getElem?_cons_zero, Option.getD_some, HAppend.hAppend, Append.append]
  refine HL.op rfl ?_
  try simp only [killFr, List.foldl, put, frame0, h56, List.length, List.replicate, Nat.sub, List.append, List.set, HX.ev, List.getElem?_cons_succ, List.getElem?_cons_zero, Option.getD_some, HAppend.hAppend, Append.append]
  refine HL.opIf rfl rfl ?_
  try simp only [killFr, List.foldl, put, frame0, h56, List.length, List.replicate, Nat.sub, List.append, List.set, HX.ev, List.getElem?_cons_succ, List.getElem?_cons_zero, Option.getD_some, HAppend.hAppend, Append.append]
  refine HL.opIf rfl rfl ?_
  try simp only [killFr, List.foldl, put, frame0, h56, List.length, List.replicate, Nat.sub, List.append, List.set, HX.ev, List.getElem?_cons_succ, List.getElem?_cons_zero, Option.getD_some, HAppend.hAppend, Append.append]
  refine HL.opIf (v := .bool (decide (((c :: r).length : Int) > 200))) rfl rfl ?_
  try simp only [killFr, List.foldl, put, frame0, h56, List.length, List.replicate, Nat.sub, List.append, List.set, HX.ev, List.getElem?_cons_succ, List.getElem?_cons_zero, Option.getD_some, HAppend.hAppend, Append.append]
  refine HL.op (pickF rfl rfl) ?_
  try simp only [killFr, List.foldl, put, frame0, h56, List.length, List.replicate, Nat.sub, List.append, List.set, HX.ev, List.getElem?_cons_succ, List.getElem?_cons_zero, Option.getD_some, HAppend.hAppend, Append.append]
  refine HL.op rfl ?_
  try simp only [killFr, List.foldl, put, frame0, h56, List.length, List.replicate, Nat.sub, List.append, List.set, HX.ev, List.getElem?_cons_succ, List.getElem?_cons_zero, Option.getD_some, HAppend.hAppend, Append.append]
  cases h2 : decide (((c :: r).length : Int) > 200) with
  | true =>
    refine HL.opNot rfl ?_
    try simp only [killFr, List.foldl, put, frame0, h56, List.length, List.replicate, Nat.sub, List.append, List.set, HX.ev, List.getElem?_cons_succ, List.getElem?_cons_zero, Option.getD_some, HAppend.hAppend, Append.append]
    refine HL.opNot rfl ?_
    try simp only [killFr, List.foldl, put, frame0, h56, List.length, List.replicate, Nat.sub, List.append, List.set, HX.ev, List.getElem?_cons_succ, List.getElem?_cons_zero, Option.getD_some, HAppend.hAppend, Append.append]
    refine HL.opNot rfl ?_
    try simp only [killFr, List.foldl, put, frame0, h56, List.length, List.replicate, Nat.sub, List.append, List.set, HX.ev, List.getElem?_cons_succ, List.getElem?_cons_zero, Option.getD_some, HAppend.hAppend, Append.append]
    refine HL.op (pickT rfl rfl) (HL.nil ?_)
    try simp only [killFr, List.foldl, put, frame0, h56, List.length, List.replicate, Nat.sub, List.append, List.set, HX.ev, List.getElem?_cons_succ, List.getElem?_cons_zero, Option.getD_some, HAppend.hAppend, Append.append]
    refine HW.cond (t := true) rfl (HW.seq (HW.region (HL.op rfl (HL.nil (HW.ret ?_)))))
    try simp only [killFr, List.foldl, put, frame0, h56, List.length, List.replicate, Nat.sub, List.append, List.set, HX.ev, List.getElem?_cons_succ, List.getElem?_cons_zero, Option.getD_some, HAppend.hAppend, Append.append]
    refine ⟨rfl, _, rfl, ?_⟩
    have hl : (c :: r).length > 200 := by have := of_decide_eq_true h2; omega
    have : validL (c :: r) = false := by
      unfold validL
      rw [decide_eq_false (p := (c :: r).length ≤ 200) (by omega)]
      simp
    rw [this]; rfl
  | false =>
    have hl : (c :: r).length ≤ 200 := by have := of_decide_eq_false h2; omega
    refine HL.opIf rfl rfl ?_
    try simp only [killFr, List.foldl, put, frame0, h56, List.length, List.replicate, Nat.sub, List.append, List.set, HX.ev, List.getElem?_cons_succ, List.getElem?_cons_zero, Option.getD_some, HAppend.hAppend, Append.append]
    refine HL.opIf (v := .int .u8 c.toNat) rfl rfl ?_
    try simp only [killFr, List.foldl, put, frame0, h56, List.length, List.replicate, Nat.sub, List.append, List.set, HX.ev, List.getElem?_cons_succ, List.getElem?_cons_zero, Option.getD_some, HAppend.hAppend, Append.append]
    refine HL.opIf (v := .bool (decide ((c.toNat : Int) = 45))) rfl rfl ?_
    try simp only [killFr, List.foldl, put, frame0, h56, List.length, List.replicate, Nat.sub, List.append, List.set, HX.ev, List.getElem?_cons_succ, List.getElem?_cons_zero, Option.getD_some, HAppend.hAppend, Append.append]
    refine HL.op (pickF rfl rfl) (HL.nil ?_)
    try simp only [killFr, List.foldl, put, frame0, h56, List.length, List.replicate, Nat.sub, List.append, List.set, HX.ev, List.getElem?_cons_succ, List.getElem?_cons_zero, Option.getD_some, HAppend.hAppend, Append.append]
    cases h3 : decide ((c.toNat : Int) = 45) with
    | true =>
      refine HW.cond (t := true) rfl (HW.seq (HW.region (HL.op rfl (HL.nil (HW.ret ?_)))))
      try simp only [killFr, List.foldl, put, frame0, h56, List.length, List.replicate, Nat.sub, List.append, List.set, HX.ev, List.getElem?_cons_succ, List.getElem?_cons_zero, Option.getD_some, HAppend.hAppend, Append.append]
      refine ⟨rfl, _, rfl, ?_⟩
      have hc : c = 45 := by
        have := of_decide_eq_true h3
        apply UInt8.toNat_inj.1
        show c.toNat = 45
        omega
      subst hc
      have : validL (45 :: r) = false := by simp [validL]
      rw [this]; rfl
    | false =>
      refine HW.cond (t := false) rfl (HW.skip ?_)
      show HW Tryd.prog _ _ _ _
      refine HW.seq (HW.region (HL.op rfl (HL.nil ?_)))
      try simp only [killFr, List.foldl, put, frame0, h56, List.length, List.replicate, Nat.sub, List.append, List.set, HX.ev, List.getElem?_cons_succ, List.getElem?_cons_zero, Option.getD_some, HAppend.hAppend, Append.append]
      show HW Tryd.prog _ _ _ _
      refine HW.seq (HW.seq (HW.region (HL.op rfl (HL.nil ?_))))
      try simp only [killFr, List.foldl, put, frame0, h56, List.length, List.replicate, Nat.sub, List.append, List.set, HX.ev, List.getElem?_cons_succ, List.getElem?_cons_zero, Option.getD_some, HAppend.hAppend, Append.append]
      show HW Tryd.prog _ _ _ _
      refine HW.block (HW.loop (I10 (c :: r)) (c :: r).length ⟨0, by simp, by simp, rfl, fun k c h => absurd h (by omega), ?_⟩ ?_)
      · unfold base10
        repeat first | exact Less.nil | refine Less.undef _ ?_ | refine Less.keep _ ?_
      rintro n fr hs ⟨i, hi, hn, rfl, hpre, hL⟩
      refine HW.less hL ?_
      unfold base10
      refine HW.seq (HW.seq (HW.region ?_))
      refine HL.op rfl ?_
      try simp only [killFr, List.foldl, put, frame0, h56, List.length, List.replicate, Nat.sub, List.append, List.set, HX.ev, List.getElem?_cons_succ, List.getElem?_cons_zero, Option.getD_some, HAppend.hAppend, Append.append]
      refine HL.op rfl ?_
      try simp only [killFr, List.foldl, put, frame0, h56, List.length, List.replicate, Nat.sub, List.append, List.set, HX.ev, List.getElem?_cons_succ, List.getElem?_cons_zero, Option.getD_some, HAppend.hAppend, Append.append]
      refine HL.op rfl ?_
      try simp only [killFr, List.foldl, put, frame0, h56, List.length, List.replicate, Nat.sub, List.append, List.set, HX.ev, List.getElem?_cons_succ, List.getElem?_cons_zero, Option.getD_some, HAppend.hAppend, Append.append]
      refine HL.op (v := .bool (decide ((i : Int) < ((c :: r).length : Nat)))) rfl (HL.nil ?_)
      try simp only [killFr, List.foldl, put, frame0, h56, List.length, List.replicate, Nat.sub, List.append, List.set, HX.ev, List.getElem?_cons_succ, List.getElem?_cons_zero, Option.getD_some, HAppend.hAppend, Append.append]
      show HW Tryd.prog _ _ _ _
      cases h4 : decide ((i : Int) < ((c :: r).length : Nat)) with
      | false =>
        have hil : i = (c :: r).length := by have := of_decide_eq_false h4; omega
        refine HW.cond (t := false) rfl (HW.exit ?_)
        simp only [HThen, HBlock, if_true]
        refine HW.seq (HW.region (HL.op rfl (HL.nil (HW.ret ?_))))
        try simp only [killFr, List.foldl, put, frame0, h56, List.length, List.replicate, Nat.sub, List.append, List.set, HX.ev, List.getElem?_cons_succ, List.getElem?_cons_zero, Option.getD_some, HAppend.hAppend, Append.append]
        refine ⟨rfl, _, rfl, ?_⟩
        have : validL (c :: r) = true := validL_true (by simp) hl h3 fun k d hk => hpre k d (by have := lt_of_get hk; omega) hk
        rw [this]; rfl
      | true =>
        have hil : i < (c :: r).length := by have := of_decide_eq_true h4; omega
        obtain ⟨c', hc'⟩ : ∃ c', (c :: r)[i]? = some c' := ⟨_, List.getElem?_eq_getElem hil⟩
        refine HW.cond (t := true) rfl (HW.skip ?_)
        show HW Tryd.prog _ _ _ _
        refine HW.seq (HW.block (HW.seq (HW.region ?_)))
        refine HL.op rfl ?_
        try simp only [killFr, List.foldl, put, frame0, h56, List.length, List.replicate, Nat.sub, List.append, List.set, HX.ev, List.getElem?_cons_succ, List.getElem?_cons_zero, Option.getD_some, HAppend.hAppend, Append.append]
        refine HL.op rfl ?_
        try simp only [killFr, List.foldl, put, frame0, h56, List.length, List.replicate, Nat.sub, List.append, List.set, HX.ev, List.getElem?_cons_succ, List.getElem?_cons_zero, Option.getD_some, HAppend.hAppend, Append.append]
        refine HL.op (v := .int .u8 c'.toNat) (congrArg (same []) (hidx hc')) ?_
        try simp only [killFr, List.foldl, put, frame0, h56, List.length, List.replicate, Nat.sub, List.append, List.set, HX.ev, List.getElem?_cons_succ, List.getElem?_cons_zero, Option.getD_some, HAppend.hAppend, Append.append]
        refine HL.op rfl (HL.nil ?_)
        try simp only [killFr, List.foldl, put, frame0, h56, List.length, List.replicate, Nat.sub, List.append, List.set, HX.ev, List.getElem?_cons_succ, List.getElem?_cons_zero, Option.getD_some, HAppend.hAppend, Append.append]
        show HW Tryd.prog _ _ _ _
        refine HW.less (fr := [.str (c :: r), .undef, .bool false, .str [45, 43, 47, 59, 46, 36, 95, 40, 41], .int .i64 i, .int .u8 c'.toNat, .undef, .undef, .undef, .undef, .undef, .undef, .undef, .undef, .undef, .undef, .undef, .undef, .undef, .undef, .undef, .undef, .undef, .undef, .undef, .undef, .undef, .undef, .undef, .undef, .undef, .undef, .undef, .undef, .undef, .undef, .undef, .undef, .undef, .undef, .undef, .undef, .undef, .undef, .undef, .undef, .undef, .undef, .undef, .undef, .undef, .undef, .undef, .undef, .undef, .undef, .undef, .undef, .undef, .undef, .undef, .undef, .undef, .undef, .undef, .undef, .undef, .undef]) (by (repeat first | exact Less.nil | refine Less.undef _ ?_ | refine Less.keep _ ?_)) ?_
        refine HW.seq (HW.region (HL.mono ?_ (reg8_does (c :: r) i c')))
        rintro fr1 hs1 ⟨rfl, hL1⟩
        show HW Tryd.prog _ _ _ _
        refine HW.less hL1 ?_
        unfold mid
        refine HW.seq (HW.seq (HW.region (HL.op rfl (HL.nil ?_))))
        try simp only [killFr, List.foldl, put, frame0, h56, List.length, List.replicate, Nat.sub, List.append, List.set, HX.ev, List.getElem?_cons_succ, List.getElem?_cons_zero, Option.getD_some, HAppend.hAppend, Append.append]
        show HW Tryd.prog _ _ _ _
        refine HW.block (HW.loop (J10 (c :: r) i c') 9 ⟨0, by omega, rfl, rfl, ?_⟩ ?_)
        · have : acc c' 0 = inR c' := by simp [acc]
          rw [this]
          unfold inb
          repeat first | exact Less.nil | refine Less.undef _ ?_ | refine Less.keep _ ?_
        rintro n2 fr2 hs2 ⟨k, hk, hn2, rfl, hL2⟩
        refine HW.less hL2 ?_
        unfold inb
        refine HW.seq (HW.seq (HW.region ?_))
        refine HL.op rfl ?_
        try simp only [killFr, List.foldl, put, frame0, h56, List.length, List.replicate, Nat.sub, List.append, List.set, HX.ev, List.getElem?_cons_succ, List.getElem?_cons_zero, Option.getD_some, HAppend.hAppend, Append.append]
        refine HL.op rfl ?_
        try simp only [killFr, List.foldl, put, frame0, h56, List.length, List.replicate, Nat.sub, List.append, List.set, HX.ev, List.getElem?_cons_succ, List.getElem?_cons_zero, Option.getD_some, HAppend.hAppend, Append.append]
        refine HL.op (v := .int .i64 9) rfl ?_
        try simp only [killFr, List.foldl, put, frame0, h56, List.length, List.replicate, Nat.sub, List.append, List.set, HX.ev, List.getElem?_cons_succ, List.getElem?_cons_zero, Option.getD_some, HAppend.hAppend, Append.append]
        refine HL.op (v := .bool (decide ((k : Int) < 9))) rfl (HL.nil ?_)
        try simp only [killFr, List.foldl, put, frame0, h56, List.length, List.replicate, Nat.sub, List.append, List.set, HX.ev, List.getElem?_cons_succ, List.getElem?_cons_zero, Option.getD_some, HAppend.hAppend, Append.append]
        show HW Tryd.prog _ _ _ _
        cases h5 : decide ((k : Int) < 9) with
        | false =>
          have hk9 : k = 9 := by have := of_decide_eq_false h5; omega
          subst hk9
          refine HW.cond (t := false) rfl (HW.exit ?_)
          simp only [HThen, HBlock, if_true]
          rw [acc_all]
          refine HW.seq (HW.region ?_)
          refine HL.op rfl ?_
          try simp only [killFr, List.foldl, put, frame0, h56, List.length, List.replicate, Nat.sub, List.append, List.set, HX.ev, List.getElem?_cons_succ, List.getElem?_cons_zero, Option.getD_some, HAppend.hAppend, Append.append]
          refine HL.op (v := .bool (!mayB c'.toNat)) rfl (HL.nil ?_)
          try simp only [killFr, List.foldl, put, frame0, h56, List.length, List.replicate, Nat.sub, List.append, List.set, HX.ev, List.getElem?_cons_succ, List.getElem?_cons_zero, Option.getD_some, HAppend.hAppend, Append.append]
          show HW Tryd.prog _ _ _ _
          cases hm : mayB c'.toNat with
          | false =>
            refine HW.cond (t := true) rfl (HW.seq (HW.region (HL.op rfl (HL.nil (HW.ret ?_)))))
            try simp only [killFr, List.foldl, put, frame0, h56, List.length, List.replicate, Nat.sub, List.append, List.set, HX.ev, List.getElem?_cons_succ, List.getElem?_cons_zero, Option.getD_some, HAppend.hAppend, Append.append]
            refine ⟨rfl, _, rfl, ?_⟩
            have : validL (c :: r) = false := validL_false hc' hm
            rw [this]; rfl
          | true =>
            refine HW.cond (t := false) rfl (HW.skip ?_)
            show HW Tryd.prog _ _ _ _
            refine HW.region ?_
            refine HL.op rfl ?_
            try simp only [killFr, List.foldl, put, frame0, h56, List.length, List.replicate, Nat.sub, List.append, List.set, HX.ev, List.getElem?_cons_succ, List.getElem?_cons_zero, Option.getD_some, HAppend.hAppend, Append.append]
            refine HL.op (v := .int .i64 ((i + 1 : Nat) : Int)) (congrArg (same []) (hadd1 (by omega))) ?_
            try simp only [killFr, List.foldl, put, frame0, h56, List.length, List.replicate, Nat.sub, List.append, List.set, HX.ev, List.getElem?_cons_succ, List.getElem?_cons_zero, Option.getD_some, HAppend.hAppend, Append.append]
            refine HL.op rfl (HL.nil ?_)
            try simp only [killFr, List.foldl, put, frame0, h56, List.length, List.replicate, Nat.sub, List.append, List.set, HX.ev, List.getElem?_cons_succ, List.getElem?_cons_zero, Option.getD_some, HAppend.hAppend, Append.append]
            refine ⟨(c :: r).length - (i + 1), by omega, i + 1, by omega, rfl, rfl, ?_, ?_⟩
            · intro k d hk hd
              rcases Nat.lt_or_ge k i with h | h
              · exact hpre k d h hd
              · have : k = i := by omega
                subst this
                rw [hc'] at hd; cases hd; exact hm
            · unfold base10
              repeat first | exact Less.nil | refine Less.undef _ ?_ | refine Less.keep _ ?_
        | true =>
          have hk9 : k < 9 := by have := of_decide_eq_true h5; omega
          obtain ⟨d, hd⟩ : ∃ d, oth[k]? = some d := ⟨_, List.getElem?_eq_getElem (show k < oth.length from hk9)⟩
          have hs := acc_succ c' d k hd
          refine HW.cond (t := true) rfl (HW.skip ?_)
          show HW Tryd.prog _ _ _ _
          refine HW.seq (HW.block (HW.region ?_))
          cases hb : acc c' k with
          | true =>
            rw [hb] at hs
            refine HL.op rfl ?_
            try simp only [killFr, List.foldl, put, frame0, h56, List.length, List.replicate, Nat.sub, List.append, List.set, HX.ev, List.getElem?_cons_succ, List.getElem?_cons_zero, Option.getD_some, HAppend.hAppend, Append.append]
            refine HL.op rfl ?_
            try simp only [killFr, List.foldl, put, frame0, h56, List.length, List.replicate, Nat.sub, List.append, List.set, HX.ev, List.getElem?_cons_succ, List.getElem?_cons_zero, Option.getD_some, HAppend.hAppend, Append.append]
            refine HL.opNot rfl ?_
            try simp only [killFr, List.foldl, put, frame0, h56, List.length, List.replicate, Nat.sub, List.append, List.set, HX.ev, List.getElem?_cons_succ, List.getElem?_cons_zero, Option.getD_some, HAppend.hAppend, Append.append]
            refine HL.opNot rfl ?_
            try simp only [killFr, List.foldl, put, frame0, h56, List.length, List.replicate, Nat.sub, List.append, List.set, HX.ev, List.getElem?_cons_succ, List.getElem?_cons_zero, Option.getD_some, HAppend.hAppend, Append.append]
            refine HL.opNot rfl ?_
            try simp only [killFr, List.foldl, put, frame0, h56, List.length, List.replicate, Nat.sub, List.append, List.set, HX.ev, List.getElem?_cons_succ, List.getElem?_cons_zero, Option.getD_some, HAppend.hAppend, Append.append]
            refine HL.opNot rfl ?_
            try simp only [killFr, List.foldl, put, frame0, h56, List.length, List.replicate, Nat.sub, List.append, List.set, HX.ev, List.getElem?_cons_succ, List.getElem?_cons_zero, Option.getD_some, HAppend.hAppend, Append.append]
            refine HL.opNot rfl ?_
            try simp only [killFr, List.foldl, put, frame0, h56, List.length, List.replicate, Nat.sub, List.append, List.set, HX.ev, List.getElem?_cons_succ, List.getElem?_cons_zero, Option.getD_some, HAppend.hAppend, Append.append]
            refine HL.op (pickT rfl rfl) ?_
            try simp only [killFr, List.foldl, put, frame0, h56, List.length, List.replicate, Nat.sub, List.append, List.set, HX.ev, List.getElem?_cons_succ, List.getElem?_cons_zero, Option.getD_some, HAppend.hAppend, Append.append]
            refine HL.op rfl (HL.nil ?_)
            try simp only [killFr, List.foldl, put, frame0, h56, List.length, List.replicate, Nat.sub, List.append, List.set, HX.ev, List.getElem?_cons_succ, List.getElem?_cons_zero, Option.getD_some, HAppend.hAppend, Append.append]
            show HW Tryd.prog _ _ _ _
            refine HW.region ?_
            refine HL.op rfl ?_
            try simp only [killFr, List.foldl, put, frame0, h56, List.length, List.replicate, Nat.sub, List.append, List.set, HX.ev, List.getElem?_cons_succ, List.getElem?_cons_zero, Option.getD_some, HAppend.hAppend, Append.append]
            refine HL.op (v := .int .i64 ((k + 1 : Nat) : Int)) (congrArg (same []) (hadd1 (by omega))) ?_
            try simp only [killFr, List.foldl, put, frame0, h56, List.length, List.replicate, Nat.sub, List.append, List.set, HX.ev, List.getElem?_cons_succ, List.getElem?_cons_zero, Option.getD_some, HAppend.hAppend, Append.append]
            refine HL.op rfl (HL.nil ?_)
            try simp only [killFr, List.foldl, put, frame0, h56, List.length, List.replicate, Nat.sub, List.append, List.set, HX.ev, List.getElem?_cons_succ, List.getElem?_cons_zero, Option.getD_some, HAppend.hAppend, Append.append]
            refine ⟨9 - (k + 1), by omega, k + 1, by omega, rfl, rfl, ?_⟩
            rw [hs]
            unfold inb
            repeat first | exact Less.nil | refine Less.undef _ ?_ | refine Less.keep _ ?_
          | false =>
            rw [hb] at hs
            refine HL.op rfl ?_
            try simp only [killFr, List.foldl, put, frame0, h56, List.length, List.replicate, Nat.sub, List.append, List.set, HX.ev, List.getElem?_cons_succ, List.getElem?_cons_zero, Option.getD_some, HAppend.hAppend, Append.append]
            refine HL.op rfl ?_
            try simp only [killFr, List.foldl, put, frame0, h56, List.length, List.replicate, Nat.sub, List.append, List.set, HX.ev, List.getElem?_cons_succ, List.getElem?_cons_zero, Option.getD_some, HAppend.hAppend, Append.append]
            refine HL.opIf rfl rfl ?_
            try simp only [killFr, List.foldl, put, frame0, h56, List.length, List.replicate, Nat.sub, List.append, List.set, HX.ev, List.getElem?_cons_succ, List.getElem?_cons_zero, Option.getD_some, HAppend.hAppend, Append.append]
            refine HL.opIf rfl rfl ?_
            try simp only [killFr, List.foldl, put, frame0, h56, List.length, List.replicate, Nat.sub, List.append, List.set, HX.ev, List.getElem?_cons_succ, List.getElem?_cons_zero, Option.getD_some, HAppend.hAppend, Append.append]
            refine HL.opIf rfl rfl ?_
            try simp only [killFr, List.foldl, put, frame0, h56, List.length, List.replicate, Nat.sub, List.append, List.set, HX.ev, List.getElem?_cons_succ, List.getElem?_cons_zero, Option.getD_some, HAppend.hAppend, Append.append]
            refine HL.opIf (v := .int .u8 d.toNat) rfl (congrArg (same []) (hidx (s := oth) hd)) ?_
            try simp only [killFr, List.foldl, put, frame0, h56, List.length, List.replicate, Nat.sub, List.append, List.set, HX.ev, List.getElem?_cons_succ, List.getElem?_cons_zero, Option.getD_some, HAppend.hAppend, Append.append]
            refine HL.opIf (v := .bool (decide ((c'.toNat : Int) = d.toNat))) rfl rfl ?_
            try simp only [killFr, List.foldl, put, frame0, h56, List.length, List.replicate, Nat.sub, List.append, List.set, HX.ev, List.getElem?_cons_succ, List.getElem?_cons_zero, Option.getD_some, HAppend.hAppend, Append.append]
            refine HL.op (pickF rfl rfl) ?_
            try simp only [killFr, List.foldl, put, frame0, h56, List.length, List.replicate, Nat.sub, List.append, List.set, HX.ev, List.getElem?_cons_succ, List.getElem?_cons_zero, Option.getD_some, HAppend.hAppend, Append.append]
            refine HL.op rfl (HL.nil ?_)
            try simp only [killFr, List.foldl, put, frame0, h56, List.length, List.replicate, Nat.sub, List.append, List.set, HX.ev, List.getElem?_cons_succ, List.getElem?_cons_zero, Option.getD_some, HAppend.hAppend, Append.append]
            show HW Tryd.prog _ _ _ _
            refine HW.region ?_
            refine HL.op rfl ?_
            try simp only [killFr, List.foldl, put, frame0, h56, List.length, List.replicate, Nat.sub, List.append, List.set, HX.ev, List.getElem?_cons_succ, List.getElem?_cons_zero, Option.getD_some, HAppend.hAppend, Append.append]
            refine HL.op (v := .int .i64 ((k + 1 : Nat) : Int)) (congrArg (same []) (hadd1 (by omega))) ?_
            try simp only [killFr, List.foldl, put, frame0, h56, List.length, List.replicate, Nat.sub, List.append, List.set, HX.ev, List.getElem?_cons_succ, List.getElem?_cons_zero, Option.getD_some, HAppend.hAppend, Append.append]
            refine HL.op rfl (HL.nil ?_)
            try simp only [killFr, List.foldl, put, frame0, h56, List.length, List.replicate, Nat.sub, List.append, List.set, HX.ev, List.getElem?_cons_succ, List.getElem?_cons_zero, Option.getD_some, HAppend.hAppend, Append.append]
            refine ⟨9 - (k + 1), by omega, k + 1, by omega, rfl, rfl, ?_⟩
            rw [hs, Bool.false_or]
            unfold inb
            repeat first | exact Less.nil | refine Less.undef _ ?_ | refine Less.keep _ ?_
end V
end Go.Proofs.YthihchoccpnfeaaDoor
namespace Go.Proofs.YthihchoccpnfeaaDoor
open Go Go.HL V
namespace W
set_option maxRecDepth 100000
set_option maxHeartbeats 4000000
set_option linter.unusedSimpArgs false

theorem wr64 {x : Int} (h1 : -9223372036854775808 ≤ x) (h2 : x < 9223372036854775808) : wr .i64 x = x := by
  show (x + 9223372036854775808) % 18446744073709551616 - 9223372036854775808 = x
  omega
theorem hquo {a : Nat} (h : a < 9223372036854775808) : hbin .quo none (.int .i64 a) (.int .i64 10) = some (.int .i64 ((a / 10 : Nat) : Int)) := by
  have h0 : hbin .quo none (.int .i64 a) (.int .i64 10) = some (.int .i64 (wr .i64 ((a : Int).tdiv 10))) := rfl
  have h1 : (a : Int).tdiv 10 = ((a / 10 : Nat) : Int) := (Int.ofNat_tdiv a 10).symm
  rw [h0, h1, wr64 (by omega) (by omega)]
theorem hmul {a : Nat} (h : a * 10 < 9223372036854775808) : hbin .mul none (.int .i64 a) (.int .i64 10) = some (.int .i64 ((10 * a : Nat) : Int)) := by
  have h0 : hbin .mul none (.int .i64 a) (.int .i64 10) = some (.int .i64 (wr .i64 ((a : Int) * 10))) := rfl
  rw [h0, wr64 (by omega) (by omega)]
  congr 2; omega
theorem hmul' {a : Nat} (h : a * 10 < 9223372036854775808) : hbin .mul none (.int .i64 10) (.int .i64 a) = some (.int .i64 ((10 * a : Nat) : Int)) := by
  have h0 : hbin .mul none (.int .i64 10) (.int .i64 a) = some (.int .i64 (wr .i64 (10 * (a : Int)))) := rfl
  rw [h0, wr64 (by omega) (by omega)]
  congr 2
theorem hadd {a b : Nat} (h : a + b < 9223372036854775808) : hbin .add none (.int .i64 a) (.int .i64 b) = some (.int .i64 ((a + b : Nat) : Int)) := by
  have h0 : hbin .add none (.int .i64 a) (.int .i64 b) = some (.int .i64 (wr .i64 ((a : Int) + b))) := rfl
  rw [h0, wr64 (by omega) (by omega)]
  congr 2
theorem hrem {a : Nat} : hbin .rem none (.int .i64 a) (.int .i64 10) = some (.int .i64 ((a % 10 : Nat) : Int)) := by
  have h0 : hbin .rem none (.int .i64 a) (.int .i64 10) = some (.int .i64 ((a : Int).tmod 10)) := rfl
  have h1 : (a : Int).tmod 10 = ((a % 10 : Nat) : Int) := (Int.ofNat_tmod a 10).symm
  rw [h0, h1]
theorem hconv8 {d : Nat} (h : d < 10) : hconvInt .u8 (.int .i64 ((48 + d : Nat) : Int)) = some (.int .u8 ((UInt8.ofNat (48 + d)).toNat : Int)) := by
  have h0 : hconvInt .u8 (.int .i64 ((48 + d : Nat) : Int)) = some (.int .u8 (wr .u8 ((48 + d : Nat) : Int))) := rfl
  have h1 : wr .u8 ((48 + d : Nat) : Int) = ((UInt8.ofNat (48 + d)).toNat : Int) := by
    show ((48 + d : Nat) : Int) % 256 = _
    have hx : (UInt8.ofNat (48 + d)).toNat = (48 + d) % 256 := rfl
    rw [hx]
    omega
  rw [h0, h1]
theorem hbyte (c : UInt8) (hs : HS) : hbuildSlice hs 1 1 [.int .u8 0] [(0, 1, .int .u8 c.toNat)] = some (.slice hs.length 0 1 (some 1), hs ++ [some (.cells 1 [.int .u8 c.toNat] false false [])]) := rfl
theorem hstr (c : UInt8) (hs : HS) : hb2s (hs ++ [some (.cells 1 [.int .u8 c.toNat] false false [])]) (.slice hs.length 0 1 (some 1)) = some (.str [c]) := by
  simp [hb2s, takeCells, asBytes]
theorem happ {a b : List UInt8} (h : a.length + b.length ≤ maxLen) : hbin .add none (.str a) (.str b) = some (.str (a ++ b)) := by
  have h0 : hbin .add none (.str a) (.str b) = (if a.length + b.length ≤ maxLen then some (.str (a ++ b)) else none) := rfl
  rw [h0, if_pos h]
theorem dec_big {m : Nat} (h : ¬ m < 10) : Lib.decDigits m = Lib.decDigits (m / 10) ++ [UInt8.ofNat (48 + m % 10)] := by rw [Lib.decDigits, dif_neg h]

def base14 (m : Nat) (acc : List UInt8) : List HV :=
  [.int .i64 m, .undef, .str [], .str acc, .undef, .undef, .undef, .undef, .undef, .undef, .undef, .undef, .undef, .undef, .undef, .undef, .undef, .undef, .undef, .undef, .undef, .undef, .undef, .undef, .undef]
def I14 (n : Nat) (k : Nat) (fr : List HV) (_ : HS) : Prop :=
  ∃ (m : Nat) (acc r : List UInt8), k = m ∧ acc.length + m ≤ n + 1 ∧ m ≤ n ∧ (if m < 10 then r = [] else r = Lib.decDigits (m / 10)) ∧ Lib.decDigits n = r ++ acc ∧ Less (base14 m acc) fr

theorem print14 (n : Nat) (hn : n < 9223372036854775808) : HC Tryd.prog 42 [.int .i64 n] [] fun v _ => v = .str (Lib.decDigits n) := by
  have hm0 : decide ((n : Int) < 0) = false := decide_eq_false (by omega)
  refine HC.body Tryd.func42 c42 ?_
  refine HW.seq (HW.region (HL.op rfl (HL.nil ?_)))
  try simp only [killFr, List.foldl, put, frame0, h42, List.length, List.replicate, Nat.sub, List.append, List.set, HX.ev, List.getElem?_cons_succ, List.getElem?_cons_zero, Option.getD_some, HAppend.hAppend, Append.append]
  refine HW.seq (HW.seq (HW.region ?_))
  refine HL.op rfl ?_
  try simp only [killFr, List.foldl, put, frame0, h42, List.length, List.replicate, Nat.sub, List.append, List.set, HX.ev, List.getElem?_cons_succ, List.getElem?_cons_zero, Option.getD_some, HAppend.hAppend, Append.append]
  refine HL.op (v := .bool false) (congrArg (fun b => some (HV.bool b, _)) hm0) (HL.nil ?_)
  try simp only [killFr, List.foldl, put, frame0, h42, List.length, List.replicate, Nat.sub, List.append, List.set, HX.ev, List.getElem?_cons_succ, List.getElem?_cons_zero, Option.getD_some, HAppend.hAppend, Append.append]
  show HW Tryd.prog _ _ _ _
  refine HW.cond (t := false) rfl (HW.skip ?_)
  show HW Tryd.prog _ _ _ _
  refine HW.seq (HW.region ?_)
  refine HL.op rfl ?_
  try simp only [killFr, List.foldl, put, frame0, h42, List.length, List.replicate, Nat.sub, List.append, List.set, HX.ev, List.getElem?_cons_succ, List.getElem?_cons_zero, Option.getD_some, HAppend.hAppend, Append.append]
  refine HL.op (v := .int .i64 ((n % 10 : Nat) : Int)) (congrArg (same _) hrem) ?_
  try simp only [killFr, List.foldl, put, frame0, h42, List.length, List.replicate, Nat.sub, List.append, List.set, HX.ev, List.getElem?_cons_succ, List.getElem?_cons_zero, Option.getD_some, HAppend.hAppend, Append.append]
  refine HL.op (v := .int .i64 ((48 + n % 10 : Nat) : Int)) (congrArg (same _) (hadd (a := 48) (by omega))) ?_
  try simp only [killFr, List.foldl, put, frame0, h42, List.length, List.replicate, Nat.sub, List.append, List.set, HX.ev, List.getElem?_cons_succ, List.getElem?_cons_zero, Option.getD_some, HAppend.hAppend, Append.append]
  refine HL.op (v := .int .u8 ((UInt8.ofNat (48 + n % 10)).toNat : Int)) (congrArg (same _) (hconv8 (by omega))) ?_
  try simp only [killFr, List.foldl, put, frame0, h42, List.length, List.replicate, Nat.sub, List.append, List.set, HX.ev, List.getElem?_cons_succ, List.getElem?_cons_zero, Option.getD_some, HAppend.hAppend, Append.append]
  refine HL.op (hbyte (UInt8.ofNat (48 + n % 10)) []) ?_
  try simp only [killFr, List.foldl, put, frame0, h42, List.length, List.replicate, Nat.sub, List.append, List.set, HX.ev, List.getElem?_cons_succ, List.getElem?_cons_zero, Option.getD_some, HAppend.hAppend, Append.append]
  refine HL.op (v := .str [UInt8.ofNat (48 + n % 10)]) (congrArg (same _) (hstr (UInt8.ofNat (48 + n % 10)) [])) ?_
  try simp only [killFr, List.foldl, put, frame0, h42, List.length, List.replicate, Nat.sub, List.append, List.set, HX.ev, List.getElem?_cons_succ, List.getElem?_cons_zero, Option.getD_some, HAppend.hAppend, Append.append]
  refine HL.op rfl (HL.nil ?_)
  try simp only [killFr, List.foldl, put, frame0, h42, List.length, List.replicate, Nat.sub, List.append, List.set, HX.ev, List.getElem?_cons_succ, List.getElem?_cons_zero, Option.getD_some, HAppend.hAppend, Append.append]
  show HW Tryd.prog _ _ _ _
  refine HW.seq (HW.block (HW.loop (I14 n) n ⟨n, [UInt8.ofNat (48 + n % 10)], if n < 10 then [] else Lib.decDigits (n / 10), rfl, by simp; omega, by omega, by split <;> rfl, ?_, ?_⟩ ?_))
  · by_cases h : n < 10
    · rw [if_pos h, Lib.decDigits_one h, Nat.mod_eq_of_lt h]; rfl
    · rw [if_neg h]; exact dec_big h
  · unfold base14
    repeat first | exact Less.nil | refine Less.undef _ ?_ | refine Less.keep _ ?_
  rintro k fr hs ⟨m, acc, r, rfl, hacc, hmn, hr, hdec, hL⟩
  refine HW.less hL ?_
  unfold base14
  refine HW.seq (HW.seq (HW.region ?_))
  refine HL.op rfl ?_
  try simp only [killFr, List.foldl, put, frame0, h42, List.length, List.replicate, Nat.sub, List.append, List.set, HX.ev, List.getElem?_cons_succ, List.getElem?_cons_zero, Option.getD_some, HAppend.hAppend, Append.append]
  refine HL.op (v := .bool (decide ((k : Int) ≥ 10))) rfl (HL.nil ?_)
  try simp only [killFr, List.foldl, put, frame0, h42, List.length, List.replicate, Nat.sub, List.append, List.set, HX.ev, List.getElem?_cons_succ, List.getElem?_cons_zero, Option.getD_some, HAppend.hAppend, Append.append]
  show HW Tryd.prog _ _ _ _
  cases h4 : decide ((k : Int) ≥ 10) with
  | false =>
    have hk : k < 10 := by have := of_decide_eq_false h4; omega
    refine HW.cond (t := false) rfl (HW.exit ?_)
    simp only [HThen, HBlock, if_true]
    refine HW.seq (HW.region ?_)
    refine HL.op rfl ?_
    try simp only [killFr, List.foldl, put, frame0, h42, List.length, List.replicate, Nat.sub, List.append, List.set, HX.ev, List.getElem?_cons_succ, List.getElem?_cons_zero, Option.getD_some, HAppend.hAppend, Append.append]
    refine HL.op rfl (HL.nil (HW.ret ?_))
    try simp only [killFr, List.foldl, put, frame0, h42, List.length, List.replicate, Nat.sub, List.append, List.set, HX.ev, List.getElem?_cons_succ, List.getElem?_cons_zero, Option.getD_some, HAppend.hAppend, Append.append]
    refine ⟨rfl, _, rfl, ?_⟩
    rw [if_pos hk] at hr
    rw [hdec, hr]; rfl
  | true =>
    have hk : ¬ k < 10 := by have := of_decide_eq_true h4; omega
    rw [if_neg hk] at hr
    refine HW.cond (t := true) rfl (HW.skip ?_)
    show HW Tryd.prog _ _ _ _
    refine HW.block (HW.seq (HW.region ?_))
    refine HL.op rfl ?_
    try simp only [killFr, List.foldl, put, frame0, h42, List.length, List.replicate, Nat.sub, List.append, List.set, HX.ev, List.getElem?_cons_succ, List.getElem?_cons_zero, Option.getD_some, HAppend.hAppend, Append.append]
    refine HL.op (v := .int .i64 ((k / 10 : Nat) : Int)) (congrArg (same _) (hquo (by omega))) ?_
    try simp only [killFr, List.foldl, put, frame0, h42, List.length, List.replicate, Nat.sub, List.append, List.set, HX.ev, List.getElem?_cons_succ, List.getElem?_cons_zero, Option.getD_some, HAppend.hAppend, Append.append]
    refine HL.op rfl (HL.nil ?_)
    try simp only [killFr, List.foldl, put, frame0, h42, List.length, List.replicate, Nat.sub, List.append, List.set, HX.ev, List.getElem?_cons_succ, List.getElem?_cons_zero, Option.getD_some, HAppend.hAppend, Append.append]
    show HW Tryd.prog _ _ _ _
    refine HW.region ?_
    refine HL.op rfl ?_
    try simp only [killFr, List.foldl, put, frame0, h42, List.length, List.replicate, Nat.sub, List.append, List.set, HX.ev, List.getElem?_cons_succ, List.getElem?_cons_zero, Option.getD_some, HAppend.hAppend, Append.append]
    refine HL.op (v := .int .i64 ((k / 10 % 10 : Nat) : Int)) (congrArg (same _) hrem) ?_
    try simp only [killFr, List.foldl, put, frame0, h42, List.length, List.replicate, Nat.sub, List.append, List.set, HX.ev, List.getElem?_cons_succ, List.getElem?_cons_zero, Option.getD_some, HAppend.hAppend, Append.append]
    refine HL.op (v := .int .i64 ((48 + k / 10 % 10 : Nat) : Int)) (congrArg (same _) (hadd (a := 48) (by omega))) ?_
    try simp only [killFr, List.foldl, put, frame0, h42, List.length, List.replicate, Nat.sub, List.append, List.set, HX.ev, List.getElem?_cons_succ, List.getElem?_cons_zero, Option.getD_some, HAppend.hAppend, Append.append]
    refine HL.op (v := .int .u8 ((UInt8.ofNat (48 + k / 10 % 10)).toNat : Int)) (congrArg (same _) (hconv8 (by omega))) ?_
    try simp only [killFr, List.foldl, put, frame0, h42, List.length, List.replicate, Nat.sub, List.append, List.set, HX.ev, List.getElem?_cons_succ, List.getElem?_cons_zero, Option.getD_some, HAppend.hAppend, Append.append]
    refine HL.op (hbyte (UInt8.ofNat (48 + k / 10 % 10)) hs) ?_
    try simp only [killFr, List.foldl, put, frame0, h42, List.length, List.replicate, Nat.sub, List.append, List.set, HX.ev, List.getElem?_cons_succ, List.getElem?_cons_zero, Option.getD_some, HAppend.hAppend, Append.append]
    refine HL.op (v := .str [UInt8.ofNat (48 + k / 10 % 10)]) (congrArg (same _) (hstr (UInt8.ofNat (48 + k / 10 % 10)) hs)) ?_
    try simp only [killFr, List.foldl, put, frame0, h42, List.length, List.replicate, Nat.sub, List.append, List.set, HX.ev, List.getElem?_cons_succ, List.getElem?_cons_zero, Option.getD_some, HAppend.hAppend, Append.append]
    refine HL.op rfl ?_
    try simp only [killFr, List.foldl, put, frame0, h42, List.length, List.replicate, Nat.sub, List.append, List.set, HX.ev, List.getElem?_cons_succ, List.getElem?_cons_zero, Option.getD_some, HAppend.hAppend, Append.append]
    refine HL.op (v := .str ([UInt8.ofNat (48 + k / 10 % 10)] ++ acc)) (congrArg (same _) (happ (by unfold maxLen; simp; omega))) ?_
    try simp only [killFr, List.foldl, put, frame0, h42, List.length, List.replicate, Nat.sub, List.append, List.set, HX.ev, List.getElem?_cons_succ, List.getElem?_cons_zero, Option.getD_some, HAppend.hAppend, Append.append]
    refine HL.op rfl (HL.nil ?_)
    try simp only [killFr, List.foldl, put, frame0, h42, List.length, List.replicate, Nat.sub, List.append, List.set, HX.ev, List.getElem?_cons_succ, List.getElem?_cons_zero, Option.getD_some, HAppend.hAppend, Append.append]
    refine ⟨k / 10, by omega, k / 10, [UInt8.ofNat (48 + k / 10 % 10)] ++ acc, if k / 10 < 10 then [] else Lib.decDigits (k / 10 / 10), rfl, by simp; omega, by omega, by split <;> rfl, ?_, ?_⟩
    · rw [hdec, hr]
      by_cases h : k / 10 < 10
      · rw [if_pos h, Lib.decDigits_one h, Nat.mod_eq_of_lt h]; rfl
      · rw [if_neg h, dec_big h, List.append_assoc]
    · unfold base14
      repeat first | exact Less.nil | refine Less.undef _ ?_ | refine Less.keep _ ?_
theorem ref42 (n : Int) (h1 : n ≤ 9223372036854775807) (hs : HS) : HC Tryd.prog 42 [.int .i64 n] hs fun v hs' => v = .str (A.ansPr n) ∧ hs' = hs := by
  refine HC.frame (R := fun v => v = .str (A.ansPr n)) rfl (fun v h => by subst h; rfl) ?_
  by_cases hn : n < 0
  · rw [A.ansPr, if_pos hn]
    refine HC.wp mixed Tryd.func42 c42 ?_
    have hd : decide (n < 0) = true := by simpa using hn
    simp -implicitDefEqProofs (disch := first | omega | decide | exact rfl | exact Nat.le_of_ble_eq_true rfl | assumption | (simp only [List.length_append, List.length_cons, List.length_nil, List.drop_zero, List.length_drop] <;> omega)) only [vwp_skip, vwp_ret, vwp_exit, vwp_lab, vwp_seq, vwp_cond, vwp_block, vwp_scope, vwp_region, vwp_draw, vwp_loop, vwp_range, vcnd_tt, vcnd_ff, vthen_normal, vthen_ret, vthen_exit, vblock_normal, vblock_ret, vblock_exit, vreg_nil, vreg_cons, vhl_nil, vhl_op, vhl_guard, vguard_tt, vguard_ff, vguard_tf, vguard_ft, vguard_no, vact_op, vop_some, vput_some, vput_none, vsame_sm, vunit_sm, vget_nil, vget_cons, vget_some,
    vo_mv, vo_bin, vo_un, vo_ext, vo_len, vo_idxS, vo_idxStr, vo_load, vo_pick, vo_append, vo_bslice, evp, vo_nilc, vo_faddr, vo_store, vo_sliceSl, vo_sliceStr, vo_cInt, vo_copy, vo_mkSlice, vo_box, vo_build, vo_b2s, vb2s_sl, vb2s_nil, vcInt, vnil_ptr, vo_mkMap, vo_mkfn, vo_lookup, vo_mapUpd, vo_del, vdel_some, vo_rangeMap, vo_entry, vfaddr_ptr, beq_self_eq_true, eq_self, decide_true, decide_false, vb_lss, vb_leq, vb_gtr, vb_geq, vb_eql, vb_neq, vb_seql, vb_sneq, vb_beql, vb_bneq, vun_not, vlen_str, vlen_sl, vlen_nil, vext_tup, HX.ev, List.length_cons, List.length_nil, List.append_nil, List.nil_append, List.cons_append, List.set_cons_succ, List.set_cons_zero, List.getElem?_cons_succ, List.getElem?_cons_zero, Option.getD_some, Option.map_some, Option.map_none, List.map_cons, List.map_nil, if_true, Bool.not_true, Bool.not_false, Bool.false_eq_true, if_false, va_load, va_ld, va_loadA, va_ldA, va_store, va_st1, va_stn, va_kill0, va_killS, va_box1, va_boxA, get_base, get_base0, set_base, set_base0, List.length_append, Nat.reduceAdd, Nat.zero_add, List.append_assoc, vo_s2b, vo_minmax, va_min2, va_max2, va_minl, List.drop_zero, List.drop_succ_cons, List.take_succ_cons, List.take_zero, vdr_nil, vdr_cons, vdr_op, vdr_some, vdr_loud, vdr_lsome, HOp.looks, vholds_cons, vholds_nil, implies_true, true_and, and_true, vres_tmp, vres_tmp2, vres_none, vres_cell1, vres_k, vres_cell2, vres_k2, vend_ret, vend_normal, vex_some, vdr_guard, vdg_tt, vdg_ff, vdg_tf, vdg_ft, vdg_no, vo_pick, va_s2b, va_takeS, va_takeN, va_app, va_apB, va_ap0, vsadd, Nat.reduceEqDiff, va_sOk, va_sOkN, va_sOk1, va_slLo, va_slHi, va_slBoth, va_slLoC, va_slHiC, va_slBothC, va_nilHi, va_nilLo, va_nilNone, h42, hd, frame0, List.replicate, Nat.sub]
  · rw [A.ansPr, if_neg hn]
    have h := print14 n.toNat (by omega)
    rw [Int.toNat_of_nonneg (by omega)] at h
    exact h
theorem ref56 (s : List UInt8) (hs : HS) : HC Tryd.prog 56 [.str s] hs fun v hs' => v = .bool (validL s) ∧ hs' = hs :=
  HC.frame (R := fun v => v = .bool (validL s)) rfl (fun v h => by subst h; rfl) (ref10 s)
end W
end Go.Proofs.YthihchoccpnfeaaDoor
