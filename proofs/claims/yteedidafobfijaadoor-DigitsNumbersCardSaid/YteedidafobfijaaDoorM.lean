/-
  Proved: the law DigitsParses (stintlaw01) returns true at every text and bound (the tied card).
-/
import Derived.Test.YteedidafobfijaaDoorL
import Derived.Test.YteedidafobfijaaDoorP
namespace Go.Proofs.YteedidafobfijaaDoor
open Go Go.HL Go.ChangeShapes Go.WideShapes Go.ChangeAt Go.ChangeMaps Go.RowKit Go.Shelf
namespace W
set_option maxRecDepth 100000
set_option maxHeartbeats 4000000
set_option linter.unusedSimpArgs false

def ansV (s : List UInt8) (m : Int) : HV := if s = [] ∨ m < 0 then .tup [.int .i64 0, .bool false] else ansP (runP m.toNat s 0)
theorem ansV_form (s : List UInt8) (m : Int) : ∃ (n : Int) (b : Bool), ansV s m = .tup [.int .i64 n, .bool b] := by
  unfold ansV
  split
  · exact ⟨_, _, rfl⟩
  · cases runP m.toNat s 0 with
    | none => exact ⟨_, _, rfl⟩
    | some n => exact ⟨_, _, rfl⟩
theorem eqint (n : Int) : hbin .eql (some .int) (.int .i64 n) (.int .i64 n) = some (.bool true) := by
  have h0 : hbin .eql (some .int) (.int .i64 n) (.int .i64 n) = some (.bool (n == n)) := rfl
  rw [h0, beq_self_eq_true]

/-- what a call does that is given no memory and answers two plain things, it does in any. -/
theorem frame2 {P : Program} {f : FuncId} {args : List HV} {hs : HS} {n : Int} {b : Bool} (ha : args.all HV.flat = true) (h : HC P f args [] fun v _ => v = .tup [.int .i64 n, .bool b]) :
    HC P f args hs fun v hs' => v = .tup [.int .i64 n, .bool b] ∧ hs' = hs := by
  intro β w us E Ra
  refine (h [] w us (emb_nil w) (Ra.flat ha)).mono ?_
  rintro e w' ⟨β', u, v, hs', rfl, rfl, hr, S⟩
  have same : ∀ k, k < w.heap.size → w'.heap[k]? = w.heap[k]? := fun k hk => S.same k hk (by rintro ⟨i, e, b, h1, _⟩; simp at h1)
  refine ⟨β, u, _, hs, rfl, ⟨rfl, rfl⟩, by simpa only [Rel, RelL] using hr, ⟨Ext.refl _, ⟨E.len, fun i e b h1 h2 => ?_, E.sep⟩, S.size, fun k hk _ => same k hk, fun _ _ h => h, S.os, S.output, S.tape⟩⟩
  have hB := E.blk i e b h1 h2
  exact hB.world (same _ hB.lt)

theorem bad11 (s : List UInt8) (m : Int) (h : s = [] ∨ m < 0) : HC Tryd.prog 11 [.str s, .int .i64 m] [] fun v _ => v = .tup [.int .i64 0, .bool false] := by
  refine HC.body Tryd.func11 P2.c11 ?_
  refine HW.seq (HW.region ?_)
  refine HL.op rfl ?_
  try simp only [killFr, List.foldl, put, frame0, P2.h11, List.length, List.replicate, Nat.sub, List.append, List.set, HX.ev, List.getElem?_cons_succ, List.getElem?_cons_zero, Option.getD_some, HAppend.hAppend, Append.append]
  refine HL.op rfl (HL.nil ?_)
  try simp only [killFr, List.foldl, put, frame0, P2.h11, List.length, List.replicate, Nat.sub, List.append, List.set, HX.ev, List.getElem?_cons_succ, List.getElem?_cons_zero, Option.getD_some, HAppend.hAppend, Append.append]
  refine HW.seq (HW.seq (HW.region ?_))
  refine HL.op rfl ?_
  try simp only [killFr, List.foldl, put, frame0, P2.h11, List.length, List.replicate, Nat.sub, List.append, List.set, HX.ev, List.getElem?_cons_succ, List.getElem?_cons_zero, Option.getD_some, HAppend.hAppend, Append.append]
  refine HL.op (v := .bool s.isEmpty) (congrArg (same _) (eqNil s)) ?_
  try simp only [killFr, List.foldl, put, frame0, P2.h11, List.length, List.replicate, Nat.sub, List.append, List.set, HX.ev, List.getElem?_cons_succ, List.getElem?_cons_zero, Option.getD_some, HAppend.hAppend, Append.append]
  refine HL.op rfl ?_
  try simp only [killFr, List.foldl, put, frame0, P2.h11, List.length, List.replicate, Nat.sub, List.append, List.set, HX.ev, List.getElem?_cons_succ, List.getElem?_cons_zero, Option.getD_some, HAppend.hAppend, Append.append]
  cases e : s.isEmpty with
  | true =>
    refine HL.opNot rfl ?_
    try simp only [killFr, List.foldl, put, frame0, P2.h11, List.length, List.replicate, Nat.sub, List.append, List.set, HX.ev, List.getElem?_cons_succ, List.getElem?_cons_zero, Option.getD_some, HAppend.hAppend, Append.append]
    refine HL.opNot rfl ?_
    try simp only [killFr, List.foldl, put, frame0, P2.h11, List.length, List.replicate, Nat.sub, List.append, List.set, HX.ev, List.getElem?_cons_succ, List.getElem?_cons_zero, Option.getD_some, HAppend.hAppend, Append.append]
    refine HL.op (pickT rfl rfl) (HL.nil ?_)
    try simp only [killFr, List.foldl, put, frame0, P2.h11, List.length, List.replicate, Nat.sub, List.append, List.set, HX.ev, List.getElem?_cons_succ, List.getElem?_cons_zero, Option.getD_some, HAppend.hAppend, Append.append]
    show HW Tryd.prog _ _ _ _
    refine HW.cond (t := true) rfl (HW.seq (HW.region ?_))
    refine HL.op rfl ?_
    try simp only [killFr, List.foldl, put, frame0, P2.h11, List.length, List.replicate, Nat.sub, List.append, List.set, HX.ev, List.getElem?_cons_succ, List.getElem?_cons_zero, Option.getD_some, HAppend.hAppend, Append.append]
    refine HL.op rfl (HL.nil (HW.ret ?_))
    try simp only [killFr, List.foldl, put, frame0, P2.h11, List.length, List.replicate, Nat.sub, List.append, List.set, HX.ev, List.getElem?_cons_succ, List.getElem?_cons_zero, Option.getD_some, HAppend.hAppend, Append.append]
    exact ⟨rfl, _, rfl, rfl⟩
  | false =>
    have hm : decide (m < 0) = true := decide_eq_true (by rcases h with rfl | h
                                                          · simp at e
                                                          · exact h)
    refine HL.opIf rfl rfl ?_
    try simp only [killFr, List.foldl, put, frame0, P2.h11, List.length, List.replicate, Nat.sub, List.append, List.set, HX.ev, List.getElem?_cons_succ, List.getElem?_cons_zero, Option.getD_some, HAppend.hAppend, Append.append]
    refine HL.opIf (v := .bool true) rfl (congrArg (fun b => some (HV.bool b, _)) hm) ?_
    try simp only [killFr, List.foldl, put, frame0, P2.h11, List.length, List.replicate, Nat.sub, List.append, List.set, HX.ev, List.getElem?_cons_succ, List.getElem?_cons_zero, Option.getD_some, HAppend.hAppend, Append.append]
    refine HL.op (pickF rfl rfl) (HL.nil ?_)
    try simp only [killFr, List.foldl, put, frame0, P2.h11, List.length, List.replicate, Nat.sub, List.append, List.set, HX.ev, List.getElem?_cons_succ, List.getElem?_cons_zero, Option.getD_some, HAppend.hAppend, Append.append]
    show HW Tryd.prog _ _ _ _
    refine HW.cond (t := true) rfl (HW.seq (HW.region ?_))
    refine HL.op rfl ?_
    try simp only [killFr, List.foldl, put, frame0, P2.h11, List.length, List.replicate, Nat.sub, List.append, List.set, HX.ev, List.getElem?_cons_succ, List.getElem?_cons_zero, Option.getD_some, HAppend.hAppend, Append.append]
    refine HL.op rfl (HL.nil (HW.ret ?_))
    try simp only [killFr, List.foldl, put, frame0, P2.h11, List.length, List.replicate, Nat.sub, List.append, List.set, HX.ev, List.getElem?_cons_succ, List.getElem?_cons_zero, Option.getD_some, HAppend.hAppend, Append.append]
    exact ⟨rfl, _, rfl, rfl⟩
theorem eqLen0 (s : List UInt8) : hbin .eql (some .int) (.int .i64 s.length) (.int .i64 0) = some (.bool s.isEmpty) := by
  cases s with
  | nil => rfl
  | cons c r => rfl
theorem bad12 (s : List UInt8) (m : Int) (h : s = [] ∨ m < 0) : HC Tryd.prog 12 [.str s, .int .i64 m] [] fun v _ => v = .tup [.int .i64 0, .bool false] := by
  refine HC.body Tryd.func12 P2.c12 ?_
  refine HW.seq (HW.region ?_)
  refine HL.op rfl ?_
  try simp only [killFr, List.foldl, put, frame0, P2.h12, List.length, List.replicate, Nat.sub, List.append, List.set, HX.ev, List.getElem?_cons_succ, List.getElem?_cons_zero, Option.getD_some, HAppend.hAppend, Append.append]
  refine HL.op rfl (HL.nil ?_)
  try simp only [killFr, List.foldl, put, frame0, P2.h12, List.length, List.replicate, Nat.sub, List.append, List.set, HX.ev, List.getElem?_cons_succ, List.getElem?_cons_zero, Option.getD_some, HAppend.hAppend, Append.append]
  refine HW.seq (HW.seq (HW.region ?_))
  refine HL.op rfl ?_
  try simp only [killFr, List.foldl, put, frame0, P2.h12, List.length, List.replicate, Nat.sub, List.append, List.set, HX.ev, List.getElem?_cons_succ, List.getElem?_cons_zero, Option.getD_some, HAppend.hAppend, Append.append]
  refine HL.op (v := .int .i64 s.length) rfl ?_
  try simp only [killFr, List.foldl, put, frame0, P2.h12, List.length, List.replicate, Nat.sub, List.append, List.set, HX.ev, List.getElem?_cons_succ, List.getElem?_cons_zero, Option.getD_some, HAppend.hAppend, Append.append]
  refine HL.op (v := .bool s.isEmpty) (congrArg (same _) (eqLen0 s)) ?_
  try simp only [killFr, List.foldl, put, frame0, P2.h12, List.length, List.replicate, Nat.sub, List.append, List.set, HX.ev, List.getElem?_cons_succ, List.getElem?_cons_zero, Option.getD_some, HAppend.hAppend, Append.append]
  refine HL.op rfl ?_
  try simp only [killFr, List.foldl, put, frame0, P2.h12, List.length, List.replicate, Nat.sub, List.append, List.set, HX.ev, List.getElem?_cons_succ, List.getElem?_cons_zero, Option.getD_some, HAppend.hAppend, Append.append]
  cases e : s.isEmpty with
  | true =>
    refine HL.opNot rfl ?_
    try simp only [killFr, List.foldl, put, frame0, P2.h12, List.length, List.replicate, Nat.sub, List.append, List.set, HX.ev, List.getElem?_cons_succ, List.getElem?_cons_zero, Option.getD_some, HAppend.hAppend, Append.append]
    refine HL.opNot rfl ?_
    try simp only [killFr, List.foldl, put, frame0, P2.h12, List.length, List.replicate, Nat.sub, List.append, List.set, HX.ev, List.getElem?_cons_succ, List.getElem?_cons_zero, Option.getD_some, HAppend.hAppend, Append.append]
    refine HL.op (pickT rfl rfl) (HL.nil ?_)
    try simp only [killFr, List.foldl, put, frame0, P2.h12, List.length, List.replicate, Nat.sub, List.append, List.set, HX.ev, List.getElem?_cons_succ, List.getElem?_cons_zero, Option.getD_some, HAppend.hAppend, Append.append]
    show HW Tryd.prog _ _ _ _
    refine HW.cond (t := true) rfl (HW.seq (HW.region ?_))
    refine HL.op rfl ?_
    try simp only [killFr, List.foldl, put, frame0, P2.h12, List.length, List.replicate, Nat.sub, List.append, List.set, HX.ev, List.getElem?_cons_succ, List.getElem?_cons_zero, Option.getD_some, HAppend.hAppend, Append.append]
    refine HL.op rfl (HL.nil (HW.ret ?_))
    try simp only [killFr, List.foldl, put, frame0, P2.h12, List.length, List.replicate, Nat.sub, List.append, List.set, HX.ev, List.getElem?_cons_succ, List.getElem?_cons_zero, Option.getD_some, HAppend.hAppend, Append.append]
    exact ⟨rfl, _, rfl, rfl⟩
  | false =>
    have hm : decide (m < 0) = true := decide_eq_true (by rcases h with rfl | h
                                                          · simp at e
                                                          · exact h)
    refine HL.opIf rfl rfl ?_
    try simp only [killFr, List.foldl, put, frame0, P2.h12, List.length, List.replicate, Nat.sub, List.append, List.set, HX.ev, List.getElem?_cons_succ, List.getElem?_cons_zero, Option.getD_some, HAppend.hAppend, Append.append]
    refine HL.opIf (v := .bool true) rfl (congrArg (fun b => some (HV.bool b, _)) hm) ?_
    try simp only [killFr, List.foldl, put, frame0, P2.h12, List.length, List.replicate, Nat.sub, List.append, List.set, HX.ev, List.getElem?_cons_succ, List.getElem?_cons_zero, Option.getD_some, HAppend.hAppend, Append.append]
    refine HL.op (pickF rfl rfl) (HL.nil ?_)
    try simp only [killFr, List.foldl, put, frame0, P2.h12, List.length, List.replicate, Nat.sub, List.append, List.set, HX.ev, List.getElem?_cons_succ, List.getElem?_cons_zero, Option.getD_some, HAppend.hAppend, Append.append]
    show HW Tryd.prog _ _ _ _
    refine HW.cond (t := true) rfl (HW.seq (HW.region ?_))
    refine HL.op rfl ?_
    try simp only [killFr, List.foldl, put, frame0, P2.h12, List.length, List.replicate, Nat.sub, List.append, List.set, HX.ev, List.getElem?_cons_succ, List.getElem?_cons_zero, Option.getD_some, HAppend.hAppend, Append.append]
    refine HL.op rfl (HL.nil (HW.ret ?_))
    try simp only [killFr, List.foldl, put, frame0, P2.h12, List.length, List.replicate, Nat.sub, List.append, List.set, HX.ev, List.getElem?_cons_succ, List.getElem?_cons_zero, Option.getD_some, HAppend.hAppend, Append.append]
    exact ⟨rfl, _, rfl, rfl⟩
theorem all11 (s : List UInt8) (m : Int) (hm : m < 9223372036854775808) : HC Tryd.prog 11 [.str s, .int .i64 m] [] fun v _ => v = ansV s m := by
  unfold ansV
  by_cases h : s = [] ∨ m < 0
  · rw [if_pos h]; exact bad11 s m h
  · rw [if_neg h]
    have h1 : s ≠ [] := fun e => h (.inl e)
    have h2 : m = ((m.toNat : Nat) : Int) := by omega
    have := parse11 s m.toNat h1 (by omega)
    rw [← h2] at this
    exact this
theorem all12 (s : List UInt8) (m : Int) (hl : s.length < 9223372036854775808) (hm : m < 9223372036854775808) : HC Tryd.prog 12 [.str s, .int .i64 m] [] fun v _ => v = ansV s m := by
  unfold ansV
  by_cases h : s = [] ∨ m < 0
  · rw [if_pos h]; exact bad12 s m h
  · rw [if_neg h]
    have h1 : s ≠ [] := fun e => h (.inl e)
    have h2 : m = ((m.toNat : Nat) : Int) := by omega
    have := parse12 s m.toNat h1 hl (by omega)
    rw [← h2] at this
    exact this
theorem ok11 : okF Tryd.prog 11 := ⟨_, Tryd.func11, by kernel_rfl, by kernel_rfl⟩
theorem ok12 : okF Tryd.prog 12 := ⟨_, Tryd.func12, by kernel_rfl, by kernel_rfl⟩
theorem law3 (s : List UInt8) (m : Int) (hl : s.length < 9223372036854775808) (hm : m < 9223372036854775808) : HC Tryd.prog 3 [.str s, .int .i64 m] hs0 fun v _ => v = .bool true := by
  obtain ⟨n, b, hf⟩ := ansV_form s m
  have h11 := all11 s m hm
  have h12 := all12 s m hl hm
  rw [hf] at h11 h12
  refine HC.body Tryd.func3 P2.c3 ?_
  refine HW.seq (HW.region (HL.op rfl (HL.nil ?_)))
  try simp only [killFr, List.foldl, put, frame0, P2.h3, List.length, List.replicate, Nat.sub, List.append, List.set, HX.ev, List.getElem?_cons_succ, List.getElem?_cons_zero, Option.getD_some, HAppend.hAppend, Append.append]
  refine HW.seq (HW.region ?_)
  refine HL.call (g := 10) (xs := []) rfl (HC.call ok10 shown10 ?_)
  rintro v hs' rfl
  try simp only [killFr, List.foldl, put, frame0, P2.h3, List.length, List.replicate, Nat.sub, List.append, List.set, HX.ev, List.getElem?_cons_succ, List.getElem?_cons_zero, Option.getD_some, HAppend.hAppend, Append.append]
  refine HL.op rfl (HL.nil ?_)
  try simp only [killFr, List.foldl, put, frame0, P2.h3, List.length, List.replicate, Nat.sub, List.append, List.set, HX.ev, List.getElem?_cons_succ, List.getElem?_cons_zero, Option.getD_some, HAppend.hAppend, Append.append]
  refine HW.seq (HW.region ?_)
  refine HL.op rfl ?_
  try simp only [killFr, List.foldl, put, frame0, P2.h3, List.length, List.replicate, Nat.sub, List.append, List.set, HX.ev, List.getElem?_cons_succ, List.getElem?_cons_zero, Option.getD_some, HAppend.hAppend, Append.append]
  refine HL.op rfl ?_
  try simp only [killFr, List.foldl, put, frame0, P2.h3, List.length, List.replicate, Nat.sub, List.append, List.set, HX.ev, List.getElem?_cons_succ, List.getElem?_cons_zero, Option.getD_some, HAppend.hAppend, Append.append]
  refine HL.call (g := 11) (xs := [.str s, .int .i64 m]) rfl (HC.call ok11 (frame2 rfl h11) ?_)
  rintro v hs2 ⟨rfl, rfl⟩
  try simp only [killFr, List.foldl, put, frame0, P2.h3, List.length, List.replicate, Nat.sub, List.append, List.set, HX.ev, List.getElem?_cons_succ, List.getElem?_cons_zero, Option.getD_some, HAppend.hAppend, Append.append]
  refine HL.op rfl ?_
  try simp only [killFr, List.foldl, put, frame0, P2.h3, List.length, List.replicate, Nat.sub, List.append, List.set, HX.ev, List.getElem?_cons_succ, List.getElem?_cons_zero, Option.getD_some, HAppend.hAppend, Append.append]
  refine HL.op (v := .int .i64 n) rfl ?_
  try simp only [killFr, List.foldl, put, frame0, P2.h3, List.length, List.replicate, Nat.sub, List.append, List.set, HX.ev, List.getElem?_cons_succ, List.getElem?_cons_zero, Option.getD_some, HAppend.hAppend, Append.append]
  refine HL.op (v := .bool b) rfl ?_
  try simp only [killFr, List.foldl, put, frame0, P2.h3, List.length, List.replicate, Nat.sub, List.append, List.set, HX.ev, List.getElem?_cons_succ, List.getElem?_cons_zero, Option.getD_some, HAppend.hAppend, Append.append]
  refine HL.op rfl ?_
  try simp only [killFr, List.foldl, put, frame0, P2.h3, List.length, List.replicate, Nat.sub, List.append, List.set, HX.ev, List.getElem?_cons_succ, List.getElem?_cons_zero, Option.getD_some, HAppend.hAppend, Append.append]
  refine HL.op rfl (HL.nil ?_)
  try simp only [killFr, List.foldl, put, frame0, P2.h3, List.length, List.replicate, Nat.sub, List.append, List.set, HX.ev, List.getElem?_cons_succ, List.getElem?_cons_zero, Option.getD_some, HAppend.hAppend, Append.append]
  refine HW.seq (HW.region ?_)
  refine HL.op rfl ?_
  try simp only [killFr, List.foldl, put, frame0, P2.h3, List.length, List.replicate, Nat.sub, List.append, List.set, HX.ev, List.getElem?_cons_succ, List.getElem?_cons_zero, Option.getD_some, HAppend.hAppend, Append.append]
  refine HL.op rfl ?_
  try simp only [killFr, List.foldl, put, frame0, P2.h3, List.length, List.replicate, Nat.sub, List.append, List.set, HX.ev, List.getElem?_cons_succ, List.getElem?_cons_zero, Option.getD_some, HAppend.hAppend, Append.append]
  refine HL.call (g := 12) (xs := [.str s, .int .i64 m]) rfl (HC.call ok12 (frame2 rfl h12) ?_)
  rintro v hs3 ⟨rfl, rfl⟩
  try simp only [killFr, List.foldl, put, frame0, P2.h3, List.length, List.replicate, Nat.sub, List.append, List.set, HX.ev, List.getElem?_cons_succ, List.getElem?_cons_zero, Option.getD_some, HAppend.hAppend, Append.append]
  refine HL.op rfl ?_
  try simp only [killFr, List.foldl, put, frame0, P2.h3, List.length, List.replicate, Nat.sub, List.append, List.set, HX.ev, List.getElem?_cons_succ, List.getElem?_cons_zero, Option.getD_some, HAppend.hAppend, Append.append]
  refine HL.op (v := .int .i64 n) rfl ?_
  try simp only [killFr, List.foldl, put, frame0, P2.h3, List.length, List.replicate, Nat.sub, List.append, List.set, HX.ev, List.getElem?_cons_succ, List.getElem?_cons_zero, Option.getD_some, HAppend.hAppend, Append.append]
  refine HL.op (v := .bool b) rfl ?_
  try simp only [killFr, List.foldl, put, frame0, P2.h3, List.length, List.replicate, Nat.sub, List.append, List.set, HX.ev, List.getElem?_cons_succ, List.getElem?_cons_zero, Option.getD_some, HAppend.hAppend, Append.append]
  refine HL.op rfl ?_
  try simp only [killFr, List.foldl, put, frame0, P2.h3, List.length, List.replicate, Nat.sub, List.append, List.set, HX.ev, List.getElem?_cons_succ, List.getElem?_cons_zero, Option.getD_some, HAppend.hAppend, Append.append]
  refine HL.op rfl (HL.nil ?_)
  try simp only [killFr, List.foldl, put, frame0, P2.h3, List.length, List.replicate, Nat.sub, List.append, List.set, HX.ev, List.getElem?_cons_succ, List.getElem?_cons_zero, Option.getD_some, HAppend.hAppend, Append.append]
  refine HW.seq (HW.region ?_)
  refine HL.op rfl ?_
  try simp only [killFr, List.foldl, put, frame0, P2.h3, List.length, List.replicate, Nat.sub, List.append, List.set, HX.ev, List.getElem?_cons_succ, List.getElem?_cons_zero, Option.getD_some, HAppend.hAppend, Append.append]
  refine HL.op rfl ?_
  try simp only [killFr, List.foldl, put, frame0, P2.h3, List.length, List.replicate, Nat.sub, List.append, List.set, HX.ev, List.getElem?_cons_succ, List.getElem?_cons_zero, Option.getD_some, HAppend.hAppend, Append.append]
  refine HL.opIf rfl rfl ?_
  try simp only [killFr, List.foldl, put, frame0, P2.h3, List.length, List.replicate, Nat.sub, List.append, List.set, HX.ev, List.getElem?_cons_succ, List.getElem?_cons_zero, Option.getD_some, HAppend.hAppend, Append.append]
  refine HL.opIf rfl rfl ?_
  try simp only [killFr, List.foldl, put, frame0, P2.h3, List.length, List.replicate, Nat.sub, List.append, List.set, HX.ev, List.getElem?_cons_succ, List.getElem?_cons_zero, Option.getD_some, HAppend.hAppend, Append.append]
  refine HL.opIf (v := .bool true) rfl (congrArg (same _) (eqint _)) ?_
  try simp only [killFr, List.foldl, put, frame0, P2.h3, List.length, List.replicate, Nat.sub, List.append, List.set, HX.ev, List.getElem?_cons_succ, List.getElem?_cons_zero, Option.getD_some, HAppend.hAppend, Append.append]
  refine HL.op (pickT rfl rfl) ?_
  try simp only [killFr, List.foldl, put, frame0, P2.h3, List.length, List.replicate, Nat.sub, List.append, List.set, HX.ev, List.getElem?_cons_succ, List.getElem?_cons_zero, Option.getD_some, HAppend.hAppend, Append.append]
  refine HL.op rfl ?_
  try simp only [killFr, List.foldl, put, frame0, P2.h3, List.length, List.replicate, Nat.sub, List.append, List.set, HX.ev, List.getElem?_cons_succ, List.getElem?_cons_zero, Option.getD_some, HAppend.hAppend, Append.append]
  refine HL.opIf rfl rfl ?_
  try simp only [killFr, List.foldl, put, frame0, P2.h3, List.length, List.replicate, Nat.sub, List.append, List.set, HX.ev, List.getElem?_cons_succ, List.getElem?_cons_zero, Option.getD_some, HAppend.hAppend, Append.append]
  refine HL.opIf rfl rfl ?_
  try simp only [killFr, List.foldl, put, frame0, P2.h3, List.length, List.replicate, Nat.sub, List.append, List.set, HX.ev, List.getElem?_cons_succ, List.getElem?_cons_zero, Option.getD_some, HAppend.hAppend, Append.append]
  refine HL.opIf (v := .bool true) rfl (congrArg (same _) (eqbool _)) ?_
  try simp only [killFr, List.foldl, put, frame0, P2.h3, List.length, List.replicate, Nat.sub, List.append, List.set, HX.ev, List.getElem?_cons_succ, List.getElem?_cons_zero, Option.getD_some, HAppend.hAppend, Append.append]
  refine HL.op (pickT rfl rfl) ?_
  try simp only [killFr, List.foldl, put, frame0, P2.h3, List.length, List.replicate, Nat.sub, List.append, List.set, HX.ev, List.getElem?_cons_succ, List.getElem?_cons_zero, Option.getD_some, HAppend.hAppend, Append.append]
  refine HL.op rfl (HL.nil ?_)
  try simp only [killFr, List.foldl, put, frame0, P2.h3, List.length, List.replicate, Nat.sub, List.append, List.set, HX.ev, List.getElem?_cons_succ, List.getElem?_cons_zero, Option.getD_some, HAppend.hAppend, Append.append]
  refine HW.ret ?_
  exact ⟨rfl, _, rfl, rfl⟩
theorem pow_of_laidP {W : World} (h : laidMetH Tryd.prog Rows.digitsParsesRow.laid W) : Lib.TabIs Tryd.prog W "internal/strconv.uint64pow10" .u64 pow := by
  rw [MakeChecks.laidMetH_plain _ _ _ (by kernel_rfl)] at h
  have h2 : laidMet Tryd.prog (("internal/strconv.uint64pow10", Lib.tabData .u64 pow) :: [("unicode/utf8.acceptRanges", Rows.laid_unicode_utf8_acceptRanges), ("unicode/utf8.first", Rows.laid_unicode_utf8_first)]) W := h.tail.tail
  exact Lib.tabIs_of_head (g := 0) (by kernel_rfl) (by kernel_rfl) Tryd.underlying76 Tryd.underlying62 (by kernel_rfl) (by kernel_rfl) h2

theorem parses_lifted (os : Os) (started : os.Started) (H : Type) (enc : TypeId × Value → H) :
    ReturnsInHanded {} Tryd.checked os 3 .any (fun w args => (Rows.digitsParsesSpec.pre enc Tryd.prog Tryd.f3 [] false w args ∧ laidMetH Tryd.prog Rows.digitsParsesRow.laid w) ∧ sizedMet enc Tryd.prog Tryd.f3 (OpenSpec.ofChange Rows.digitsParsesSpec) false w args)
      (Rows.digitsParsesSpec.post enc Tryd.prog Tryd.f3 false true false false) := by
  refine returnsInHanded_of_change_and (C := Tryd.checked) (X := fun w _ => laidMetH Tryd.prog Rows.digitsParsesRow.laid w) (fun _ _ _ hh h => h.of_heap hh) own started (by kernel_rfl) Tryd.func3
    (ChangeSpec.witness_shaped (enc := enc) (C := Tryd.checked) (os := os) (X := fun w _ => laidMetH Tryd.prog Rows.digitsParsesRow.laid w) false (World.laidAll Tryd.prog os Rows.digitsParsesRow.laid) #[.string .empty, .int .i64 0] 8 (World.laidAll_os _ _ _)
      (World.shaped_of_ZipB (by kernel_rfl) (by kernel_rfl)) (by kernel_rfl) (by kernel_rfl) (by kernel_rfl)
      (by rw [MakeChecks.laidMetH_plain _ _ _ (by kernel_rfl)]; exact laidMet_laidAll _ (by kernel_rfl) (by kernel_rfl))) ?_
  intro W base args ds gs before hval0 hW _ _ hL _
  have hval : ∀ (j : Nat) t v, Tryd.f3.params[j]? = some t → args[j]? = some v → Value.okWide Tryd.prog W .any base t v := hval0
  have hW' := hW
  obtain ⟨p, q, hA0, hV, rfl, hfz, hnd⟩ := hW
  have hA : DataW.TrodAll enc Tryd.prog W 0 (fun _ => true) true Tryd.f3.params.toList args.toList ds p := hA0
  rw [Tryd.params3] at hA hval
  obtain ⟨v0, v1, d0, d1, p0, p1, rfl, rfl, rfl, h0, h1⟩ := trodAll_two hA
  obtain ⟨m, rfl, rfl, rfl, hwm⟩ := open_int Tryd.underlying3 (hval 1 3 v1 rfl rfl) h1
  have hm : m < 9223372036854775808 := by
    have h2 : (decide (IntKind.i64.min ≤ m) && decide (m ≤ IntKind.i64.max)) = true := hwm
    rw [Bool.and_eq_true, decide_eq_true_eq, decide_eq_true_eq] at h2
    have h3 : IntKind.i64.max = 9223372036854775807 := by decide
    rw [h3] at h2
    exact Int.lt_of_le_of_lt h2.2 (by decide)
  obtain ⟨s, rfl, rfl, rfl, hs⟩ := open_string Tryd.underlying9 (hval 0 9 v0 rfl rfl) h0
  obtain ⟨rfl, rfl⟩ := trodVars_none hV
  have hR : RelL [⟨0, 0, pow.length, 1⟩, ⟨0, 0, 1, 1⟩] [HV.str s.data.toList, HV.int .i64 m] [Value.string s, Value.int .i64 m] := by
    simp only [RelL, Rel]
    exact ⟨_, _, rfl, rfl, _, [], rfl, rfl, rfl⟩
  have hlen : s.data.toList.length < 9223372036854775808 := by
    have h1 : s.data.toList.length = s.size := Array.length_toList
    unfold maxLen at hs
    rw [h1]
    exact Nat.lt_of_le_of_lt hs (Nat.lt_succ_self _)
  refine (HC.below (emb_tab (by kernel_rfl) (pow_of_laidP hL)) hR (fun i c h => ?_) (law3 s.data.toList m hlen hm)).mono fun e W' ⟨he, hb⟩ => ?_
  · have hi : i = 0 ∨ i = 1 := by have := lt_of_get h; simp [hs0] at this; omega
    rcases hi with rfl | rfl <;> (simp [hs0] at h; subst h; rfl)
  subst he
  exact ⟨_, rfl, law_post (tb := 4) laidOut rfl Tryd.underlying4 (by kernel_rfl) (by kernel_rfl) hW' rfl hb⟩

theorem digitsParses_holds : Rows.DigitsParsesSaid :=
  OpenClaim.holds_of_wide 3 Tryd.f3 rfl rfl rfl rfl rfl rfl rfl ⟨rfl, rfl, rfl, rfl, rfl⟩ rfl rfl rfl rfl rfl (by kernel_rfl) Tryd.func3 (by kernel_rfl)
    (of_decide_eq_true (by kernel_rfl)) (by unfold Func.isWrapper; first | (rw [if_pos (by decide +kernel)]; kernel_rfl) | (rw [if_neg (by decide +kernel)]; exact ⟨rfl, rfl⟩))
    (fun os started H enc _ => parses_lifted os started H enc)
theorem digitsParses_card : Rows.DigitsParsesCardSaid :=
  Claim7.holds_tied_plain_at .later [] [.data, .data, .data, .data, .pinned] true (true, "292aa59d8ee6bf52d4ffcf097a31faf6b554d06dee12e25551358aaa0ec2dfd0") false
    digitsParses_holds (fun _ h => by cases h) (by kernel_rfl) (fun _ h => by cases h) digitsParses_row_tie rfl ⟨rfl, rfl⟩ (by kernel_rfl) rfl
    (fun f fn hf hfn => by
      obtain rfl : f = 3 := Option.some.inj ((show Tryd.prog.funcNamed "stint/stintlaw01.DigitsParses" = some 3 by kernel_rfl).symm.trans hf) |>.symm
      obtain rfl : fn = Tryd.f3 := (Option.some.inj (Tryd.func3.symm.trans hfn)).symm
      exact ⟨by kernel_rfl, fun j t ht => by
        rw [Tryd.params3] at ht
        have hm : t ∈ [9, 3] := by simpa using Array.mem_of_getElem? ht
        have hall : ([9, 3].all fun u => !Tryd.prog.wantsStandIn u) = true := by kernel_rfl
        exact (show Tryd.prog.wantsStandIn t = false by simpa using List.all_eq_true.1 hall t hm)⟩)
    (by kernel_rfl)
#print axioms digitsParses_card
end W
end Go.Proofs.YteedidafobfijaaDoor
