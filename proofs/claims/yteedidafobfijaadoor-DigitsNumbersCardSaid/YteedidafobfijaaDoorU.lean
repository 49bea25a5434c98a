/-
  Proved: the law DigitsNumbers (stintlaw01) returns true at every three numbers (the tied card).
-/
import Derived.Test.YteedidafobfijaaDoorQ
import Derived.Test.YteedidafobfijaaDoorM
import Derived.Test.YteedidafobfijaaDoorF4
namespace Go.Proofs.YteedidafobfijaaDoor
open Go Go.HL Go.ChangeShapes Go.WideShapes Go.ChangeAt Go.ChangeMaps Go.RowKit Go.Shelf
namespace W
set_option maxRecDepth 100000
set_option maxHeartbeats 8000000
set_option linter.unusedSimpArgs false

/-! ### plain laws -/
theorem stepP_dig {M n d : Nat} (hd : d < 10) : stepP M n (UInt8.ofNat (48 + d)) = if 10 * n + d ≤ M then some (10 * n + d) else none := by
  have hx : (UInt8.ofNat (48 + d)).toNat = 48 + d := by
    have : (UInt8.ofNat (48 + d)).toNat = (48 + d) % 256 := rfl
    omega
  unfold stepP
  rw [hx]
  have e : 48 + d - 48 = d := by omega
  rw [e]
  by_cases h : 10 * n + d ≤ M
  · rw [if_pos ⟨by omega, by omega, h⟩, if_pos h]
  · rw [if_neg (fun x => h x.2.2), if_neg h]

theorem runP_cons (M n : Nat) (c : UInt8) (t : List UInt8) : runP M (c :: t) n = match stepP M n c with | some m => runP M t m | none => none := rfl

theorem runP_dec (M : Nat) : ∀ (u : Nat) (t : List UInt8), runP M (Lib.decDigits u ++ t) 0 = if u ≤ M then runP M t u else none := by
  intro u
  induction u using Nat.strongRecOn with
  | _ u ih =>
    intro t
    by_cases h : u < 10
    · rw [Lib.decDigits_one h]
      show runP M (UInt8.ofNat (48 + u) :: t) 0 = _
      rw [runP_cons, stepP_dig h]
      by_cases hu : u ≤ M
      · rw [if_pos (by omega), if_pos hu]; simp
      · rw [if_neg (by omega), if_neg hu]
    · rw [dec_big h, List.append_assoc, ih (u / 10) (by omega)]
      show (if u / 10 ≤ M then runP M (UInt8.ofNat (48 + u % 10) :: t) (u / 10) else none) = _
      rw [runP_cons, stepP_dig (by omega)]
      have e : 10 * (u / 10) + u % 10 = u := by omega
      rw [e]
      by_cases hu : u ≤ M
      · rw [if_pos (by omega), if_pos hu, if_pos hu]
      · rw [if_neg hu, if_neg hu]
        split <;> rfl

theorem runP_zeros (M : Nat) : ∀ (k : Nat) (t : List UInt8), runP M (List.replicate k 48 ++ t) 0 = runP M t 0
  | 0, t => rfl
  | k + 1, t => by
    rw [List.replicate_succ]
    show runP M (48 :: (List.replicate k 48 ++ t)) 0 = _
    rw [runP_cons]
    have : stepP M 0 48 = some 0 := by
      have h := stepP_dig (M := M) (n := 0) (d := 0) (by omega)
      rw [if_pos (by omega)] at h
      exact h
    rw [this]
    exact runP_zeros M k t

theorem dec_ne (u : Nat) : Lib.decDigits u ≠ [] := by
  by_cases h : u < 10
  · rw [Lib.decDigits_one h]; simp
  · rw [dec_big h]; simp

theorem ansV_le {k nn : Nat} {m : Int} (h : (nn : Int) ≤ m) : ansV (List.replicate k 48 ++ Lib.decDigits nn) m = .tup [.int .i64 nn, .bool true] := by
  unfold ansV
  have hne : ¬ (List.replicate k 48 ++ Lib.decDigits nn = [] ∨ m < 0) := by
    rintro (h1 | h1)
    · exact dec_ne nn (List.append_eq_nil_iff.1 h1).2
    · omega
  rw [if_neg hne, runP_zeros]
  have := runP_dec m.toNat nn []
  rw [List.append_nil, if_pos (by omega)] at this
  rw [this]; rfl
theorem ansV_gt {k nn : Nat} {m : Int} (h : ¬ (nn : Int) ≤ m) : ansV (List.replicate k 48 ++ Lib.decDigits nn) m = .tup [.int .i64 0, .bool false] := by
  unfold ansV
  by_cases hne : (List.replicate k 48 ++ Lib.decDigits nn = [] ∨ m < 0)
  · rw [if_pos hne]
  · rw [if_neg hne, runP_zeros]
    have hm : ¬ m < 0 := fun x => hne (.inr x)
    have := runP_dec m.toNat nn []
    rw [List.append_nil, if_neg (by omega)] at this
    rw [this]; rfl

theorem dec_len (u : Nat) : (Lib.decDigits u).length ≤ u + 1 := by
  induction u using Nat.strongRecOn with
  | _ u ih =>
    by_cases h : u < 10
    · rw [Lib.decDigits_one h]; simp
    · rw [dec_big h]
      have := ih (u / 10) (by omega)
      simp
      omega

theorem lenP : ∀ (k u : Nat), u < 10 ^ (k + 1) → (Lib.decDigits u).length ≤ k + 1
  | 0, u, h => by rw [Lib.decDigits_one (by simpa using h)]; simp
  | k + 1, u, h => by
    by_cases h10 : u < 10
    · rw [Lib.decDigits_one h10]; simp
    · rw [dec_big h10]
      have := lenP k (u / 10) (by rw [Nat.pow_succ] at h; omega)
      simp
      omega

/-! ### the row of zeros -/
def RowOk (hs : HS) (v : HV) (i : Nat) : Prop :=
  ∃ h : Nat, (i = 0 ∧ v = .slice h 0 0 (some 0) ∧ hs[h]? = some (some (HB.cells 1 [] false false []))) ∨
    (0 < i ∧ v = .slice h 0 i none ∧ ∃ olds, hs[h]? = some (some (HB.cells 1 (List.replicate i (.int .u8 48)) false true olds)))

theorem get_app {hs : HS} {h : Nat} {b : HB} (x : Option HB) (hb : hs[h]? = some (some b)) : (hs ++ [x])[h]? = some (some b) := by
  rw [List.getElem?_append_left (lt_of_get hb)]; exact hb

theorem row_step {hs : HS} {v : HV} {i : Nat} (hr : RowOk hs v i) (hi : i < 300) :
    ∃ v' hs', happend (hs ++ [some (HB.cells 1 [.int .u8 48] false false [])]) 1 1 v (.slice hs.length 0 1 (some 1)) = some (v', hs') ∧ RowOk hs' v' (i + 1) := by
  have ht : takeCells (hs ++ [some (HB.cells 1 [.int .u8 48] false false [])]) 1 (.slice hs.length 0 1 (some 1)) = some (1, [.int .u8 48]) := by
    simp [takeCells]
  obtain ⟨h, ⟨rfl, rfl, hb⟩ | ⟨h0, rfl, olds, hb⟩⟩ := hr
  · have hb' := get_app (some (HB.cells 1 [.int .u8 48] false false [])) hb
    have ht2 : takeCells (hs ++ [some (HB.cells 1 [.int .u8 48] false false [])]) 1 (.slice h 0 0 (some 0)) = some (0, []) := by
      simp [takeCells, hb']
    refine ⟨.slice (hs ++ [some (HB.cells 1 [.int .u8 48] false false [])]).length 0 1 none, (hs ++ [some (HB.cells 1 [.int .u8 48] false false [])]) ++ [some (HB.cells 1 [.int .u8 48] false true [])], ?_, ?_⟩
    · unfold happend
      rw [ht]
      simp only
      rw [if_neg (by omega), if_neg (by omega), ht2]
      simp only
      rw [if_pos ⟨by omega, by unfold maxLen; omega⟩]
      rfl
    · exact ⟨_, .inr ⟨by omega, rfl, [], by simp⟩⟩
  · have hb' := get_app (some (HB.cells 1 [.int .u8 48] false false [])) hb
    refine ⟨.slice (hs ++ [some (HB.cells 1 [.int .u8 48] false false [])]).length 0 (i + 1) none,
      (hs ++ [some (HB.cells 1 [.int .u8 48] false false [])]).set h (some (HB.cells 1 (List.replicate i (.int .u8 48)) true true [])) ++ [some (HB.cells 1 (List.replicate (i + 1) (.int .u8 48)) false true (h :: olds))], ?_, ?_⟩
    · unfold happend
      rw [ht]
      simp only
      rw [if_neg (by omega), hb']
      simp only
      rw [if_pos ⟨trivial, by simp, by omega, by unfold maxLen; omega⟩, if_pos (by simp)]
      simp [List.replicate_succ', List.take_of_length_le]
    · exact ⟨_, .inr ⟨by omega, rfl, h :: olds, by simp⟩⟩

theorem asBytes_rep : ∀ i : Nat, asBytes (List.replicate i (.int .u8 48)) = some (List.replicate i 48)
  | 0 => rfl
  | i + 1 => by
    rw [List.replicate_succ, List.replicate_succ]
    unfold asBytes
    simp [asBytes_rep i]

theorem row_str {hs : HS} {v : HV} {i : Nat} (hr : RowOk hs v i) : (match v with | .str _ => none | v => same hs (hb2s hs v)) = some (.str (List.replicate i 48), hs) := by
  obtain ⟨h, ⟨rfl, rfl, hb⟩ | ⟨h0, rfl, olds, hb⟩⟩ := hr
  · simp [same, hb2s, takeCells, hb, asBytes]
  · have h1 : takeCells hs 1 (.slice h 0 i none) = some (i, List.replicate i (.int .u8 48)) := by
      simp [takeCells, hb, List.take_of_length_le]
      try (intro e; exact ⟨e.symm, e⟩)
    simp [same, hb2s, h1, asBytes_rep]

theorem hrem300 {a : Nat} : hbin .rem none (.int .i64 a) (.int .i64 300) = some (.int .i64 ((a % 300 : Nat) : Int)) := by
  have h0 : hbin .rem none (.int .i64 a) (.int .i64 300) = some (.int .i64 ((a : Int).tmod 300)) := rfl
  have h1 : (a : Int).tmod 300 = ((a % 300 : Nat) : Int) := (Int.ofNat_tmod a 300).symm
  rw [h0, h1]
theorem haddZ {z : Int} (h1 : -9223372036854775808 ≤ z + 1) (h2 : z + 1 < 9223372036854775808) : hbin .add none (.int .i64 z) (.int .i64 1) = some (.int .i64 (z + 1)) := by
  have h0 : hbin .add none (.int .i64 z) (.int .i64 1) = some (.int .i64 (wr .i64 (z + 1))) := rfl
  rw [h0, wr64 h1 h2]
theorem hneg {z : Int} (h1 : -9223372036854775808 ≤ -z) (h2 : -z < 9223372036854775808) : un .neg (.int .i64 z) = some (.int .i64 (-z)) := by
  have h0 : un .neg (.int .i64 z) = some (.int .i64 (wr .i64 (0 - z))) := rfl
  rw [h0, Int.zero_sub, wr64 h1 h2]
theorem hsub1 {z : Int} (h1 : -9223372036854775808 ≤ z - 1) (h2 : z - 1 < 9223372036854775808) : hbin .sub none (.int .i64 z) (.int .i64 1) = some (.int .i64 (z - 1)) := by
  have h0 : hbin .sub none (.int .i64 z) (.int .i64 1) = some (.int .i64 (wr .i64 (z - 1))) := rfl
  rw [h0, wr64 h1 h2]
theorem row_new (hs : HS) : hbuildSlice hs 1 0 [] [] = some (.slice hs.length 0 0 (some 0), hs ++ [some (HB.cells 1 [] false false [])]) := rfl
theorem row_one (hs : HS) : hbuildSlice hs 1 1 [.int .u8 0] [(0, 1, .int .u8 48)] = some (.slice hs.length 0 1 (some 1), hs ++ [some (HB.cells 1 [.int .u8 48] false false [])]) := rfl
theorem ansPr_nat (nn : Nat) : ansPr (nn : Int) = Lib.decDigits nn := by
  rw [ansPr, if_neg (by omega)]; simp
theorem parseV (str : List UInt8) (m : Int) (hm : m < 9223372036854775808) {a : Int} {b : Bool} (h : ansV str m = .tup [.int .i64 a, .bool b]) (hs : HS) :
    HC Tryd.prog 11 [.str str, .int .i64 m] hs fun v hs' => v = .tup [.int .i64 a, .bool b] ∧ hs' = hs :=
  frame2 rfl (by rw [← h]; exact all11 str m hm)

def unseq : HCode → Nat → HCode
  | .seq _ b, n + 1 => unseq b n
  | c, _ => c
def rest9 : HCode := unseq P4.h9.body 5
def tail9 : HCode := unseq P4.h9.body 7
def base9 (nn : Nat) (most : Int) (zn : Nat) : List HV :=
  [.int .i64 nn, .int .i64 most, .int .i64 zn, .undef, .undef, .undef, .undef, .undef, .str (Lib.decDigits nn), .undef, .undef, .undef, .undef, .undef, .undef, .undef, .undef, .undef, .undef, .undef, .undef, .undef, .undef, .undef, .undef, .undef, .undef, .undef, .undef, .undef, .undef, .undef, .undef, .undef, .undef, .undef, .undef, .undef, .undef, .undef, .undef, .undef, .undef, .undef, .undef, .undef, .undef, .undef, .undef, .undef, .undef, .undef, .undef, .undef, .undef, .undef, .undef, .undef, .undef, .undef, .undef, .undef, .undef, .undef, .undef, .undef, .undef, .undef, .undef, .undef, .undef, .undef, .undef, .undef, .undef, .undef, .undef, .undef, .undef, .undef, .undef, .undef, .undef, .undef, .undef, .undef, .undef, .undef, .undef, .undef, .undef, .undef, .undef, .undef, .undef, .undef, .undef, .undef, .undef, .undef, .undef, .undef, .undef, .undef, .undef, .undef, .undef, .undef]
def loop9 (nn : Nat) (most : Int) (zn : Nat) (v : HV) (i : Nat) : List HV :=
  [.int .i64 nn, .int .i64 most, .int .i64 zn, .undef, .undef, .undef, .undef, .undef, .str (Lib.decDigits nn), v, .int .i64 i, .undef, .undef, .undef, .undef, .undef, .undef, .undef, .undef, .undef, .undef, .undef, .undef, .undef, .undef, .undef, .undef, .undef, .undef, .undef, .undef, .undef, .undef, .undef, .undef, .undef, .undef, .undef, .undef, .undef, .undef, .undef, .undef, .undef, .undef, .undef, .undef, .undef, .undef, .undef, .undef, .undef, .undef, .undef, .undef, .undef, .undef, .undef, .undef, .undef, .undef, .undef, .undef, .undef, .undef, .undef, .undef, .undef, .undef, .undef, .undef, .undef, .undef, .undef, .undef, .undef, .undef, .undef, .undef, .undef, .undef, .undef, .undef, .undef, .undef, .undef, .undef, .undef, .undef, .undef, .undef, .undef, .undef, .undef, .undef, .undef, .undef, .undef, .undef, .undef, .undef, .undef, .undef, .undef, .undef, .undef, .undef, .undef]
def I9 (nn : Nat) (most : Int) (zn : Nat) (k : Nat) (fr : List HV) (hs : HS) : Prop := ∃ (v : HV) (i : Nat), k + i = zn % 300 ∧ RowOk hs v i ∧ Less (loop9 nn most zn v i) fr
theorem tail_ok (nn : Nat) (most : Int) (hn : nn < 9223372036854775808) (hm : most < 9223372036854775808) (zn : Nat) (v : HV) (i : Nat) (hi : i < 300) (hs : HS) (hr : RowOk hs v i) (fr : List HV) (hL : Less (loop9 nn most zn v i) fr) :
    HW Tryd.prog tail9 fr hs fun e fr' hs' => e.ended = true ∧ ∃ u, hres P4.h9.res fr' hs' = some u ∧ u = .bool true := by
  have hlen : (List.replicate i (48 : UInt8)).length + (Lib.decDigits nn).length ≤ maxLen := by
    have := lenP 19 nn (by omega)
    unfold maxLen
    simp
    omega
  have hself : ansV (Lib.decDigits nn) nn = .tup [.int .i64 nn, .bool true] := ansV_le (k := 0) (Int.le_refl _)
  have hprev : ansV (Lib.decDigits nn) ((nn : Int) - 1) = .tup [.int .i64 0, .bool false] := ansV_gt (k := 0) (by omega)
  refine HW.less hL ?_
  unfold loop9
  by_cases hle : (nn : Int) ≤ most
  · have hmost : ansV (List.replicate i 48 ++ Lib.decDigits nn) most = .tup [.int .i64 nn, .bool true] := ansV_le hle
    show HW Tryd.prog (.seq _ _) _ _ _
    refine HW.seq (HW.region ?_)
    refine HL.op rfl ?_
    try simp only [killFr, List.foldl, put, frame0, P4.h9, List.length, List.replicate, Nat.sub, List.append, List.set, HX.ev, List.getElem?_cons_succ, List.getElem?_cons_zero, Option.getD_some, HAppend.hAppend, Append.append]
    refine HL.op (row_str hr) ?_
    try simp only [killFr, List.foldl, put, frame0, P4.h9, List.length, List.replicate, Nat.sub, List.append, List.set, HX.ev, List.getElem?_cons_succ, List.getElem?_cons_zero, Option.getD_some, HAppend.hAppend, Append.append]
    refine HL.op rfl ?_
    try simp only [killFr, List.foldl, put, frame0, P4.h9, List.length, List.replicate, Nat.sub, List.append, List.set, HX.ev, List.getElem?_cons_succ, List.getElem?_cons_zero, Option.getD_some, HAppend.hAppend, Append.append]
    refine HL.op (v := .str (List.replicate i 48 ++ Lib.decDigits nn)) (congrArg (same _) (happ hlen)) ?_
    try simp only [killFr, List.foldl, put, frame0, P4.h9, List.length, List.replicate, Nat.sub, List.append, List.set, HX.ev, List.getElem?_cons_succ, List.getElem?_cons_zero, Option.getD_some, HAppend.hAppend, Append.append]
    refine HL.op rfl ?_
    try simp only [killFr, List.foldl, put, frame0, P4.h9, List.length, List.replicate, Nat.sub, List.append, List.set, HX.ev, List.getElem?_cons_succ, List.getElem?_cons_zero, Option.getD_some, HAppend.hAppend, Append.append]
    refine HL.call (g := 11) (xs := [.str (List.replicate i 48 ++ Lib.decDigits nn), .int .i64 (most)]) rfl (HC.call ok11 (parseV _ _ (by omega) hmost _) ?_)
    rintro v2 hs2 ⟨rfl, rfl⟩
    try simp only [killFr, List.foldl, put, frame0, P4.h9, List.length, List.replicate, Nat.sub, List.append, List.set, HX.ev, List.getElem?_cons_succ, List.getElem?_cons_zero, Option.getD_some, HAppend.hAppend, Append.append]
    refine HL.op rfl ?_
    try simp only [killFr, List.foldl, put, frame0, P4.h9, List.length, List.replicate, Nat.sub, List.append, List.set, HX.ev, List.getElem?_cons_succ, List.getElem?_cons_zero, Option.getD_some, HAppend.hAppend, Append.append]
    refine HL.op (v := .int .i64 (nn)) rfl ?_
    try simp only [killFr, List.foldl, put, frame0, P4.h9, List.length, List.replicate, Nat.sub, List.append, List.set, HX.ev, List.getElem?_cons_succ, List.getElem?_cons_zero, Option.getD_some, HAppend.hAppend, Append.append]
    refine HL.op (v := .bool true) rfl ?_
    try simp only [killFr, List.foldl, put, frame0, P4.h9, List.length, List.replicate, Nat.sub, List.append, List.set, HX.ev, List.getElem?_cons_succ, List.getElem?_cons_zero, Option.getD_some, HAppend.hAppend, Append.append]
    refine HL.op rfl ?_
    try simp only [killFr, List.foldl, put, frame0, P4.h9, List.length, List.replicate, Nat.sub, List.append, List.set, HX.ev, List.getElem?_cons_succ, List.getElem?_cons_zero, Option.getD_some, HAppend.hAppend, Append.append]
    refine HL.op rfl (HL.nil ?_)
    try simp only [killFr, List.foldl, put, frame0, P4.h9, List.length, List.replicate, Nat.sub, List.append, List.set, HX.ev, List.getElem?_cons_succ, List.getElem?_cons_zero, Option.getD_some, HAppend.hAppend, Append.append]
    show HW Tryd.prog _ _ _ _
    refine HW.seq (HW.region ?_)
    refine HL.op rfl ?_
    try simp only [killFr, List.foldl, put, frame0, P4.h9, List.length, List.replicate, Nat.sub, List.append, List.set, HX.ev, List.getElem?_cons_succ, List.getElem?_cons_zero, Option.getD_some, HAppend.hAppend, Append.append]
    refine HL.op rfl ?_
    try simp only [killFr, List.foldl, put, frame0, P4.h9, List.length, List.replicate, Nat.sub, List.append, List.set, HX.ev, List.getElem?_cons_succ, List.getElem?_cons_zero, Option.getD_some, HAppend.hAppend, Append.append]
    refine HL.call (g := 11) (xs := [.str (Lib.decDigits nn), .int .i64 (nn)]) rfl (HC.call ok11 (parseV _ _ (by omega) hself _) ?_)
    rintro v2 hs2 ⟨rfl, rfl⟩
    try simp only [killFr, List.foldl, put, frame0, P4.h9, List.length, List.replicate, Nat.sub, List.append, List.set, HX.ev, List.getElem?_cons_succ, List.getElem?_cons_zero, Option.getD_some, HAppend.hAppend, Append.append]
    refine HL.op rfl ?_
    try simp only [killFr, List.foldl, put, frame0, P4.h9, List.length, List.replicate, Nat.sub, List.append, List.set, HX.ev, List.getElem?_cons_succ, List.getElem?_cons_zero, Option.getD_some, HAppend.hAppend, Append.append]
    refine HL.op (v := .int .i64 (nn)) rfl ?_
    try simp only [killFr, List.foldl, put, frame0, P4.h9, List.length, List.replicate, Nat.sub, List.append, List.set, HX.ev, List.getElem?_cons_succ, List.getElem?_cons_zero, Option.getD_some, HAppend.hAppend, Append.append]
    refine HL.op (v := .bool true) rfl ?_
    try simp only [killFr, List.foldl, put, frame0, P4.h9, List.length, List.replicate, Nat.sub, List.append, List.set, HX.ev, List.getElem?_cons_succ, List.getElem?_cons_zero, Option.getD_some, HAppend.hAppend, Append.append]
    refine HL.op rfl ?_
    try simp only [killFr, List.foldl, put, frame0, P4.h9, List.length, List.replicate, Nat.sub, List.append, List.set, HX.ev, List.getElem?_cons_succ, List.getElem?_cons_zero, Option.getD_some, HAppend.hAppend, Append.append]
    refine HL.op rfl (HL.nil ?_)
    try simp only [killFr, List.foldl, put, frame0, P4.h9, List.length, List.replicate, Nat.sub, List.append, List.set, HX.ev, List.getElem?_cons_succ, List.getElem?_cons_zero, Option.getD_some, HAppend.hAppend, Append.append]
    show HW Tryd.prog _ _ _ _
    refine HW.seq (HW.region ?_)
    refine HL.op rfl ?_
    try simp only [killFr, List.foldl, put, frame0, P4.h9, List.length, List.replicate, Nat.sub, List.append, List.set, HX.ev, List.getElem?_cons_succ, List.getElem?_cons_zero, Option.getD_some, HAppend.hAppend, Append.append]
    refine HL.op rfl ?_
    try simp only [killFr, List.foldl, put, frame0, P4.h9, List.length, List.replicate, Nat.sub, List.append, List.set, HX.ev, List.getElem?_cons_succ, List.getElem?_cons_zero, Option.getD_some, HAppend.hAppend, Append.append]
    refine HL.op (v := .int .i64 ((nn : Int) - 1)) (congrArg (same _) (hsub1 (by omega) (by omega))) ?_
    try simp only [killFr, List.foldl, put, frame0, P4.h9, List.length, List.replicate, Nat.sub, List.append, List.set, HX.ev, List.getElem?_cons_succ, List.getElem?_cons_zero, Option.getD_some, HAppend.hAppend, Append.append]
    refine HL.call (g := 11) (xs := [.str (Lib.decDigits nn), .int .i64 ((nn : Int) - 1)]) rfl (HC.call ok11 (parseV _ _ (by omega) hprev _) ?_)
    rintro v2 hs2 ⟨rfl, rfl⟩
    try simp only [killFr, List.foldl, put, frame0, P4.h9, List.length, List.replicate, Nat.sub, List.append, List.set, HX.ev, List.getElem?_cons_succ, List.getElem?_cons_zero, Option.getD_some, HAppend.hAppend, Append.append]
    refine HL.op rfl ?_
    try simp only [killFr, List.foldl, put, frame0, P4.h9, List.length, List.replicate, Nat.sub, List.append, List.set, HX.ev, List.getElem?_cons_succ, List.getElem?_cons_zero, Option.getD_some, HAppend.hAppend, Append.append]
    refine HL.op (v := .int .i64 (0)) rfl ?_
    try simp only [killFr, List.foldl, put, frame0, P4.h9, List.length, List.replicate, Nat.sub, List.append, List.set, HX.ev, List.getElem?_cons_succ, List.getElem?_cons_zero, Option.getD_some, HAppend.hAppend, Append.append]
    refine HL.op (v := .bool false) rfl ?_
    try simp only [killFr, List.foldl, put, frame0, P4.h9, List.length, List.replicate, Nat.sub, List.append, List.set, HX.ev, List.getElem?_cons_succ, List.getElem?_cons_zero, Option.getD_some, HAppend.hAppend, Append.append]
    refine HL.op rfl ?_
    try simp only [killFr, List.foldl, put, frame0, P4.h9, List.length, List.replicate, Nat.sub, List.append, List.set, HX.ev, List.getElem?_cons_succ, List.getElem?_cons_zero, Option.getD_some, HAppend.hAppend, Append.append]
    refine HL.op rfl (HL.nil ?_)
    try simp only [killFr, List.foldl, put, frame0, P4.h9, List.length, List.replicate, Nat.sub, List.append, List.set, HX.ev, List.getElem?_cons_succ, List.getElem?_cons_zero, Option.getD_some, HAppend.hAppend, Append.append]
    show HW Tryd.prog _ _ _ _
    refine HW.seq (HW.seq (HW.region ?_))
    refine HL.op rfl (HL.nil ?_)
    try simp only [killFr, List.foldl, put, frame0, P4.h9, List.length, List.replicate, Nat.sub, List.append, List.set, HX.ev, List.getElem?_cons_succ, List.getElem?_cons_zero, Option.getD_some, HAppend.hAppend, Append.append]
    show HW Tryd.prog _ _ _ _
    refine HW.cond (t := true) rfl (HW.seq (HW.region ?_))
    refine HL.op rfl ?_
    try simp only [killFr, List.foldl, put, frame0, P4.h9, List.length, List.replicate, Nat.sub, List.append, List.set, HX.ev, List.getElem?_cons_succ, List.getElem?_cons_zero, Option.getD_some, HAppend.hAppend, Append.append]
    refine HL.op rfl ?_
    try simp only [killFr, List.foldl, put, frame0, P4.h9, List.length, List.replicate, Nat.sub, List.append, List.set, HX.ev, List.getElem?_cons_succ, List.getElem?_cons_zero, Option.getD_some, HAppend.hAppend, Append.append]
    refine HL.op (v := .bool true) (congrArg (same _) (eqint _)) ?_
    try simp only [killFr, List.foldl, put, frame0, P4.h9, List.length, List.replicate, Nat.sub, List.append, List.set, HX.ev, List.getElem?_cons_succ, List.getElem?_cons_zero, Option.getD_some, HAppend.hAppend, Append.append]
    refine HL.op rfl ?_
    try simp only [killFr, List.foldl, put, frame0, P4.h9, List.length, List.replicate, Nat.sub, List.append, List.set, HX.ev, List.getElem?_cons_succ, List.getElem?_cons_zero, Option.getD_some, HAppend.hAppend, Append.append]
    refine HL.opIf rfl rfl ?_
    try simp only [killFr, List.foldl, put, frame0, P4.h9, List.length, List.replicate, Nat.sub, List.append, List.set, HX.ev, List.getElem?_cons_succ, List.getElem?_cons_zero, Option.getD_some, HAppend.hAppend, Append.append]
    refine HL.opIf rfl rfl ?_
    try simp only [killFr, List.foldl, put, frame0, P4.h9, List.length, List.replicate, Nat.sub, List.append, List.set, HX.ev, List.getElem?_cons_succ, List.getElem?_cons_zero, Option.getD_some, HAppend.hAppend, Append.append]
    refine HL.opIf (v := .bool true) rfl (congrArg (fun b => some (HV.bool b, _)) (decide_eq_true hle)) ?_
    try simp only [killFr, List.foldl, put, frame0, P4.h9, List.length, List.replicate, Nat.sub, List.append, List.set, HX.ev, List.getElem?_cons_succ, List.getElem?_cons_zero, Option.getD_some, HAppend.hAppend, Append.append]
    refine HL.op (pickT rfl rfl) ?_
    try simp only [killFr, List.foldl, put, frame0, P4.h9, List.length, List.replicate, Nat.sub, List.append, List.set, HX.ev, List.getElem?_cons_succ, List.getElem?_cons_zero, Option.getD_some, HAppend.hAppend, Append.append]
    refine HL.op rfl ?_
    try simp only [killFr, List.foldl, put, frame0, P4.h9, List.length, List.replicate, Nat.sub, List.append, List.set, HX.ev, List.getElem?_cons_succ, List.getElem?_cons_zero, Option.getD_some, HAppend.hAppend, Append.append]
    refine HL.opIf rfl rfl ?_
    try simp only [killFr, List.foldl, put, frame0, P4.h9, List.length, List.replicate, Nat.sub, List.append, List.set, HX.ev, List.getElem?_cons_succ, List.getElem?_cons_zero, Option.getD_some, HAppend.hAppend, Append.append]
    refine HL.opIf rfl rfl ?_
    try simp only [killFr, List.foldl, put, frame0, P4.h9, List.length, List.replicate, Nat.sub, List.append, List.set, HX.ev, List.getElem?_cons_succ, List.getElem?_cons_zero, Option.getD_some, HAppend.hAppend, Append.append]
    refine HL.opIf (v := .bool true) rfl (congrArg (same _) (eqint _)) ?_
    try simp only [killFr, List.foldl, put, frame0, P4.h9, List.length, List.replicate, Nat.sub, List.append, List.set, HX.ev, List.getElem?_cons_succ, List.getElem?_cons_zero, Option.getD_some, HAppend.hAppend, Append.append]
    refine HL.op (pickT rfl rfl) ?_
    try simp only [killFr, List.foldl, put, frame0, P4.h9, List.length, List.replicate, Nat.sub, List.append, List.set, HX.ev, List.getElem?_cons_succ, List.getElem?_cons_zero, Option.getD_some, HAppend.hAppend, Append.append]
    refine HL.op rfl ?_
    try simp only [killFr, List.foldl, put, frame0, P4.h9, List.length, List.replicate, Nat.sub, List.append, List.set, HX.ev, List.getElem?_cons_succ, List.getElem?_cons_zero, Option.getD_some, HAppend.hAppend, Append.append]
    refine HL.opIf rfl rfl ?_
    try simp only [killFr, List.foldl, put, frame0, P4.h9, List.length, List.replicate, Nat.sub, List.append, List.set, HX.ev, List.getElem?_cons_succ, List.getElem?_cons_zero, Option.getD_some, HAppend.hAppend, Append.append]
    refine HL.op (pickT rfl rfl) ?_
    try simp only [killFr, List.foldl, put, frame0, P4.h9, List.length, List.replicate, Nat.sub, List.append, List.set, HX.ev, List.getElem?_cons_succ, List.getElem?_cons_zero, Option.getD_some, HAppend.hAppend, Append.append]
    refine HL.op rfl ?_
    try simp only [killFr, List.foldl, put, frame0, P4.h9, List.length, List.replicate, Nat.sub, List.append, List.set, HX.ev, List.getElem?_cons_succ, List.getElem?_cons_zero, Option.getD_some, HAppend.hAppend, Append.append]
    refine HL.opIf rfl rfl ?_
    try simp only [killFr, List.foldl, put, frame0, P4.h9, List.length, List.replicate, Nat.sub, List.append, List.set, HX.ev, List.getElem?_cons_succ, List.getElem?_cons_zero, Option.getD_some, HAppend.hAppend, Append.append]
    refine HL.opIf (v := .bool true) rfl rfl ?_
    try simp only [killFr, List.foldl, put, frame0, P4.h9, List.length, List.replicate, Nat.sub, List.append, List.set, HX.ev, List.getElem?_cons_succ, List.getElem?_cons_zero, Option.getD_some, HAppend.hAppend, Append.append]
    refine HL.op (pickT rfl rfl) ?_
    try simp only [killFr, List.foldl, put, frame0, P4.h9, List.length, List.replicate, Nat.sub, List.append, List.set, HX.ev, List.getElem?_cons_succ, List.getElem?_cons_zero, Option.getD_some, HAppend.hAppend, Append.append]
    refine HL.op rfl (HL.nil (HW.ret ?_))
    try simp only [killFr, List.foldl, put, frame0, P4.h9, List.length, List.replicate, Nat.sub, List.append, List.set, HX.ev, List.getElem?_cons_succ, List.getElem?_cons_zero, Option.getD_some, HAppend.hAppend, Append.append]
    exact ⟨rfl, _, rfl, rfl⟩
  · have hmost : ansV (List.replicate i 48 ++ Lib.decDigits nn) most = .tup [.int .i64 0, .bool false] := ansV_gt hle
    show HW Tryd.prog (.seq _ _) _ _ _
    refine HW.seq (HW.region ?_)
    refine HL.op rfl ?_
    try simp only [killFr, List.foldl, put, frame0, P4.h9, List.length, List.replicate, Nat.sub, List.append, List.set, HX.ev, List.getElem?_cons_succ, List.getElem?_cons_zero, Option.getD_some, HAppend.hAppend, Append.append]
    refine HL.op (row_str hr) ?_
    try simp only [killFr, List.foldl, put, frame0, P4.h9, List.length, List.replicate, Nat.sub, List.append, List.set, HX.ev, List.getElem?_cons_succ, List.getElem?_cons_zero, Option.getD_some, HAppend.hAppend, Append.append]
    refine HL.op rfl ?_
    try simp only [killFr, List.foldl, put, frame0, P4.h9, List.length, List.replicate, Nat.sub, List.append, List.set, HX.ev, List.getElem?_cons_succ, List.getElem?_cons_zero, Option.getD_some, HAppend.hAppend, Append.append]
    refine HL.op (v := .str (List.replicate i 48 ++ Lib.decDigits nn)) (congrArg (same _) (happ hlen)) ?_
    try simp only [killFr, List.foldl, put, frame0, P4.h9, List.length, List.replicate, Nat.sub, List.append, List.set, HX.ev, List.getElem?_cons_succ, List.getElem?_cons_zero, Option.getD_some, HAppend.hAppend, Append.append]
    refine HL.op rfl ?_
    try simp only [killFr, List.foldl, put, frame0, P4.h9, List.length, List.replicate, Nat.sub, List.append, List.set, HX.ev, List.getElem?_cons_succ, List.getElem?_cons_zero, Option.getD_some, HAppend.hAppend, Append.append]
    refine HL.call (g := 11) (xs := [.str (List.replicate i 48 ++ Lib.decDigits nn), .int .i64 (most)]) rfl (HC.call ok11 (parseV _ _ (by omega) hmost _) ?_)
    rintro v2 hs2 ⟨rfl, rfl⟩
    try simp only [killFr, List.foldl, put, frame0, P4.h9, List.length, List.replicate, Nat.sub, List.append, List.set, HX.ev, List.getElem?_cons_succ, List.getElem?_cons_zero, Option.getD_some, HAppend.hAppend, Append.append]
    refine HL.op rfl ?_
    try simp only [killFr, List.foldl, put, frame0, P4.h9, List.length, List.replicate, Nat.sub, List.append, List.set, HX.ev, List.getElem?_cons_succ, List.getElem?_cons_zero, Option.getD_some, HAppend.hAppend, Append.append]
    refine HL.op (v := .int .i64 (0)) rfl ?_
    try simp only [killFr, List.foldl, put, frame0, P4.h9, List.length, List.replicate, Nat.sub, List.append, List.set, HX.ev, List.getElem?_cons_succ, List.getElem?_cons_zero, Option.getD_some, HAppend.hAppend, Append.append]
    refine HL.op (v := .bool false) rfl ?_
    try simp only [killFr, List.foldl, put, frame0, P4.h9, List.length, List.replicate, Nat.sub, List.append, List.set, HX.ev, List.getElem?_cons_succ, List.getElem?_cons_zero, Option.getD_some, HAppend.hAppend, Append.append]
    refine HL.op rfl ?_
    try simp only [killFr, List.foldl, put, frame0, P4.h9, List.length, List.replicate, Nat.sub, List.append, List.set, HX.ev, List.getElem?_cons_succ, List.getElem?_cons_zero, Option.getD_some, HAppend.hAppend, Append.append]
    refine HL.op rfl (HL.nil ?_)
    try simp only [killFr, List.foldl, put, frame0, P4.h9, List.length, List.replicate, Nat.sub, List.append, List.set, HX.ev, List.getElem?_cons_succ, List.getElem?_cons_zero, Option.getD_some, HAppend.hAppend, Append.append]
    show HW Tryd.prog _ _ _ _
    refine HW.seq (HW.region ?_)
    refine HL.op rfl ?_
    try simp only [killFr, List.foldl, put, frame0, P4.h9, List.length, List.replicate, Nat.sub, List.append, List.set, HX.ev, List.getElem?_cons_succ, List.getElem?_cons_zero, Option.getD_some, HAppend.hAppend, Append.append]
    refine HL.op rfl ?_
    try simp only [killFr, List.foldl, put, frame0, P4.h9, List.length, List.replicate, Nat.sub, List.append, List.set, HX.ev, List.getElem?_cons_succ, List.getElem?_cons_zero, Option.getD_some, HAppend.hAppend, Append.append]
    refine HL.call (g := 11) (xs := [.str (Lib.decDigits nn), .int .i64 (nn)]) rfl (HC.call ok11 (parseV _ _ (by omega) hself _) ?_)
    rintro v2 hs2 ⟨rfl, rfl⟩
    try simp only [killFr, List.foldl, put, frame0, P4.h9, List.length, List.replicate, Nat.sub, List.append, List.set, HX.ev, List.getElem?_cons_succ, List.getElem?_cons_zero, Option.getD_some, HAppend.hAppend, Append.append]
    refine HL.op rfl ?_
    try simp only [killFr, List.foldl, put, frame0, P4.h9, List.length, List.replicate, Nat.sub, List.append, List.set, HX.ev, List.getElem?_cons_succ, List.getElem?_cons_zero, Option.getD_some, HAppend.hAppend, Append.append]
    refine HL.op (v := .int .i64 (nn)) rfl ?_
    try simp only [killFr, List.foldl, put, frame0, P4.h9, List.length, List.replicate, Nat.sub, List.append, List.set, HX.ev, List.getElem?_cons_succ, List.getElem?_cons_zero, Option.getD_some, HAppend.hAppend, Append.append]
    refine HL.op (v := .bool true) rfl ?_
    try simp only [killFr, List.foldl, put, frame0, P4.h9, List.length, List.replicate, Nat.sub, List.append, List.set, HX.ev, List.getElem?_cons_succ, List.getElem?_cons_zero, Option.getD_some, HAppend.hAppend, Append.append]
    refine HL.op rfl ?_
    try simp only [killFr, List.foldl, put, frame0, P4.h9, List.length, List.replicate, Nat.sub, List.append, List.set, HX.ev, List.getElem?_cons_succ, List.getElem?_cons_zero, Option.getD_some, HAppend.hAppend, Append.append]
    refine HL.op rfl (HL.nil ?_)
    try simp only [killFr, List.foldl, put, frame0, P4.h9, List.length, List.replicate, Nat.sub, List.append, List.set, HX.ev, List.getElem?_cons_succ, List.getElem?_cons_zero, Option.getD_some, HAppend.hAppend, Append.append]
    show HW Tryd.prog _ _ _ _
    refine HW.seq (HW.region ?_)
    refine HL.op rfl ?_
    try simp only [killFr, List.foldl, put, frame0, P4.h9, List.length, List.replicate, Nat.sub, List.append, List.set, HX.ev, List.getElem?_cons_succ, List.getElem?_cons_zero, Option.getD_some, HAppend.hAppend, Append.append]
    refine HL.op rfl ?_
    try simp only [killFr, List.foldl, put, frame0, P4.h9, List.length, List.replicate, Nat.sub, List.append, List.set, HX.ev, List.getElem?_cons_succ, List.getElem?_cons_zero, Option.getD_some, HAppend.hAppend, Append.append]
    refine HL.op (v := .int .i64 ((nn : Int) - 1)) (congrArg (same _) (hsub1 (by omega) (by omega))) ?_
    try simp only [killFr, List.foldl, put, frame0, P4.h9, List.length, List.replicate, Nat.sub, List.append, List.set, HX.ev, List.getElem?_cons_succ, List.getElem?_cons_zero, Option.getD_some, HAppend.hAppend, Append.append]
    refine HL.call (g := 11) (xs := [.str (Lib.decDigits nn), .int .i64 ((nn : Int) - 1)]) rfl (HC.call ok11 (parseV _ _ (by omega) hprev _) ?_)
    rintro v2 hs2 ⟨rfl, rfl⟩
    try simp only [killFr, List.foldl, put, frame0, P4.h9, List.length, List.replicate, Nat.sub, List.append, List.set, HX.ev, List.getElem?_cons_succ, List.getElem?_cons_zero, Option.getD_some, HAppend.hAppend, Append.append]
    refine HL.op rfl ?_
    try simp only [killFr, List.foldl, put, frame0, P4.h9, List.length, List.replicate, Nat.sub, List.append, List.set, HX.ev, List.getElem?_cons_succ, List.getElem?_cons_zero, Option.getD_some, HAppend.hAppend, Append.append]
    refine HL.op (v := .int .i64 (0)) rfl ?_
    try simp only [killFr, List.foldl, put, frame0, P4.h9, List.length, List.replicate, Nat.sub, List.append, List.set, HX.ev, List.getElem?_cons_succ, List.getElem?_cons_zero, Option.getD_some, HAppend.hAppend, Append.append]
    refine HL.op (v := .bool false) rfl ?_
    try simp only [killFr, List.foldl, put, frame0, P4.h9, List.length, List.replicate, Nat.sub, List.append, List.set, HX.ev, List.getElem?_cons_succ, List.getElem?_cons_zero, Option.getD_some, HAppend.hAppend, Append.append]
    refine HL.op rfl ?_
    try simp only [killFr, List.foldl, put, frame0, P4.h9, List.length, List.replicate, Nat.sub, List.append, List.set, HX.ev, List.getElem?_cons_succ, List.getElem?_cons_zero, Option.getD_some, HAppend.hAppend, Append.append]
    refine HL.op rfl (HL.nil ?_)
    try simp only [killFr, List.foldl, put, frame0, P4.h9, List.length, List.replicate, Nat.sub, List.append, List.set, HX.ev, List.getElem?_cons_succ, List.getElem?_cons_zero, Option.getD_some, HAppend.hAppend, Append.append]
    show HW Tryd.prog _ _ _ _
    refine HW.seq (HW.seq (HW.region ?_))
    refine HL.op rfl (HL.nil ?_)
    try simp only [killFr, List.foldl, put, frame0, P4.h9, List.length, List.replicate, Nat.sub, List.append, List.set, HX.ev, List.getElem?_cons_succ, List.getElem?_cons_zero, Option.getD_some, HAppend.hAppend, Append.append]
    show HW Tryd.prog _ _ _ _
    refine HW.cond (t := false) rfl (HW.skip ?_)
    show HW Tryd.prog _ _ _ _
    refine HW.seq (HW.region ?_)
    refine HL.op rfl ?_
    try simp only [killFr, List.foldl, put, frame0, P4.h9, List.length, List.replicate, Nat.sub, List.append, List.set, HX.ev, List.getElem?_cons_succ, List.getElem?_cons_zero, Option.getD_some, HAppend.hAppend, Append.append]
    refine HL.op (v := .bool true) rfl ?_
    try simp only [killFr, List.foldl, put, frame0, P4.h9, List.length, List.replicate, Nat.sub, List.append, List.set, HX.ev, List.getElem?_cons_succ, List.getElem?_cons_zero, Option.getD_some, HAppend.hAppend, Append.append]
    refine HL.op rfl ?_
    try simp only [killFr, List.foldl, put, frame0, P4.h9, List.length, List.replicate, Nat.sub, List.append, List.set, HX.ev, List.getElem?_cons_succ, List.getElem?_cons_zero, Option.getD_some, HAppend.hAppend, Append.append]
    refine HL.opIf rfl rfl ?_
    try simp only [killFr, List.foldl, put, frame0, P4.h9, List.length, List.replicate, Nat.sub, List.append, List.set, HX.ev, List.getElem?_cons_succ, List.getElem?_cons_zero, Option.getD_some, HAppend.hAppend, Append.append]
    refine HL.opIf rfl rfl ?_
    try simp only [killFr, List.foldl, put, frame0, P4.h9, List.length, List.replicate, Nat.sub, List.append, List.set, HX.ev, List.getElem?_cons_succ, List.getElem?_cons_zero, Option.getD_some, HAppend.hAppend, Append.append]
    refine HL.opIf (v := .bool true) rfl (congrArg (fun b => some (HV.bool b, _)) (decide_eq_true (by omega))) ?_
    try simp only [killFr, List.foldl, put, frame0, P4.h9, List.length, List.replicate, Nat.sub, List.append, List.set, HX.ev, List.getElem?_cons_succ, List.getElem?_cons_zero, Option.getD_some, HAppend.hAppend, Append.append]
    refine HL.op (pickT rfl rfl) ?_
    try simp only [killFr, List.foldl, put, frame0, P4.h9, List.length, List.replicate, Nat.sub, List.append, List.set, HX.ev, List.getElem?_cons_succ, List.getElem?_cons_zero, Option.getD_some, HAppend.hAppend, Append.append]
    refine HL.op rfl ?_
    try simp only [killFr, List.foldl, put, frame0, P4.h9, List.length, List.replicate, Nat.sub, List.append, List.set, HX.ev, List.getElem?_cons_succ, List.getElem?_cons_zero, Option.getD_some, HAppend.hAppend, Append.append]
    refine HL.opIf rfl rfl ?_
    try simp only [killFr, List.foldl, put, frame0, P4.h9, List.length, List.replicate, Nat.sub, List.append, List.set, HX.ev, List.getElem?_cons_succ, List.getElem?_cons_zero, Option.getD_some, HAppend.hAppend, Append.append]
    refine HL.opIf rfl rfl ?_
    try simp only [killFr, List.foldl, put, frame0, P4.h9, List.length, List.replicate, Nat.sub, List.append, List.set, HX.ev, List.getElem?_cons_succ, List.getElem?_cons_zero, Option.getD_some, HAppend.hAppend, Append.append]
    refine HL.opIf (v := .bool true) rfl (congrArg (same _) (eqint _)) ?_
    try simp only [killFr, List.foldl, put, frame0, P4.h9, List.length, List.replicate, Nat.sub, List.append, List.set, HX.ev, List.getElem?_cons_succ, List.getElem?_cons_zero, Option.getD_some, HAppend.hAppend, Append.append]
    refine HL.op (pickT rfl rfl) ?_
    try simp only [killFr, List.foldl, put, frame0, P4.h9, List.length, List.replicate, Nat.sub, List.append, List.set, HX.ev, List.getElem?_cons_succ, List.getElem?_cons_zero, Option.getD_some, HAppend.hAppend, Append.append]
    refine HL.op rfl ?_
    try simp only [killFr, List.foldl, put, frame0, P4.h9, List.length, List.replicate, Nat.sub, List.append, List.set, HX.ev, List.getElem?_cons_succ, List.getElem?_cons_zero, Option.getD_some, HAppend.hAppend, Append.append]
    refine HL.opIf rfl rfl ?_
    try simp only [killFr, List.foldl, put, frame0, P4.h9, List.length, List.replicate, Nat.sub, List.append, List.set, HX.ev, List.getElem?_cons_succ, List.getElem?_cons_zero, Option.getD_some, HAppend.hAppend, Append.append]
    refine HL.op (pickT rfl rfl) ?_
    try simp only [killFr, List.foldl, put, frame0, P4.h9, List.length, List.replicate, Nat.sub, List.append, List.set, HX.ev, List.getElem?_cons_succ, List.getElem?_cons_zero, Option.getD_some, HAppend.hAppend, Append.append]
    refine HL.op rfl ?_
    try simp only [killFr, List.foldl, put, frame0, P4.h9, List.length, List.replicate, Nat.sub, List.append, List.set, HX.ev, List.getElem?_cons_succ, List.getElem?_cons_zero, Option.getD_some, HAppend.hAppend, Append.append]
    refine HL.opIf rfl rfl ?_
    try simp only [killFr, List.foldl, put, frame0, P4.h9, List.length, List.replicate, Nat.sub, List.append, List.set, HX.ev, List.getElem?_cons_succ, List.getElem?_cons_zero, Option.getD_some, HAppend.hAppend, Append.append]
    refine HL.opIf (v := .bool true) rfl rfl ?_
    try simp only [killFr, List.foldl, put, frame0, P4.h9, List.length, List.replicate, Nat.sub, List.append, List.set, HX.ev, List.getElem?_cons_succ, List.getElem?_cons_zero, Option.getD_some, HAppend.hAppend, Append.append]
    refine HL.op (pickT rfl rfl) ?_
    try simp only [killFr, List.foldl, put, frame0, P4.h9, List.length, List.replicate, Nat.sub, List.append, List.set, HX.ev, List.getElem?_cons_succ, List.getElem?_cons_zero, Option.getD_some, HAppend.hAppend, Append.append]
    refine HL.op rfl (HL.nil (HW.ret ?_))
    try simp only [killFr, List.foldl, put, frame0, P4.h9, List.length, List.replicate, Nat.sub, List.append, List.set, HX.ev, List.getElem?_cons_succ, List.getElem?_cons_zero, Option.getD_some, HAppend.hAppend, Append.append]
    exact ⟨rfl, _, rfl, rfl⟩

theorem rest_ok (nn : Nat) (most : Int) (hn : nn < 9223372036854775808) (hm : most < 9223372036854775808) (zn : Nat) (hs : HS) (fr : List HV) (hL : Less (base9 nn most zn) fr) :
    HW Tryd.prog rest9 fr hs fun e fr' hs' => e.ended = true ∧ ∃ u, hres P4.h9.res fr' hs' = some u ∧ u = .bool true := by
  refine HW.less hL ?_
  unfold base9
  show HW Tryd.prog (.seq _ _) _ _ _
  refine HW.seq (HW.region ?_)
  refine HL.op (row_new hs) ?_
  try simp only [killFr, List.foldl, put, frame0, P4.h9, List.length, List.replicate, Nat.sub, List.append, List.set, HX.ev, List.getElem?_cons_succ, List.getElem?_cons_zero, Option.getD_some, HAppend.hAppend, Append.append]
  refine HL.op rfl (HL.nil ?_)
  try simp only [killFr, List.foldl, put, frame0, P4.h9, List.length, List.replicate, Nat.sub, List.append, List.set, HX.ev, List.getElem?_cons_succ, List.getElem?_cons_zero, Option.getD_some, HAppend.hAppend, Append.append]
  show HW Tryd.prog _ _ _ _
  refine HW.seq (HW.seq (HW.region ?_))
  refine HL.op rfl (HL.nil ?_)
  try simp only [killFr, List.foldl, put, frame0, P4.h9, List.length, List.replicate, Nat.sub, List.append, List.set, HX.ev, List.getElem?_cons_succ, List.getElem?_cons_zero, Option.getD_some, HAppend.hAppend, Append.append]
  show HW Tryd.prog _ _ _ _
  refine HW.block (HW.loop (I9 nn most zn) (zn % 300) ⟨.slice hs.length 0 0 (some 0), 0, by omega, ⟨hs.length, .inl ⟨rfl, rfl, by simp⟩⟩, ?_⟩ ?_)
  · unfold loop9
    repeat first | exact Less.nil | refine Less.undef _ ?_ | refine Less.keep _ ?_
  rintro k fr2 hs2 ⟨v, i, hk, hr, hL2⟩
  refine HW.less hL2 ?_
  unfold loop9
  refine HW.seq (HW.seq (HW.region ?_))
  refine HL.op rfl ?_
  try simp only [killFr, List.foldl, put, frame0, P4.h9, List.length, List.replicate, Nat.sub, List.append, List.set, HX.ev, List.getElem?_cons_succ, List.getElem?_cons_zero, Option.getD_some, HAppend.hAppend, Append.append]
  refine HL.op rfl ?_
  try simp only [killFr, List.foldl, put, frame0, P4.h9, List.length, List.replicate, Nat.sub, List.append, List.set, HX.ev, List.getElem?_cons_succ, List.getElem?_cons_zero, Option.getD_some, HAppend.hAppend, Append.append]
  refine HL.op (v := .int .i64 ((zn % 300 : Nat) : Int)) (congrArg (same _) hrem300) ?_
  try simp only [killFr, List.foldl, put, frame0, P4.h9, List.length, List.replicate, Nat.sub, List.append, List.set, HX.ev, List.getElem?_cons_succ, List.getElem?_cons_zero, Option.getD_some, HAppend.hAppend, Append.append]
  refine HL.op (v := .bool (decide ((i : Int) < ((zn % 300 : Nat) : Int)))) rfl (HL.nil ?_)
  try simp only [killFr, List.foldl, put, frame0, P4.h9, List.length, List.replicate, Nat.sub, List.append, List.set, HX.ev, List.getElem?_cons_succ, List.getElem?_cons_zero, Option.getD_some, HAppend.hAppend, Append.append]
  show HW Tryd.prog _ _ _ _
  cases hd : decide ((i : Int) < ((zn % 300 : Nat) : Int)) with
  | false =>
    have hd := of_decide_eq_false hd
    refine HW.cond (t := false) rfl (HW.exit ?_)
    simp only [HThen, HBlock, if_true]
    exact tail_ok nn most hn hm zn v i (by omega) hs2 hr _ (by
      unfold loop9
      repeat first | exact Less.nil | refine Less.undef _ ?_ | refine Less.keep _ ?_)
  | true =>
    have hd := of_decide_eq_true hd
    obtain ⟨v', hs', happ', hr'⟩ := row_step hr (by omega)
    refine HW.cond (t := true) rfl (HW.skip ?_)
    show HW Tryd.prog _ _ _ _
    refine HW.seq (HW.block (HW.region ?_))
    refine HL.op rfl ?_
    try simp only [killFr, List.foldl, put, frame0, P4.h9, List.length, List.replicate, Nat.sub, List.append, List.set, HX.ev, List.getElem?_cons_succ, List.getElem?_cons_zero, Option.getD_some, HAppend.hAppend, Append.append]
    refine HL.op (row_one hs2) ?_
    try simp only [killFr, List.foldl, put, frame0, P4.h9, List.length, List.replicate, Nat.sub, List.append, List.set, HX.ev, List.getElem?_cons_succ, List.getElem?_cons_zero, Option.getD_some, HAppend.hAppend, Append.append]
    refine HL.op happ' ?_
    try simp only [killFr, List.foldl, put, frame0, P4.h9, List.length, List.replicate, Nat.sub, List.append, List.set, HX.ev, List.getElem?_cons_succ, List.getElem?_cons_zero, Option.getD_some, HAppend.hAppend, Append.append]
    refine HL.op rfl (HL.nil ?_)
    try simp only [killFr, List.foldl, put, frame0, P4.h9, List.length, List.replicate, Nat.sub, List.append, List.set, HX.ev, List.getElem?_cons_succ, List.getElem?_cons_zero, Option.getD_some, HAppend.hAppend, Append.append]
    show HW Tryd.prog _ _ _ _
    refine HW.region ?_
    refine HL.op rfl ?_
    try simp only [killFr, List.foldl, put, frame0, P4.h9, List.length, List.replicate, Nat.sub, List.append, List.set, HX.ev, List.getElem?_cons_succ, List.getElem?_cons_zero, Option.getD_some, HAppend.hAppend, Append.append]
    refine HL.op (v := .int .i64 ((i + 1 : Nat) : Int)) (congrArg (same _) (hadd (b := 1) (by omega))) ?_
    try simp only [killFr, List.foldl, put, frame0, P4.h9, List.length, List.replicate, Nat.sub, List.append, List.set, HX.ev, List.getElem?_cons_succ, List.getElem?_cons_zero, Option.getD_some, HAppend.hAppend, Append.append]
    refine HL.op rfl (HL.nil ?_)
    try simp only [killFr, List.foldl, put, frame0, P4.h9, List.length, List.replicate, Nat.sub, List.append, List.set, HX.ev, List.getElem?_cons_succ, List.getElem?_cons_zero, Option.getD_some, HAppend.hAppend, Append.append]
    refine ⟨k - 1, by omega, v', i + 1, by omega, hr', ?_⟩
    unfold loop9
    repeat first | exact Less.nil | refine Less.undef _ ?_ | refine Less.keep _ ?_

theorem law9_neg (n most zeros : Int) (h0 : -9223372036854775808 ≤ n) (h1 : n ≤ 9223372036854775807) (hn : n < 0) : HC Tryd.prog 9 [.int .i64 n, .int .i64 most, .int .i64 zeros] hs1 fun v _ => v = .bool true := by
  refine HC.body Tryd.func9 P4.c9 ?_
  refine HW.seq (HW.region (HL.op rfl (HL.nil ?_)))
  try simp only [killFr, List.foldl, put, frame0, P4.h9, List.length, List.replicate, Nat.sub, List.append, List.set, HX.ev, List.getElem?_cons_succ, List.getElem?_cons_zero, Option.getD_some, HAppend.hAppend, Append.append]
  refine HW.seq (HW.region ?_)
  refine HL.call (g := 10) (xs := []) rfl (HC.call ok10 shown10' ?_)
  rintro v hs' ⟨rfl, rfl⟩
  try simp only [killFr, List.foldl, put, frame0, P4.h9, List.length, List.replicate, Nat.sub, List.append, List.set, HX.ev, List.getElem?_cons_succ, List.getElem?_cons_zero, Option.getD_some, HAppend.hAppend, Append.append]
  refine HL.op rfl (HL.nil ?_)
  try simp only [killFr, List.foldl, put, frame0, P4.h9, List.length, List.replicate, Nat.sub, List.append, List.set, HX.ev, List.getElem?_cons_succ, List.getElem?_cons_zero, Option.getD_some, HAppend.hAppend, Append.append]
  refine HW.seq (HW.region ?_)
  refine HL.op rfl ?_
  try simp only [killFr, List.foldl, put, frame0, P4.h9, List.length, List.replicate, Nat.sub, List.append, List.set, HX.ev, List.getElem?_cons_succ, List.getElem?_cons_zero, Option.getD_some, HAppend.hAppend, Append.append]
  refine HL.call (g := 13) (xs := [.int .i64 n]) rfl (HC.call ok13 (print13 n h0 h1) ?_)
  rintro v hs2 ⟨rfl, rfl⟩
  rw [ansPr_neg hn]
  try simp only [killFr, List.foldl, put, frame0, P4.h9, List.length, List.replicate, Nat.sub, List.append, List.set, HX.ev, List.getElem?_cons_succ, List.getElem?_cons_zero, Option.getD_some, HAppend.hAppend, Append.append]
  refine HL.op rfl (HL.nil ?_)
  try simp only [killFr, List.foldl, put, frame0, P4.h9, List.length, List.replicate, Nat.sub, List.append, List.set, HX.ev, List.getElem?_cons_succ, List.getElem?_cons_zero, Option.getD_some, HAppend.hAppend, Append.append]
  refine HW.seq (HW.seq (HW.region ?_))
  refine HL.op rfl ?_
  try simp only [killFr, List.foldl, put, frame0, P4.h9, List.length, List.replicate, Nat.sub, List.append, List.set, HX.ev, List.getElem?_cons_succ, List.getElem?_cons_zero, Option.getD_some, HAppend.hAppend, Append.append]
  refine HL.op (v := .bool false) rfl ?_
  try simp only [killFr, List.foldl, put, frame0, P4.h9, List.length, List.replicate, Nat.sub, List.append, List.set, HX.ev, List.getElem?_cons_succ, List.getElem?_cons_zero, Option.getD_some, HAppend.hAppend, Append.append]
  refine HL.op rfl ?_
  try simp only [killFr, List.foldl, put, frame0, P4.h9, List.length, List.replicate, Nat.sub, List.append, List.set, HX.ev, List.getElem?_cons_succ, List.getElem?_cons_zero, Option.getD_some, HAppend.hAppend, Append.append]
  refine HL.opIf rfl rfl ?_
  try simp only [killFr, List.foldl, put, frame0, P4.h9, List.length, List.replicate, Nat.sub, List.append, List.set, HX.ev, List.getElem?_cons_succ, List.getElem?_cons_zero, Option.getD_some, HAppend.hAppend, Append.append]
  refine HL.opIf (v := .bool true) rfl (congrArg (fun b => some (HV.bool b, _)) (decide_eq_true hn)) ?_
  try simp only [killFr, List.foldl, put, frame0, P4.h9, List.length, List.replicate, Nat.sub, List.append, List.set, HX.ev, List.getElem?_cons_succ, List.getElem?_cons_zero, Option.getD_some, HAppend.hAppend, Append.append]
  refine HL.op (pickF rfl rfl) (HL.nil ?_)
  try simp only [killFr, List.foldl, put, frame0, P4.h9, List.length, List.replicate, Nat.sub, List.append, List.set, HX.ev, List.getElem?_cons_succ, List.getElem?_cons_zero, Option.getD_some, HAppend.hAppend, Append.append]
  show HW Tryd.prog _ _ _ _
  refine HW.cond (t := true) rfl (HW.seq (HW.region ?_))
  refine HL.op rfl ?_
  try simp only [killFr, List.foldl, put, frame0, P4.h9, List.length, List.replicate, Nat.sub, List.append, List.set, HX.ev, List.getElem?_cons_succ, List.getElem?_cons_zero, Option.getD_some, HAppend.hAppend, Append.append]
  refine HL.op rfl ?_
  try simp only [killFr, List.foldl, put, frame0, P4.h9, List.length, List.replicate, Nat.sub, List.append, List.set, HX.ev, List.getElem?_cons_succ, List.getElem?_cons_zero, Option.getD_some, HAppend.hAppend, Append.append]
  refine HL.opIf rfl rfl ?_
  try simp only [killFr, List.foldl, put, frame0, P4.h9, List.length, List.replicate, Nat.sub, List.append, List.set, HX.ev, List.getElem?_cons_succ, List.getElem?_cons_zero, Option.getD_some, HAppend.hAppend, Append.append]
  refine HL.opIf (v := .bool true) rfl rfl ?_
  try simp only [killFr, List.foldl, put, frame0, P4.h9, List.length, List.replicate, Nat.sub, List.append, List.set, HX.ev, List.getElem?_cons_succ, List.getElem?_cons_zero, Option.getD_some, HAppend.hAppend, Append.append]
  refine HL.op (pickT rfl rfl) ?_
  try simp only [killFr, List.foldl, put, frame0, P4.h9, List.length, List.replicate, Nat.sub, List.append, List.set, HX.ev, List.getElem?_cons_succ, List.getElem?_cons_zero, Option.getD_some, HAppend.hAppend, Append.append]
  refine HL.op rfl (HL.nil (HW.ret ?_))
  try simp only [killFr, List.foldl, put, frame0, P4.h9, List.length, List.replicate, Nat.sub, List.append, List.set, HX.ev, List.getElem?_cons_succ, List.getElem?_cons_zero, Option.getD_some, HAppend.hAppend, Append.append]
  exact ⟨rfl, _, rfl, rfl⟩

theorem law9_pos (nn : Nat) (most zeros : Int) (h1 : nn < 9223372036854775808) (hm : most < 9223372036854775808) (hz0 : -9223372036854775808 ≤ zeros) (hz1 : zeros < 9223372036854775808) : HC Tryd.prog 9 [.int .i64 nn, .int .i64 most, .int .i64 zeros] hs1 fun v _ => v = .bool true := by
  refine HC.body Tryd.func9 P4.c9 ?_
  refine HW.seq (HW.region (HL.op rfl (HL.nil ?_)))
  try simp only [killFr, List.foldl, put, frame0, P4.h9, List.length, List.replicate, Nat.sub, List.append, List.set, HX.ev, List.getElem?_cons_succ, List.getElem?_cons_zero, Option.getD_some, HAppend.hAppend, Append.append]
  refine HW.seq (HW.region ?_)
  refine HL.call (g := 10) (xs := []) rfl (HC.call ok10 shown10' ?_)
  rintro v hs' ⟨rfl, rfl⟩
  try simp only [killFr, List.foldl, put, frame0, P4.h9, List.length, List.replicate, Nat.sub, List.append, List.set, HX.ev, List.getElem?_cons_succ, List.getElem?_cons_zero, Option.getD_some, HAppend.hAppend, Append.append]
  refine HL.op rfl (HL.nil ?_)
  try simp only [killFr, List.foldl, put, frame0, P4.h9, List.length, List.replicate, Nat.sub, List.append, List.set, HX.ev, List.getElem?_cons_succ, List.getElem?_cons_zero, Option.getD_some, HAppend.hAppend, Append.append]
  refine HW.seq (HW.region ?_)
  refine HL.op rfl ?_
  try simp only [killFr, List.foldl, put, frame0, P4.h9, List.length, List.replicate, Nat.sub, List.append, List.set, HX.ev, List.getElem?_cons_succ, List.getElem?_cons_zero, Option.getD_some, HAppend.hAppend, Append.append]
  refine HL.call (g := 13) (xs := [.int .i64 nn]) rfl (HC.call ok13 (print13 nn (by omega) (by omega)) ?_)
  rintro v hs2 ⟨rfl, rfl⟩
  rw [ansPr_nat]
  try simp only [killFr, List.foldl, put, frame0, P4.h9, List.length, List.replicate, Nat.sub, List.append, List.set, HX.ev, List.getElem?_cons_succ, List.getElem?_cons_zero, Option.getD_some, HAppend.hAppend, Append.append]
  refine HL.op rfl (HL.nil ?_)
  try simp only [killFr, List.foldl, put, frame0, P4.h9, List.length, List.replicate, Nat.sub, List.append, List.set, HX.ev, List.getElem?_cons_succ, List.getElem?_cons_zero, Option.getD_some, HAppend.hAppend, Append.append]
  refine HW.seq (HW.seq (HW.region ?_))
  refine HL.op rfl ?_
  try simp only [killFr, List.foldl, put, frame0, P4.h9, List.length, List.replicate, Nat.sub, List.append, List.set, HX.ev, List.getElem?_cons_succ, List.getElem?_cons_zero, Option.getD_some, HAppend.hAppend, Append.append]
  refine HL.op (v := .bool false) rfl ?_
  try simp only [killFr, List.foldl, put, frame0, P4.h9, List.length, List.replicate, Nat.sub, List.append, List.set, HX.ev, List.getElem?_cons_succ, List.getElem?_cons_zero, Option.getD_some, HAppend.hAppend, Append.append]
  refine HL.op rfl ?_
  try simp only [killFr, List.foldl, put, frame0, P4.h9, List.length, List.replicate, Nat.sub, List.append, List.set, HX.ev, List.getElem?_cons_succ, List.getElem?_cons_zero, Option.getD_some, HAppend.hAppend, Append.append]
  refine HL.opIf rfl rfl ?_
  try simp only [killFr, List.foldl, put, frame0, P4.h9, List.length, List.replicate, Nat.sub, List.append, List.set, HX.ev, List.getElem?_cons_succ, List.getElem?_cons_zero, Option.getD_some, HAppend.hAppend, Append.append]
  refine HL.opIf (v := .bool false) rfl (congrArg (fun b => some (HV.bool b, _)) (decide_eq_false (by omega))) ?_
  try simp only [killFr, List.foldl, put, frame0, P4.h9, List.length, List.replicate, Nat.sub, List.append, List.set, HX.ev, List.getElem?_cons_succ, List.getElem?_cons_zero, Option.getD_some, HAppend.hAppend, Append.append]
  refine HL.op (pickF rfl rfl) (HL.nil ?_)
  try simp only [killFr, List.foldl, put, frame0, P4.h9, List.length, List.replicate, Nat.sub, List.append, List.set, HX.ev, List.getElem?_cons_succ, List.getElem?_cons_zero, Option.getD_some, HAppend.hAppend, Append.append]
  show HW Tryd.prog _ _ _ _
  refine HW.cond (t := false) rfl (HW.skip ?_)
  show HW Tryd.prog _ _ _ _
  refine HW.seq (HW.seq (HW.region ?_))
  refine HL.op rfl ?_
  try simp only [killFr, List.foldl, put, frame0, P4.h9, List.length, List.replicate, Nat.sub, List.append, List.set, HX.ev, List.getElem?_cons_succ, List.getElem?_cons_zero, Option.getD_some, HAppend.hAppend, Append.append]
  refine HL.op (v := .bool (decide (zeros < 0))) rfl (HL.nil ?_)
  try simp only [killFr, List.foldl, put, frame0, P4.h9, List.length, List.replicate, Nat.sub, List.append, List.set, HX.ev, List.getElem?_cons_succ, List.getElem?_cons_zero, Option.getD_some, HAppend.hAppend, Append.append]
  show HW Tryd.prog _ _ _ _
  cases hz : decide (zeros < 0) with
  | true =>
    have hz := of_decide_eq_true hz
    obtain ⟨zn, hzn⟩ : ∃ zn : Nat, -(zeros + 1) = zn := ⟨(-(zeros + 1)).toNat, by omega⟩
    refine HW.cond (t := true) rfl (HW.region ?_)
    refine HL.op rfl ?_
    try simp only [killFr, List.foldl, put, frame0, P4.h9, List.length, List.replicate, Nat.sub, List.append, List.set, HX.ev, List.getElem?_cons_succ, List.getElem?_cons_zero, Option.getD_some, HAppend.hAppend, Append.append]
    refine HL.op (v := .int .i64 (zeros + 1)) (congrArg (same _) (haddZ (by omega) (by omega))) ?_
    try simp only [killFr, List.foldl, put, frame0, P4.h9, List.length, List.replicate, Nat.sub, List.append, List.set, HX.ev, List.getElem?_cons_succ, List.getElem?_cons_zero, Option.getD_some, HAppend.hAppend, Append.append]
    refine HL.op (v := .int .i64 (-(zeros + 1))) (congrArg (same _) (hneg (by omega) (by omega))) ?_
    try simp only [killFr, List.foldl, put, frame0, P4.h9, List.length, List.replicate, Nat.sub, List.append, List.set, HX.ev, List.getElem?_cons_succ, List.getElem?_cons_zero, Option.getD_some, HAppend.hAppend, Append.append]
    refine HL.op rfl (HL.nil ?_)
    try simp only [killFr, List.foldl, put, frame0, P4.h9, List.length, List.replicate, Nat.sub, List.append, List.set, HX.ev, List.getElem?_cons_succ, List.getElem?_cons_zero, Option.getD_some, HAppend.hAppend, Append.append]
    rw [hzn]
    exact rest_ok nn most h1 hm zn hs1 _ (by
      unfold base9
      repeat first | exact Less.nil | refine Less.undef _ ?_ | refine Less.keep _ ?_)
  | false =>
    have hz := of_decide_eq_false hz
    obtain ⟨zn, rfl⟩ : ∃ zn : Nat, zeros = zn := ⟨zeros.toNat, by omega⟩
    refine HW.cond (t := false) rfl (HW.skip ?_)
    exact rest_ok nn most h1 hm zn hs1 _ (by
      unfold base9
      repeat first | exact Less.nil | refine Less.undef _ ?_ | refine Less.keep _ ?_)

theorem law9 (n most zeros : Int) (h0 : -9223372036854775808 ≤ n) (h1 : n ≤ 9223372036854775807) (hm : most ≤ 9223372036854775807) (hz0 : -9223372036854775808 ≤ zeros) (hz1 : zeros ≤ 9223372036854775807) : HC Tryd.prog 9 [.int .i64 n, .int .i64 most, .int .i64 zeros] hs1 fun v _ => v = .bool true := by
  by_cases hn : n < 0
  · exact law9_neg n most zeros h0 h1 hn
  · obtain ⟨nn, rfl⟩ : ∃ nn : Nat, n = nn := ⟨n.toNat, by omega⟩
    exact law9_pos nn most zeros (by omega) (by omega) hz0 (by omega)

theorem pow_of_laidU {W : World} (h : laidMetH Tryd.prog Rows.digitsNumbersRow.laid W) : Lib.TabIs Tryd.prog W "internal/strconv.uint64pow10" .u64 pow := by
  rw [MakeChecks.laidMetH_plain _ _ _ (by kernel_rfl)] at h
  have h2 : laidMet Tryd.prog (("internal/strconv.uint64pow10", Lib.tabData .u64 pow) :: [("unicode/utf8.acceptRanges", Rows.laid_unicode_utf8_acceptRanges), ("unicode/utf8.first", Rows.laid_unicode_utf8_first)]) W := h.tail.tail
  exact Lib.tabIs_of_head (g := 0) (by kernel_rfl) (by kernel_rfl) Tryd.underlying76 Tryd.underlying62 (by kernel_rfl) (by kernel_rfl) h2

theorem numbers_lifted (os : Os) (started : os.Started) (H : Type) (enc : TypeId × Value → H) :
    ReturnsInHanded {} Tryd.checked os 9 .any (fun w args => (Rows.digitsNumbersSpec.pre enc Tryd.prog Tryd.f9 [] false w args ∧ laidMetH Tryd.prog Rows.digitsNumbersRow.laid w) ∧ sizedMet enc Tryd.prog Tryd.f9 (OpenSpec.ofChange Rows.digitsNumbersSpec) false w args)
      (Rows.digitsNumbersSpec.post enc Tryd.prog Tryd.f9 false true false false) := by
  refine returnsInHanded_of_change_and (C := Tryd.checked) (X := fun w _ => laidMetH Tryd.prog Rows.digitsNumbersRow.laid w) (fun _ _ _ hh h => h.of_heap hh) own started (by kernel_rfl) Tryd.func9
    (ChangeSpec.witness_shaped (enc := enc) (C := Tryd.checked) (os := os) (X := fun w _ => laidMetH Tryd.prog Rows.digitsNumbersRow.laid w) false (World.laidAll Tryd.prog os Rows.digitsNumbersRow.laid) #[.int .i64 0, .int .i64 0, .int .i64 0] 8 (World.laidAll_os _ _ _)
      (World.shaped_of_ZipB (by kernel_rfl) (by kernel_rfl)) (by kernel_rfl) (by kernel_rfl) (by kernel_rfl)
      (by rw [MakeChecks.laidMetH_plain _ _ _ (by kernel_rfl)]; exact laidMet_laidAll _ (by kernel_rfl) (by kernel_rfl))) ?_
  intro W base args ds gs before hval0 hW _ _ hL _
  have hval : ∀ (j : Nat) t v, Tryd.f9.params[j]? = some t → args[j]? = some v → Value.okWide Tryd.prog W .any base t v := hval0
  have hW' := hW
  obtain ⟨p, q, hA0, hV, rfl, hfz, hnd⟩ := hW
  have hA : DataW.TrodAll enc Tryd.prog W 0 (fun _ => true) true Tryd.f9.params.toList args.toList ds p := hA0
  rw [Tryd.params9] at hA hval
  obtain ⟨v0, v1, v2, d0, d1, d2, p0, p1, p2, rfl, rfl, rfl, h0, h1, h2⟩ := trodAll_three hA
  have bnd : ∀ {m : Int}, (Lit.int .i64 m).wf = true → -9223372036854775808 ≤ m ∧ m ≤ 9223372036854775807 := by
    intro m hwm
    have h2 : (decide (IntKind.i64.min ≤ m) && decide (m ≤ IntKind.i64.max)) = true := hwm
    rw [Bool.and_eq_true, decide_eq_true_eq, decide_eq_true_eq] at h2
    have h3 : IntKind.i64.max = 9223372036854775807 := by decide
    have h4 : IntKind.i64.min = -9223372036854775808 := by decide
    rw [h3, h4] at h2
    exact h2
  obtain ⟨m0, rfl, rfl, rfl, hw0⟩ := open_int Tryd.underlying3 (hval 0 3 v0 rfl rfl) h0
  obtain ⟨m1, rfl, rfl, rfl, hw1⟩ := open_int Tryd.underlying3 (hval 1 3 v1 rfl rfl) h1
  obtain ⟨m2, rfl, rfl, rfl, hw2⟩ := open_int Tryd.underlying3 (hval 2 3 v2 rfl rfl) h2
  obtain ⟨rfl, rfl⟩ := trodVars_none hV
  have hR : RelL [⟨0, 0, pow.length, 1⟩, ⟨0, 0, 1, 1⟩, ⟨0, 0, 1, 1⟩] [HV.int .i64 m0, HV.int .i64 m1, HV.int .i64 m2] [Value.int .i64 m0, Value.int .i64 m1, Value.int .i64 m2] := by
    simp only [RelL, Rel]
    exact ⟨_, _, rfl, rfl, _, _, rfl, rfl, _, _, rfl, rfl, rfl⟩
  refine (HC.below (emb_tab3 (by kernel_rfl) (pow_of_laidU hL)) hR (fun i c h => ?_) (law9 m0 m1 m2 (bnd hw0).1 (bnd hw0).2 (bnd hw1).2 (bnd hw2).1 (bnd hw2).2)).mono fun e W' ⟨he, hb⟩ => ?_
  · exact ro1 i c h
  subst he
  exact ⟨_, rfl, law_post (tb := 4) laidOut rfl Tryd.underlying4 (by kernel_rfl) (by kernel_rfl) hW' rfl hb⟩

theorem digitsNumbers_holds : Rows.DigitsNumbersSaid :=
  OpenClaim.holds_of_wide 9 Tryd.f9 rfl rfl rfl rfl rfl rfl rfl ⟨rfl, rfl, rfl, rfl, rfl⟩ rfl rfl rfl rfl rfl (by kernel_rfl) Tryd.func9 (by kernel_rfl)
    (of_decide_eq_true (by kernel_rfl)) (by unfold Func.isWrapper; first | (rw [if_pos (by decide +kernel)]; kernel_rfl) | (rw [if_neg (by decide +kernel)]; exact ⟨rfl, rfl⟩))
    (fun os started H enc _ => numbers_lifted os started H enc)
theorem digitsNumbers_card : Rows.DigitsNumbersCardSaid :=
  Claim7.holds_tied_plain_at .later [] [.data, .data, .data, .data, .pinned] true (true, "292aa59d8ee6bf52d4ffcf097a31faf6b554d06dee12e25551358aaa0ec2dfd0") false
    digitsNumbers_holds (fun _ h => by cases h) (by kernel_rfl) (fun _ h => by cases h) digitsNumbers_row_tie rfl ⟨rfl, rfl⟩ (by kernel_rfl) rfl
    (fun f fn hf hfn => by
      obtain rfl : f = 9 := Option.some.inj ((show Tryd.prog.funcNamed "stint/stintlaw01.DigitsNumbers" = some 9 by kernel_rfl).symm.trans hf) |>.symm
      obtain rfl : fn = Tryd.f9 := (Option.some.inj (Tryd.func9.symm.trans hfn)).symm
      exact ⟨by kernel_rfl, fun j t ht => by
        rw [Tryd.params9] at ht
        have hm : t ∈ [3, 3, 3] := by simpa using Array.mem_of_getElem? ht
        have hall : ([3, 3, 3].all fun u => !Tryd.prog.wantsStandIn u) = true := by kernel_rfl
        exact (show Tryd.prog.wantsStandIn t = false by simpa using List.all_eq_true.1 hall t hm)⟩)
    (by kernel_rfl)
#print axioms digitsNumbers_card
end W
end Go.Proofs.YteedidafobfijaaDoor
