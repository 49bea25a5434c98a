/-
  digits.Word and stintref01.Word: what they answer at any text (printed by a program of this claim's maker).
-/
import Derived.Test.YteedidafobfijaaDoorF
import Derived.Test.YteedidafobfijaaDoorHLStr
import Derived.Test.YteedidafobfijaaDoorHLSym
import Derived.Laws.RangeAny
namespace Go.Proofs.YteedidafobfijaaDoor
open Go Go.HL
namespace W
set_option maxRecDepth 100000
set_option maxHeartbeats 4000000
set_option linter.unusedSimpArgs false

theorem sb {a b : Bool} (h : a = b) : some (HV.bool a) = some (HV.bool b) := by rw [h]
theorem pickF {fr : List HV} {hs : HS} {c x y : HX} {v : HV} (h : c.ev fr = .bool false) (hy : y.ev fr = v) : hop (.pick c x y) fr hs = some (v, hs) := by
  simp only [hop, h, hy]; rfl
theorem pickT {fr : List HV} {hs : HS} {c x y : HX} {v : HV} (h : c.ev fr = .bool true) (hx : x.ev fr = v) : hop (.pick c x y) fr hs = some (v, hs) := by
  simp only [hop, h, hx]; rfl
theorem hidx {s : List UInt8} {i : Nat} {c : UInt8} (h : s[i]? = some c) : hindexStr (.str s) (.int .i64 i) = some (.int .u8 c.toNat) := by
  simp [hindexStr, h]
theorem hadd1 {i : Nat} (h : i < 9223372036854775807) : hbin .add none (.int .i64 i) (.int .i64 1) = some (.int .i64 ((i + 1 : Nat) : Int)) := by
  have h0 : hbin .add none (.int .i64 i) (.int .i64 1) = some (.int .i64 (wr .i64 ((i : Int) + 1))) := rfl
  have h1 : wr .i64 ((i : Int) + 1) = ((i + 1 : Nat) : Int) := by
    show ((i : Int) + 1 + 9223372036854775808) % 18446744073709551616 - 9223372036854775808 = _
    omega
  rw [h0, h1]

def okB (c : UInt8) : Bool := decide (33 ≤ c.toNat) && decide (c.toNat ≤ 126)
def wordL (s : List UInt8) : Bool := s.all okB && !s.isEmpty
theorem wordL_bad {s : List UInt8} {i : Nat} {c : UInt8} (hc : s[i]? = some c) (h : okB c = false) : wordL s = false := by
  have : s.all okB = false := List.all_eq_false.2 ⟨c, List.mem_of_getElem? hc, by simp [h]⟩
  unfold wordL; rw [this, Bool.false_and]
theorem wordL_end {s : List UInt8} (h : ∀ (k : Nat) (c : UInt8), s[k]? = some c → okB c = true) : wordL s = !s.isEmpty := by
  have : s.all okB = true := List.all_eq_true.2 fun x hx => by
    obtain ⟨k, hk⟩ := List.getElem?_of_mem hx
    exact h k x hk
  unfold wordL; rw [this, Bool.true_and]
theorem okB_low {c : UInt8} (h : c.toNat < 33) : okB c = false := by simp [okB]; omega
theorem okB_high {c : UInt8} (h : c.toNat > 126) : okB c = false := by simp [okB]; omega
theorem okB_in {c : UInt8} (h1 : 33 ≤ c.toNat) (h2 : c.toNat ≤ 126) : okB c = true := by simp [okB]; omega

def base16 (s : List UInt8) (i : Nat) : List HV :=
  [.str s, .undef, .bool false, .int .i64 i, .undef, .undef, .undef, .undef, .undef, .undef, .undef, .undef, .undef, .undef, .undef, .undef, .undef, .undef, .undef, .undef, .undef, .undef, .undef]
def I16 (s : List UInt8) (n : Nat) (fr : List HV) (hs : HS) : Prop :=
  ∃ i, i ≤ s.length ∧ n = s.length - i ∧ hs = [] ∧ (∀ (k : Nat) (c : UInt8), k < i → s[k]? = some c → okB c = true) ∧ Less (base16 s i) fr

theorem ref16 (s : List UInt8) (hl : s.length < 9223372036854775808) : HC Tryd.prog 16 [.str s] [] fun v _ => v = .bool (wordL s) := by
  refine HC.body Tryd.func16 c16 ?_
  refine HW.seq (HW.region (HL.op rfl (HL.nil ?_)))
  try simp only [killFr, List.foldl, put, frame0, h16, List.length, List.replicate, Nat.sub, List.append, List.set, HX.ev, List.getElem?_cons_succ, List.getElem?_cons_zero, Option.getD_some, HAppend.hAppend, Append.append]
  refine HW.seq (HW.seq (HW.region (HL.op rfl (HL.nil ?_))))
  try simp only [killFr, List.foldl, put, frame0, h16, List.length, List.replicate, Nat.sub, List.append, List.set, HX.ev, List.getElem?_cons_succ, List.getElem?_cons_zero, Option.getD_some, HAppend.hAppend, Append.append]
  show HW Tryd.prog _ _ _ _
  refine HW.block (HW.loop (I16 s) s.length ⟨0, by omega, by omega, rfl, fun k c h => absurd h (by omega), ?_⟩ ?_)
  · unfold base16
    repeat first | exact Less.nil | refine Less.undef _ ?_ | refine Less.keep _ ?_
  rintro n fr hs ⟨i, hi, hn, rfl, hpre, hL⟩
  refine HW.less hL ?_
  unfold base16
  refine HW.seq (HW.seq (HW.region ?_))
  refine HL.op rfl ?_
  try simp only [killFr, List.foldl, put, frame0, h16, List.length, List.replicate, Nat.sub, List.append, List.set, HX.ev, List.getElem?_cons_succ, List.getElem?_cons_zero, Option.getD_some, HAppend.hAppend, Append.append]
  refine HL.op rfl ?_
  try simp only [killFr, List.foldl, put, frame0, h16, List.length, List.replicate, Nat.sub, List.append, List.set, HX.ev, List.getElem?_cons_succ, List.getElem?_cons_zero, Option.getD_some, HAppend.hAppend, Append.append]
  refine HL.op rfl ?_
  try simp only [killFr, List.foldl, put, frame0, h16, List.length, List.replicate, Nat.sub, List.append, List.set, HX.ev, List.getElem?_cons_succ, List.getElem?_cons_zero, Option.getD_some, HAppend.hAppend, Append.append]
  refine HL.op (v := .bool (decide ((i : Int) < (s.length : Nat)))) rfl (HL.nil ?_)
  try simp only [killFr, List.foldl, put, frame0, h16, List.length, List.replicate, Nat.sub, List.append, List.set, HX.ev, List.getElem?_cons_succ, List.getElem?_cons_zero, Option.getD_some, HAppend.hAppend, Append.append]
  show HW Tryd.prog _ _ _ _
  cases h4 : decide ((i : Int) < (s.length : Nat)) with
  | false =>
    have hil : i = s.length := by have := of_decide_eq_false h4; omega
    refine HW.cond (t := false) rfl (HW.exit ?_)
    simp only [HThen, HBlock, if_true]
    refine HW.seq (HW.region ?_)
    refine HL.op rfl ?_
    try simp only [killFr, List.foldl, put, frame0, h16, List.length, List.replicate, Nat.sub, List.append, List.set, HX.ev, List.getElem?_cons_succ, List.getElem?_cons_zero, Option.getD_some, HAppend.hAppend, Append.append]
    refine HL.op rfl ?_
    try simp only [killFr, List.foldl, put, frame0, h16, List.length, List.replicate, Nat.sub, List.append, List.set, HX.ev, List.getElem?_cons_succ, List.getElem?_cons_zero, Option.getD_some, HAppend.hAppend, Append.append]
    refine HL.op (v := .bool (decide ((s.length : Int) > 0))) rfl ?_
    try simp only [killFr, List.foldl, put, frame0, h16, List.length, List.replicate, Nat.sub, List.append, List.set, HX.ev, List.getElem?_cons_succ, List.getElem?_cons_zero, Option.getD_some, HAppend.hAppend, Append.append]
    refine HL.op rfl (HL.nil (HW.ret ?_))
    try simp only [killFr, List.foldl, put, frame0, h16, List.length, List.replicate, Nat.sub, List.append, List.set, HX.ev, List.getElem?_cons_succ, List.getElem?_cons_zero, Option.getD_some, HAppend.hAppend, Append.append]
    refine ⟨rfl, _, rfl, ?_⟩
    have h1 : wordL s = !s.isEmpty := wordL_end fun k c hk => hpre k c (by have := lt_of_get hk; omega) hk
    have h2 : decide ((s.length : Int) > 0) = !s.isEmpty := by cases s <;> simp
    rw [h1, ← h2]; rfl
  | true =>
    have hil : i < s.length := by have := of_decide_eq_true h4; omega
    obtain ⟨c, hc⟩ : ∃ c, s[i]? = some c := ⟨_, List.getElem?_eq_getElem hil⟩
    refine HW.cond (t := true) rfl (HW.skip ?_)
    show HW Tryd.prog _ _ _ _
    refine HW.seq (HW.block (HW.seq (HW.region ?_)))
    refine HL.op rfl ?_
    try simp only [killFr, List.foldl, put, frame0, h16, List.length, List.replicate, Nat.sub, List.append, List.set, HX.ev, List.getElem?_cons_succ, List.getElem?_cons_zero, Option.getD_some, HAppend.hAppend, Append.append]
    refine HL.op rfl ?_
    try simp only [killFr, List.foldl, put, frame0, h16, List.length, List.replicate, Nat.sub, List.append, List.set, HX.ev, List.getElem?_cons_succ, List.getElem?_cons_zero, Option.getD_some, HAppend.hAppend, Append.append]
    refine HL.op (v := .int .u8 c.toNat) (congrArg (same []) (hidx hc)) ?_
    try simp only [killFr, List.foldl, put, frame0, h16, List.length, List.replicate, Nat.sub, List.append, List.set, HX.ev, List.getElem?_cons_succ, List.getElem?_cons_zero, Option.getD_some, HAppend.hAppend, Append.append]
    refine HL.op (v := .bool (decide ((c.toNat : Int) < 33))) rfl ?_
    try simp only [killFr, List.foldl, put, frame0, h16, List.length, List.replicate, Nat.sub, List.append, List.set, HX.ev, List.getElem?_cons_succ, List.getElem?_cons_zero, Option.getD_some, HAppend.hAppend, Append.append]
    refine HL.op rfl ?_
    try simp only [killFr, List.foldl, put, frame0, h16, List.length, List.replicate, Nat.sub, List.append, List.set, HX.ev, List.getElem?_cons_succ, List.getElem?_cons_zero, Option.getD_some, HAppend.hAppend, Append.append]
    cases g1 : decide ((c.toNat : Int) < 33) with
    | true =>
      refine HL.opNot rfl ?_
      try simp only [killFr, List.foldl, put, frame0, h16, List.length, List.replicate, Nat.sub, List.append, List.set, HX.ev, List.getElem?_cons_succ, List.getElem?_cons_zero, Option.getD_some, HAppend.hAppend, Append.append]
      refine HL.opNot rfl ?_
      try simp only [killFr, List.foldl, put, frame0, h16, List.length, List.replicate, Nat.sub, List.append, List.set, HX.ev, List.getElem?_cons_succ, List.getElem?_cons_zero, Option.getD_some, HAppend.hAppend, Append.append]
      refine HL.opNot rfl ?_
      try simp only [killFr, List.foldl, put, frame0, h16, List.length, List.replicate, Nat.sub, List.append, List.set, HX.ev, List.getElem?_cons_succ, List.getElem?_cons_zero, Option.getD_some, HAppend.hAppend, Append.append]
      refine HL.opNot rfl ?_
      try simp only [killFr, List.foldl, put, frame0, h16, List.length, List.replicate, Nat.sub, List.append, List.set, HX.ev, List.getElem?_cons_succ, List.getElem?_cons_zero, Option.getD_some, HAppend.hAppend, Append.append]
      refine HL.op (pickT rfl rfl) (HL.nil ?_)
      try simp only [killFr, List.foldl, put, frame0, h16, List.length, List.replicate, Nat.sub, List.append, List.set, HX.ev, List.getElem?_cons_succ, List.getElem?_cons_zero, Option.getD_some, HAppend.hAppend, Append.append]
      show HW Tryd.prog _ _ _ _
      refine HW.cond (t := true) rfl (HW.seq (HW.region (HL.op rfl (HL.nil (HW.ret ?_)))))
      try simp only [killFr, List.foldl, put, frame0, h16, List.length, List.replicate, Nat.sub, List.append, List.set, HX.ev, List.getElem?_cons_succ, List.getElem?_cons_zero, Option.getD_some, HAppend.hAppend, Append.append]
      refine ⟨rfl, _, rfl, ?_⟩
      rw [wordL_bad hc (okB_low (by have := of_decide_eq_true g1; omega))]; rfl
    | false =>
      refine HL.opIf rfl rfl ?_
      try simp only [killFr, List.foldl, put, frame0, h16, List.length, List.replicate, Nat.sub, List.append, List.set, HX.ev, List.getElem?_cons_succ, List.getElem?_cons_zero, Option.getD_some, HAppend.hAppend, Append.append]
      refine HL.opIf rfl rfl ?_
      try simp only [killFr, List.foldl, put, frame0, h16, List.length, List.replicate, Nat.sub, List.append, List.set, HX.ev, List.getElem?_cons_succ, List.getElem?_cons_zero, Option.getD_some, HAppend.hAppend, Append.append]
      refine HL.opIf (v := .int .u8 c.toNat) rfl (congrArg (same []) (hidx hc)) ?_
      try simp only [killFr, List.foldl, put, frame0, h16, List.length, List.replicate, Nat.sub, List.append, List.set, HX.ev, List.getElem?_cons_succ, List.getElem?_cons_zero, Option.getD_some, HAppend.hAppend, Append.append]
      refine HL.opIf (v := .bool (decide ((c.toNat : Int) > 126))) rfl rfl ?_
      try simp only [killFr, List.foldl, put, frame0, h16, List.length, List.replicate, Nat.sub, List.append, List.set, HX.ev, List.getElem?_cons_succ, List.getElem?_cons_zero, Option.getD_some, HAppend.hAppend, Append.append]
      refine HL.op (pickF rfl rfl) (HL.nil ?_)
      try simp only [killFr, List.foldl, put, frame0, h16, List.length, List.replicate, Nat.sub, List.append, List.set, HX.ev, List.getElem?_cons_succ, List.getElem?_cons_zero, Option.getD_some, HAppend.hAppend, Append.append]
      show HW Tryd.prog _ _ _ _
      cases g2 : decide ((c.toNat : Int) > 126) with
      | true =>
        refine HW.cond (t := true) rfl (HW.seq (HW.region (HL.op rfl (HL.nil (HW.ret ?_)))))
        try simp only [killFr, List.foldl, put, frame0, h16, List.length, List.replicate, Nat.sub, List.append, List.set, HX.ev, List.getElem?_cons_succ, List.getElem?_cons_zero, Option.getD_some, HAppend.hAppend, Append.append]
        refine ⟨rfl, _, rfl, ?_⟩
        rw [wordL_bad hc (okB_high (by have := of_decide_eq_true g2; omega))]; rfl
      | false =>
        refine HW.cond (t := false) rfl (HW.skip ?_)
        show HW Tryd.prog _ _ _ _
        refine HW.region ?_
        refine HL.op rfl ?_
        try simp only [killFr, List.foldl, put, frame0, h16, List.length, List.replicate, Nat.sub, List.append, List.set, HX.ev, List.getElem?_cons_succ, List.getElem?_cons_zero, Option.getD_some, HAppend.hAppend, Append.append]
        refine HL.op (v := .int .i64 ((i + 1 : Nat) : Int)) (congrArg (same []) (hadd1 (by omega))) ?_
        try simp only [killFr, List.foldl, put, frame0, h16, List.length, List.replicate, Nat.sub, List.append, List.set, HX.ev, List.getElem?_cons_succ, List.getElem?_cons_zero, Option.getD_some, HAppend.hAppend, Append.append]
        refine HL.op rfl (HL.nil ?_)
        try simp only [killFr, List.foldl, put, frame0, h16, List.length, List.replicate, Nat.sub, List.append, List.set, HX.ev, List.getElem?_cons_succ, List.getElem?_cons_zero, Option.getD_some, HAppend.hAppend, Append.append]
        refine ⟨s.length - (i + 1), by omega, i + 1, by omega, rfl, rfl, ?_, ?_⟩
        · intro k d hk hd
          rcases Nat.lt_or_ge k i with h | h
          · exact hpre k d h hd
          · have : k = i := by omega
            subst this
            rw [hc] at hd; cases hd
            exact okB_in (by have := of_decide_eq_false g1; omega) (by have := of_decide_eq_false g2; omega)
        · unfold base16
          repeat first | exact Less.nil | refine Less.undef _ ?_ | refine Less.keep _ ?_

theorem hnext_end {s : List UInt8} {pos : Nat} (h : ¬ pos < s.length) : hnextStr [some (.siter s pos)] (.ptr 0 0) = some (.tup [.bool false], [some (.siter s pos)]) := by
  simp [hnextStr, h]
theorem hnext_more {s : List UInt8} {pos : Nat} (h : pos < s.length) : hnextStr [some (.siter s pos)] (.ptr 0 0) = some (.tup [.bool true, .int .i64 pos, .int .i32 (Utf8.decode ⟨s.toArray⟩ pos).1], [some (.siter s (pos + (Utf8.decode ⟨s.toArray⟩ pos).2))]) := by
  simp [hnextStr, h]
theorem dec_low {s : List UInt8} {pos : Nat} {c : UInt8} (hc : s[pos]? = some c) (h : c.toNat < 128) : Utf8.decode ⟨s.toArray⟩ pos = (c.toNat, 1) := by
  have hlt := lt_of_get hc
  have hsz : pos < (⟨s.toArray⟩ : ByteArray).size := by simpa [ByteArray.size] using hlt
  have hg : (⟨s.toArray⟩ : ByteArray)[pos]'hsz = c := by
    rw [List.getElem?_eq_getElem hlt] at hc
    exact Option.some.inj hc
  have := decode_ascii ⟨s.toArray⟩ pos hsz (by rw [hg]; exact h)
  rw [this, hg]
theorem dec_high {s : List UInt8} {pos : Nat} {c : UInt8} (hc : s[pos]? = some c) (h : 128 ≤ c.toNat) : 128 ≤ (Utf8.decode ⟨s.toArray⟩ pos).1 := by
  have hlt := lt_of_get hc
  have hsz : pos < (⟨s.toArray⟩ : ByteArray).size := by simpa [ByteArray.size] using hlt
  have hg : (⟨s.toArray⟩ : ByteArray)[pos]'hsz = c := by
    rw [List.getElem?_eq_getElem hlt] at hc
    exact Option.some.inj hc
  exact (decode_high ⟨s.toArray⟩ pos hsz (by rw [hg]; exact h)).1

def base15 (s : List UInt8) : List HV :=
  [.str s, .undef, .bool false, .undef, .undef, .undef, .ptr 0 0, .undef, .undef, .undef, .undef, .undef, .undef, .undef, .undef, .undef, .undef, .undef]
def I15 (s : List UInt8) (n : Nat) (fr : List HV) (hs : HS) : Prop :=
  ∃ i, i ≤ s.length ∧ n = s.length - i ∧ hs = [some (.siter s i)] ∧ (∀ (k : Nat) (c : UInt8), k < i → s[k]? = some c → okB c = true) ∧ Less (base15 s) fr
theorem neNil (s : List UInt8) : hbin .neq (some .str) (.str s) (.str []) = some (.bool (!s.isEmpty)) := by cases s <;> rfl

theorem word15 (s : List UInt8) : HC Tryd.prog 15 [.str s] [] fun v _ => v = .bool (wordL s) := by
  refine HC.body Tryd.func15 c15 ?_
  refine HW.seq (HW.region (HL.op rfl (HL.nil ?_)))
  try simp only [killFr, List.foldl, put, frame0, h15, List.length, List.replicate, Nat.sub, List.append, List.set, HX.ev, List.getElem?_cons_succ, List.getElem?_cons_zero, Option.getD_some, HAppend.hAppend, Append.append]
  refine HW.seq (HW.seq (HW.region ?_))
  refine HL.op rfl ?_
  try simp only [killFr, List.foldl, put, frame0, h15, List.length, List.replicate, Nat.sub, List.append, List.set, HX.ev, List.getElem?_cons_succ, List.getElem?_cons_zero, Option.getD_some, HAppend.hAppend, Append.append]
  refine HL.op (v := .ptr 0 0) (hs' := [some (.siter s 0)]) rfl (HL.nil ?_)
  try simp only [killFr, List.foldl, put, frame0, h15, List.length, List.replicate, Nat.sub, List.append, List.set, HX.ev, List.getElem?_cons_succ, List.getElem?_cons_zero, Option.getD_some, HAppend.hAppend, Append.append]
  show HW Tryd.prog _ _ _ _
  refine HW.block (HW.loop (I15 s) s.length ⟨0, by omega, by omega, rfl, fun k c h => absurd h (by omega), ?_⟩ ?_)
  · unfold base15
    repeat first | exact Less.nil | refine Less.undef _ ?_ | refine Less.keep _ ?_
  rintro n fr hs ⟨i, hi, hn, rfl, hpre, hL⟩
  refine HW.less hL ?_
  unfold base15
  refine HW.seq (HW.region ?_)
  by_cases hil : i < s.length
  case neg =>
    refine HL.op (hnext_end hil) ?_
    try simp only [killFr, List.foldl, put, frame0, h15, List.length, List.replicate, Nat.sub, List.append, List.set, HX.ev, List.getElem?_cons_succ, List.getElem?_cons_zero, Option.getD_some, HAppend.hAppend, Append.append]
    refine HL.op (v := .bool false) rfl (HL.nil ?_)
    try simp only [killFr, List.foldl, put, frame0, h15, List.length, List.replicate, Nat.sub, List.append, List.set, HX.ev, List.getElem?_cons_succ, List.getElem?_cons_zero, Option.getD_some, HAppend.hAppend, Append.append]
    refine HW.seq (HW.cond (t := false) rfl (HW.exit ?_))
    simp only [HThen, HBlock, if_true]
    refine HW.seq (HW.region ?_)
    refine HL.op rfl ?_
    try simp only [killFr, List.foldl, put, frame0, h15, List.length, List.replicate, Nat.sub, List.append, List.set, HX.ev, List.getElem?_cons_succ, List.getElem?_cons_zero, Option.getD_some, HAppend.hAppend, Append.append]
    refine HL.op (v := .bool (!s.isEmpty)) (congrArg (same _) (neNil s)) ?_
    try simp only [killFr, List.foldl, put, frame0, h15, List.length, List.replicate, Nat.sub, List.append, List.set, HX.ev, List.getElem?_cons_succ, List.getElem?_cons_zero, Option.getD_some, HAppend.hAppend, Append.append]
    refine HL.op rfl (HL.nil (HW.ret ?_))
    try simp only [killFr, List.foldl, put, frame0, h15, List.length, List.replicate, Nat.sub, List.append, List.set, HX.ev, List.getElem?_cons_succ, List.getElem?_cons_zero, Option.getD_some, HAppend.hAppend, Append.append]
    refine ⟨rfl, _, rfl, ?_⟩
    have h1 : wordL s = !s.isEmpty := wordL_end fun k c hk => hpre k c (by have := lt_of_get hk; omega) hk
    rw [h1]; rfl
  case pos =>
    obtain ⟨c, hc⟩ : ∃ c, s[i]? = some c := ⟨_, List.getElem?_eq_getElem hil⟩
    refine HL.op (hnext_more hil) ?_
    try simp only [killFr, List.foldl, put, frame0, h15, List.length, List.replicate, Nat.sub, List.append, List.set, HX.ev, List.getElem?_cons_succ, List.getElem?_cons_zero, Option.getD_some, HAppend.hAppend, Append.append]
    have hd1 := @dec_low s i c hc
    have hd2 := @dec_high s i c hc
    generalize hr : (Utf8.decode ⟨s.toArray⟩ i).1 = r
    generalize hwd : (Utf8.decode ⟨s.toArray⟩ i).2 = wd
    rw [hr] at hd2
    have hd1' : c.toNat < 128 → r = c.toNat ∧ wd = 1 := fun h => by rw [← hr, ← hwd, hd1 h]; exact ⟨rfl, rfl⟩
    refine HL.op (v := .bool true) rfl (HL.nil ?_)
    try simp only [killFr, List.foldl, put, frame0, h15, List.length, List.replicate, Nat.sub, List.append, List.set, HX.ev, List.getElem?_cons_succ, List.getElem?_cons_zero, Option.getD_some, HAppend.hAppend, Append.append]
    refine HW.seq (HW.cond (t := true) rfl (HW.skip ?_))
    show HW Tryd.prog _ _ _ _
    refine HW.block (HW.seq (HW.region ?_))
    refine HL.op (v := .int .i32 r) rfl ?_
    try simp only [killFr, List.foldl, put, frame0, h15, List.length, List.replicate, Nat.sub, List.append, List.set, HX.ev, List.getElem?_cons_succ, List.getElem?_cons_zero, Option.getD_some, HAppend.hAppend, Append.append]
    refine HL.op rfl (HL.nil ?_)
    try simp only [killFr, List.foldl, put, frame0, h15, List.length, List.replicate, Nat.sub, List.append, List.set, HX.ev, List.getElem?_cons_succ, List.getElem?_cons_zero, Option.getD_some, HAppend.hAppend, Append.append]
    show HW Tryd.prog _ _ _ _
    refine HW.seq (HW.region ?_)
    refine HL.op rfl ?_
    try simp only [killFr, List.foldl, put, frame0, h15, List.length, List.replicate, Nat.sub, List.append, List.set, HX.ev, List.getElem?_cons_succ, List.getElem?_cons_zero, Option.getD_some, HAppend.hAppend, Append.append]
    refine HL.op (v := .bool (decide ((r : Int) < 33))) rfl ?_
    try simp only [killFr, List.foldl, put, frame0, h15, List.length, List.replicate, Nat.sub, List.append, List.set, HX.ev, List.getElem?_cons_succ, List.getElem?_cons_zero, Option.getD_some, HAppend.hAppend, Append.append]
    refine HL.op rfl ?_
    try simp only [killFr, List.foldl, put, frame0, h15, List.length, List.replicate, Nat.sub, List.append, List.set, HX.ev, List.getElem?_cons_succ, List.getElem?_cons_zero, Option.getD_some, HAppend.hAppend, Append.append]
    cases g1 : decide ((r : Int) < 33) with
    | true =>
      refine HL.opNot rfl ?_
      try simp only [killFr, List.foldl, put, frame0, h15, List.length, List.replicate, Nat.sub, List.append, List.set, HX.ev, List.getElem?_cons_succ, List.getElem?_cons_zero, Option.getD_some, HAppend.hAppend, Append.append]
      refine HL.opNot rfl ?_
      try simp only [killFr, List.foldl, put, frame0, h15, List.length, List.replicate, Nat.sub, List.append, List.set, HX.ev, List.getElem?_cons_succ, List.getElem?_cons_zero, Option.getD_some, HAppend.hAppend, Append.append]
      refine HL.op (pickT rfl rfl) (HL.nil ?_)
      try simp only [killFr, List.foldl, put, frame0, h15, List.length, List.replicate, Nat.sub, List.append, List.set, HX.ev, List.getElem?_cons_succ, List.getElem?_cons_zero, Option.getD_some, HAppend.hAppend, Append.append]
      show HW Tryd.prog _ _ _ _
      refine HW.cond (t := true) rfl (HW.seq (HW.region (HL.op rfl (HL.nil (HW.ret ?_)))))
      try simp only [killFr, List.foldl, put, frame0, h15, List.length, List.replicate, Nat.sub, List.append, List.set, HX.ev, List.getElem?_cons_succ, List.getElem?_cons_zero, Option.getD_some, HAppend.hAppend, Append.append]
      refine ⟨rfl, _, rfl, ?_⟩
      have : c.toNat < 33 := by
        have := of_decide_eq_true g1
        rcases Nat.lt_or_ge c.toNat 128 with h | h
        · have := (hd1' h).1; omega
        · have := hd2 h; omega
      rw [wordL_bad hc (okB_low this)]; rfl
    | false =>
      refine HL.opIf rfl rfl ?_
      try simp only [killFr, List.foldl, put, frame0, h15, List.length, List.replicate, Nat.sub, List.append, List.set, HX.ev, List.getElem?_cons_succ, List.getElem?_cons_zero, Option.getD_some, HAppend.hAppend, Append.append]
      refine HL.opIf (v := .bool (decide ((r : Int) > 126))) rfl rfl ?_
      try simp only [killFr, List.foldl, put, frame0, h15, List.length, List.replicate, Nat.sub, List.append, List.set, HX.ev, List.getElem?_cons_succ, List.getElem?_cons_zero, Option.getD_some, HAppend.hAppend, Append.append]
      refine HL.op (pickF rfl rfl) (HL.nil ?_)
      try simp only [killFr, List.foldl, put, frame0, h15, List.length, List.replicate, Nat.sub, List.append, List.set, HX.ev, List.getElem?_cons_succ, List.getElem?_cons_zero, Option.getD_some, HAppend.hAppend, Append.append]
      show HW Tryd.prog _ _ _ _
      cases g2 : decide ((r : Int) > 126) with
      | true =>
        refine HW.cond (t := true) rfl (HW.seq (HW.region (HL.op rfl (HL.nil (HW.ret ?_)))))
        try simp only [killFr, List.foldl, put, frame0, h15, List.length, List.replicate, Nat.sub, List.append, List.set, HX.ev, List.getElem?_cons_succ, List.getElem?_cons_zero, Option.getD_some, HAppend.hAppend, Append.append]
        refine ⟨rfl, _, rfl, ?_⟩
        have : c.toNat > 126 := by
          have := of_decide_eq_true g2
          rcases Nat.lt_or_ge c.toNat 128 with h | h
          · have := (hd1' h).1; omega
          · omega
        rw [wordL_bad hc (okB_high this)]; rfl
      | false =>
        have hlo : c.toNat < 128 := by
          have := of_decide_eq_false g2
          rcases Nat.lt_or_ge c.toNat 128 with h | h
          · exact h
          · have := hd2 h; omega
        obtain ⟨hrc, hw1⟩ := hd1' hlo
        refine HW.cond (t := false) rfl (HW.skip ?_)
        refine ⟨s.length - (i + 1), by omega, i + 1, by omega, rfl, by rw [hw1], ?_, ?_⟩
        · intro k d hk hd
          rcases Nat.lt_or_ge k i with h | h
          · exact hpre k d h hd
          · have : k = i := by omega
            subst this
            rw [hc] at hd; cases hd
            exact okB_in (by have := of_decide_eq_false g1; omega) (by have := of_decide_eq_false g2; omega)
        · unfold base15
          repeat first | exact Less.nil | refine Less.undef _ ?_ | refine Less.keep _ ?_
end W
end Go.Proofs.YteedidafobfijaaDoor
