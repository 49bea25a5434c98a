import Derived.Test.YthihchoccpnfeaaDoorV
namespace Go.Proofs.YthihchoccpnfeaaDoor
open Go Go.HL
namespace V
set_option maxRecDepth 100000
set_option linter.unusedSimpArgs false
set_option maxHeartbeats 4000000

/-- the one bool that is looked at. -/
theorem sb {a b : Bool} (h : a = b) : some (HV.bool a) = some (HV.bool b) := by rw [h]

theorem pickF {fr : List HV} {hs : HS} {c x y : HX} {v : HV} (h : c.ev fr = .bool false) (hy : y.ev fr = v) : hop (.pick c x y) fr hs = some (v, hs) := by
  simp only [hop, h, hy]; rfl
theorem pickT {fr : List HV} {hs : HS} {c x y : HX} {v : HV} (h : c.ev fr = .bool true) (hx : x.ev fr = v) : hop (.pick c x y) fr hs = some (v, hs) := by
  simp only [hop, h, hx]; rfl

theorem hidx {s : List UInt8} {i : Nat} {c : UInt8} (h : s[i]? = some c) : hindexStr (.str s) (.int .i64 i) = some (.int .u8 c.toNat) := by
  simp [hindexStr, h]

theorem hadd1 {i : Nat} (h : i < 1000000) : hbin .add none (.int .i64 i) (.int .i64 1) = some (.int .i64 ((i + 1 : Nat) : Int)) := by
  have h0 : hbin .add none (.int .i64 i) (.int .i64 1) = some (.int .i64 (wr .i64 ((i : Int) + 1))) := rfl
  have h1 : wr .i64 ((i : Int) + 1) = ((i + 1 : Nat) : Int) := by
    show ((i : Int) + 1 + 9223372036854775808) % 18446744073709551616 - 9223372036854775808 = _
    omega
  rw [h0, h1]

theorem validL_true {c : UInt8} {r : List UInt8} (h1 : 1 ≤ (c :: r).length) (h2 : (c :: r).length ≤ 200) (h3 : decide ((c.toNat : Int) = 45) = false) (h4 : ∀ (k : Nat) (d : UInt8), (c :: r)[k]? = some d → mayB d.toNat = true) : validL (c :: r) = true := by
  have hne : ((c :: r)[0]? == some 45) = false := by
    have : c ≠ 45 := by
      rintro rfl
      revert h3
      decide
    simpa using this
  have hall : ((c :: r).all fun c => mayB c.toNat) = true := List.all_eq_true.2 fun x hx => by
    obtain ⟨k, hk⟩ := List.getElem?_of_mem hx
    exact h4 k x hk
  unfold validL
  rw [decide_eq_true h1, decide_eq_true h2, hne, hall]
  rfl

theorem validL_false {s : List UInt8} {i : Nat} {c : UInt8} (hc : s[i]? = some c) (hm : mayB c.toNat = false) : validL s = false := by
  have : (s.all fun c => mayB c.toNat) = false := List.all_eq_false.2 ⟨c, List.mem_of_getElem? hc, by simp [hm]⟩
  unfold validL
  rw [this, Bool.and_false]

def I9 (s : List UInt8) (n : Nat) (fr : List HV) (hs : HS) : Prop :=
  ∃ i, i ≤ s.length ∧ n = s.length - i ∧ hs = [] ∧ (∀ k c, k < i → s[k]? = some c → mayB c.toNat = true) ∧ Less (base9 s i) fr

theorem valid9 (s : List UInt8) : HC Tryd.prog 37 [.str s] [] fun v _ => v = .bool (validL s) := by
  cases s with
  | nil => exact hcall_bool mixed F_ok X_ok rfl valid_short
  | cons c r =>
  have h1 : decide (((c :: r).length : Int) < 1) = false := decide_eq_false (by simp; omega)
  refine HC.body Tryd.func37 c37 ?_
  refine HW.seq (HW.region (HL.op rfl (HL.nil ?_)))
  try simp only [killFr, List.foldl, put, frame0, h37, List.length, List.replicate, Nat.sub, List.append, List.set, HX.ev, List.getElem?_cons_succ, List.getElem?_cons_zero, Option.getD_some, HAppend.hAppend, Append.append]
  refine HW.seq ?_
  refine HW.seq (HW.region ?_)
  refine HL.op rfl ?_
  try simp only [killFr, List.foldl, put, frame0, h37, List.length, List.replicate, Nat.sub, List.append, List.set, HX.ev, List.getElem?_cons_succ, List.getElem?_cons_zero, Option.getD_some, HAppend.hAppend, Append.append]
  refine HL.op rfl ?_
  try simp only [killFr, List.foldl, put, frame0, h37, List.length, List.replicate, Nat.sub, List.append, List.set, HX.ev, List.getElem?_cons_succ, List.getElem?_cons_zero, Option.getD_some, HAppend.hAppend, Append.append]
  refine HL.op (v := .bool false) (congrArg (fun b => some (HV.bool b, _)) h1) ?_
  try simp only [killFr, List.foldl, put, frame0, h37, List.length, List.replicate, Nat.sub, List.append, List.set, HX.ev, List.getElem?_cons_succ, List.getElem?_cons_zero, Option.getD_some, HAppend.hAppend, Append.append]
  refine HL.op rfl ?_
  try simp only [killFr, List.foldl, put, frame0, h37, List.length, List.replicate, Nat.sub, List.append, List.set, HX.ev, List.getElem?_cons_succ, List.getElem?_cons_zero, Option.getD_some, HAppend.hAppend, Append.append]
  refine HL.opIf rfl rfl ?_
  try simp only [killFr, List.foldl, put, frame0, h37, List.length, List.replicate, Nat.sub, List.append, List.set, HX.ev, List.getElem?_cons_succ, List.getElem?_cons_zero, Option.getD_some, HAppend.hAppend, Append.append]
  refine HL.opIf rfl rfl ?_
  try simp only [killFr, List.foldl, put, frame0, h37, List.length, List.replicate, Nat.sub, List.append, List.set, HX.ev, List.getElem?_cons_succ, List.getElem?_cons_zero, Option.getD_some, HAppend.hAppend, Append.append]
  refine HL.opIf (v := .bool (decide (((c :: r).length : Int) > 200))) rfl rfl ?_
  try simp only [killFr, List.foldl, put, frame0, h37, List.length, List.replicate, Nat.sub, List.append, List.set, HX.ev, List.getElem?_cons_succ, List.getElem?_cons_zero, Option.getD_some, HAppend.hAppend, Append.append]
  refine HL.op (pickF rfl rfl) ?_
  try simp only [killFr, List.foldl, put, frame0, h37, List.length, List.replicate, Nat.sub, List.append, List.set, HX.ev, List.getElem?_cons_succ, List.getElem?_cons_zero, Option.getD_some, HAppend.hAppend, Append.append]
  refine HL.op rfl ?_
  try simp only [killFr, List.foldl, put, frame0, h37, List.length, List.replicate, Nat.sub, List.append, List.set, HX.ev, List.getElem?_cons_succ, List.getElem?_cons_zero, Option.getD_some, HAppend.hAppend, Append.append]
  cases h2 : decide (((c :: r).length : Int) > 200) with
  | true =>
    refine HL.opNot rfl ?_
    try simp only [killFr, List.foldl, put, frame0, h37, List.length, List.replicate, Nat.sub, List.append, List.set, HX.ev, List.getElem?_cons_succ, List.getElem?_cons_zero, Option.getD_some, HAppend.hAppend, Append.append]
    refine HL.opNot rfl ?_
    try simp only [killFr, List.foldl, put, frame0, h37, List.length, List.replicate, Nat.sub, List.append, List.set, HX.ev, List.getElem?_cons_succ, List.getElem?_cons_zero, Option.getD_some, HAppend.hAppend, Append.append]
    refine HL.opNot rfl ?_
    try simp only [killFr, List.foldl, put, frame0, h37, List.length, List.replicate, Nat.sub, List.append, List.set, HX.ev, List.getElem?_cons_succ, List.getElem?_cons_zero, Option.getD_some, HAppend.hAppend, Append.append]
    refine HL.op (pickT rfl rfl) (HL.nil ?_)
    try simp only [killFr, List.foldl, put, frame0, h37, List.length, List.replicate, Nat.sub, List.append, List.set, HX.ev, List.getElem?_cons_succ, List.getElem?_cons_zero, Option.getD_some, HAppend.hAppend, Append.append]
    refine HW.cond (t := true) rfl (HW.seq (HW.region (HL.op rfl (HL.nil (HW.ret ?_)))))
    try simp only [killFr, List.foldl, put, frame0, h37, List.length, List.replicate, Nat.sub, List.append, List.set, HX.ev, List.getElem?_cons_succ, List.getElem?_cons_zero, Option.getD_some, HAppend.hAppend, Append.append]
    refine ⟨rfl, _, rfl, ?_⟩
    have hl : (c :: r).length > 200 := by have := of_decide_eq_true h2; omega
    have : validL (c :: r) = false := by
      unfold validL
      rw [decide_eq_false (p := (c :: r).length ≤ 200) (by omega)]
      simp
    rw [this]; rfl
  | false =>
    have hl : (c :: r).length ≤ 200 := by have := of_decide_eq_false h2; omega
    refine HL.opIf rfl rfl ?_
    try simp only [killFr, List.foldl, put, frame0, h37, List.length, List.replicate, Nat.sub, List.append, List.set, HX.ev, List.getElem?_cons_succ, List.getElem?_cons_zero, Option.getD_some, HAppend.hAppend, Append.append]
    refine HL.opIf (v := .int .u8 c.toNat) rfl rfl ?_
    try simp only [killFr, List.foldl, put, frame0, h37, List.length, List.replicate, Nat.sub, List.append, List.set, HX.ev, List.getElem?_cons_succ, List.getElem?_cons_zero, Option.getD_some, HAppend.hAppend, Append.append]
    refine HL.opIf (v := .bool (decide ((c.toNat : Int) = 45))) rfl rfl ?_
    try simp only [killFr, List.foldl, put, frame0, h37, List.length, List.replicate, Nat.sub, List.append, List.set, HX.ev, List.getElem?_cons_succ, List.getElem?_cons_zero, Option.getD_some, HAppend.hAppend, Append.append]
    refine HL.op (pickF rfl rfl) (HL.nil ?_)
    try simp only [killFr, List.foldl, put, frame0, h37, List.length, List.replicate, Nat.sub, List.append, List.set, HX.ev, List.getElem?_cons_succ, List.getElem?_cons_zero, Option.getD_some, HAppend.hAppend, Append.append]
    cases h3 : decide ((c.toNat : Int) = 45) with
    | true =>
      refine HW.cond (t := true) rfl (HW.seq (HW.region (HL.op rfl (HL.nil (HW.ret ?_)))))
      try simp only [killFr, List.foldl, put, frame0, h37, List.length, List.replicate, Nat.sub, List.append, List.set, HX.ev, List.getElem?_cons_succ, List.getElem?_cons_zero, Option.getD_some, HAppend.hAppend, Append.append]
      refine ⟨rfl, _, rfl, ?_⟩
      have hc : c = 45 := by
        have := of_decide_eq_true h3
        apply UInt8.toNat_inj.1
        show c.toNat = 45
        omega
      subst hc
      have : validL (45 :: r) = false := by simp [validL]
      rw [this]; rfl
    | false =>
      refine HW.cond (t := false) rfl (HW.skip ?_)
      show HW Tryd.prog _ _ _ _
      refine HW.seq (HW.seq (HW.region ?_))
      refine HL.op rfl ?_
      try simp only [killFr, List.foldl, put, frame0, h37, List.length, List.replicate, Nat.sub, List.append, List.set, HX.ev, List.getElem?_cons_succ, List.getElem?_cons_zero, Option.getD_some, HAppend.hAppend, Append.append]
      refine HL.op rfl ?_
      try simp only [killFr, List.foldl, put, frame0, h37, List.length, List.replicate, Nat.sub, List.append, List.set, HX.ev, List.getElem?_cons_succ, List.getElem?_cons_zero, Option.getD_some, HAppend.hAppend, Append.append]
      refine HL.op rfl (HL.nil ?_)
      try simp only [killFr, List.foldl, put, frame0, h37, List.length, List.replicate, Nat.sub, List.append, List.set, HX.ev, List.getElem?_cons_succ, List.getElem?_cons_zero, Option.getD_some, HAppend.hAppend, Append.append]
      show HW Tryd.prog _ _ _ _
      refine HW.block (HW.loop (I9 (c :: r)) (c :: r).length ⟨0, by simp, by simp, rfl, fun k c h => absurd h (by omega), ?_⟩ ?_)
      · unfold base9
        repeat first | exact Less.nil | refine Less.undef _ ?_ | refine Less.keep _ ?_
      rintro n fr hs ⟨i, hi, hn, rfl, hpre, hL⟩
      refine HW.less hL ?_
      unfold base9
      refine HW.seq (HW.region (HL.op (v := .bool (decide ((i : Int) < ((c :: r).length : Nat)))) rfl (HL.nil ?_)))
      try simp only [killFr, List.foldl, put, frame0, h37, List.length, List.replicate, Nat.sub, List.append, List.set, HX.ev, List.getElem?_cons_succ, List.getElem?_cons_zero, Option.getD_some, HAppend.hAppend, Append.append]
      cases h4 : decide ((i : Int) < ((c :: r).length : Nat)) with
      | false =>
        have hil : i = (c :: r).length := by have := of_decide_eq_false h4; omega
        refine HW.seq (HW.cond (t := false) rfl (HW.exit ?_))
        simp only [HThen, HBlock, if_true]
        refine HW.seq (HW.region (HL.op rfl (HL.nil (HW.ret ?_))))
        try simp only [killFr, List.foldl, put, frame0, h37, List.length, List.replicate, Nat.sub, List.append, List.set, HX.ev, List.getElem?_cons_succ, List.getElem?_cons_zero, Option.getD_some, HAppend.hAppend, Append.append]
        refine ⟨rfl, _, rfl, ?_⟩
        have : validL (c :: r) = true := validL_true (by simp) hl h3 fun k d hk => hpre k d (by have := lt_of_get hk; omega) hk
        rw [this]; rfl
      | true =>
        have hil : i < (c :: r).length := by have := of_decide_eq_true h4; omega
        obtain ⟨c', hc'⟩ : ∃ c', (c :: r)[i]? = some c' := ⟨_, List.getElem?_eq_getElem hil⟩
        refine HW.seq (HW.cond (t := true) rfl (HW.skip ?_))
        show HW Tryd.prog _ _ _ _
        refine HW.seq (HW.block (HW.seq (HW.region ?_)))
        refine HL.op rfl ?_
        try simp only [killFr, List.foldl, put, frame0, h37, List.length, List.replicate, Nat.sub, List.append, List.set, HX.ev, List.getElem?_cons_succ, List.getElem?_cons_zero, Option.getD_some, HAppend.hAppend, Append.append]
        refine HL.op rfl (HL.nil ?_)
        try simp only [killFr, List.foldl, put, frame0, h37, List.length, List.replicate, Nat.sub, List.append, List.set, HX.ev, List.getElem?_cons_succ, List.getElem?_cons_zero, Option.getD_some, HAppend.hAppend, Append.append]
        show HW Tryd.prog _ _ _ _
        refine HW.seq (HW.region ?_)
        refine HL.op rfl ?_
        try simp only [killFr, List.foldl, put, frame0, h37, List.length, List.replicate, Nat.sub, List.append, List.set, HX.ev, List.getElem?_cons_succ, List.getElem?_cons_zero, Option.getD_some, HAppend.hAppend, Append.append]
        refine HL.op rfl ?_
        try simp only [killFr, List.foldl, put, frame0, h37, List.length, List.replicate, Nat.sub, List.append, List.set, HX.ev, List.getElem?_cons_succ, List.getElem?_cons_zero, Option.getD_some, HAppend.hAppend, Append.append]
        refine HL.op (v := .int .u8 c'.toNat) (congrArg (same []) (hidx hc')) ?_
        try simp only [killFr, List.foldl, put, frame0, h37, List.length, List.replicate, Nat.sub, List.append, List.set, HX.ev, List.getElem?_cons_succ, List.getElem?_cons_zero, Option.getD_some, HAppend.hAppend, Append.append]
        refine HL.call (g := 52) (xs := [.int .u8 c'.toNat]) rfl (HC.call ok52 (may c' []) ?_)
        rintro v hs' ⟨rfl, rfl⟩
        try simp only [killFr, List.foldl, put, frame0, h37, List.length, List.replicate, Nat.sub, List.append, List.set, HX.ev, List.getElem?_cons_succ, List.getElem?_cons_zero, Option.getD_some, HAppend.hAppend, Append.append]
        refine HL.op (v := .bool (!mayB c'.toNat)) rfl (HL.nil ?_)
        try simp only [killFr, List.foldl, put, frame0, h37, List.length, List.replicate, Nat.sub, List.append, List.set, HX.ev, List.getElem?_cons_succ, List.getElem?_cons_zero, Option.getD_some, HAppend.hAppend, Append.append]
        show HW Tryd.prog _ _ _ _
        cases hm : mayB c'.toNat with
        | false =>
          refine HW.cond (t := true) rfl (HW.seq (HW.region (HL.op rfl (HL.nil (HW.ret ?_)))))
          try simp only [killFr, List.foldl, put, frame0, h37, List.length, List.replicate, Nat.sub, List.append, List.set, HX.ev, List.getElem?_cons_succ, List.getElem?_cons_zero, Option.getD_some, HAppend.hAppend, Append.append]
          refine ⟨rfl, _, rfl, ?_⟩
          have : validL (c :: r) = false := validL_false hc' hm
          rw [this]; rfl
        | true =>
          refine HW.cond (t := false) rfl (HW.skip ?_)
          show HW Tryd.prog _ _ _ _
          refine HW.region ?_
          refine HL.op (v := .int .i64 ((i + 1 : Nat) : Int)) (congrArg (same []) (hadd1 (by omega))) ?_
          try simp only [killFr, List.foldl, put, frame0, h37, List.length, List.replicate, Nat.sub, List.append, List.set, HX.ev, List.getElem?_cons_succ, List.getElem?_cons_zero, Option.getD_some, HAppend.hAppend, Append.append]
          refine HL.op rfl (HL.nil ?_)
          try simp only [killFr, List.foldl, put, frame0, h37, List.length, List.replicate, Nat.sub, List.append, List.set, HX.ev, List.getElem?_cons_succ, List.getElem?_cons_zero, Option.getD_some, HAppend.hAppend, Append.append]
          refine ⟨(c :: r).length - (i + 1), by omega, i + 1, by omega, rfl, rfl, ?_, ?_⟩
          · intro k d hk hd
            rcases Nat.lt_or_ge k i with h | h
            · exact hpre k d h hd
            · have : k = i := by omega
              subst this
              rw [hc'] at hd; cases hd; exact hm
          · unfold base9
            repeat first | exact Less.nil | refine Less.undef _ ?_ | refine Less.keep _ ?_
end V
end Go.Proofs.YthihchoccpnfeaaDoor
