/-
  The plain law of AnswersUnlike: of two replies that may be, the bytes of one begin those of the other just where they are alike.
-/
import Derived.Test.YthihchoccpnfeaaDoorC
namespace Go.Proofs.YthihchoccpnfeaaDoor
open Go Go.HL Go.Shelf V
namespace A
set_option maxRecDepth 100000
set_option linter.unusedSimpArgs false

/-- one begins the other. -/
def agree : List UInt8 → List UInt8 → Bool
  | a :: A, b :: B => a == b && agree A B
  | _, _ => true
theorem agree_take : ∀ (A B : List UInt8) (n : Nat), n ≤ A.length → n ≤ B.length → (n = A.length ∨ n = B.length) → (A.take n == B.take n) = agree A B
  | [], B, n, h1, _, _ => by
    have : n = 0 := by simpa using h1
    subst this; simp [agree]
  | a :: A, [], n, _, h2, _ => by
    have : n = 0 := by simpa using h2
    subst this; simp [agree]
  | a :: A, b :: B, n, h1, h2, h3 => by
    cases n with
    | zero => simp at h3
    | succ n =>
      simp only [List.take_succ_cons, agree]
      rw [← agree_take A B n (by simpa using h1) (by simpa using h2) (by simpa using h3)]
      rfl
theorem agree_refl : ∀ A : List UInt8, agree A A = true
  | [] => rfl
  | a :: A => by simp [agree, agree_refl A]
theorem agree_split {p : UInt8 → Bool} {d d' : UInt8} {R R' : List UInt8} (hd : p d = false) (hd' : p d' = false) : ∀ {X X' : List UInt8}, X.all p = true → X'.all p = true → agree (X ++ d :: R) (X' ++ d' :: R') = true → X = X' ∧ d = d' ∧ agree R R' = true
  | [], [], _, _, h => by simpa [agree] using h
  | [], x :: X', _, h2, h => by
    simp only [List.all_cons, Bool.and_eq_true] at h2
    simp only [List.nil_append, List.cons_append, agree, Bool.and_eq_true, beq_iff_eq] at h
    rw [h.1, h2.1] at hd; simp at hd
  | x :: X, [], h1, _, h => by
    simp only [List.all_cons, Bool.and_eq_true] at h1
    simp only [List.nil_append, List.cons_append, agree, Bool.and_eq_true, beq_iff_eq] at h
    rw [← h.1, h1.1] at hd'; simp at hd'
  | x :: X, y :: X', h1, h2, h => by
    simp only [List.all_cons, Bool.and_eq_true] at h1 h2
    simp only [List.cons_append, agree, Bool.and_eq_true, beq_iff_eq] at h
    obtain ⟨r1, r2, r3⟩ := agree_split hd hd' h1.2 h2.2 h.2
    exact ⟨by rw [h.1, r1], r2, r3⟩
theorem agree_len : ∀ {A B : List UInt8}, agree A B = true → A.length = B.length → A = B
  | [], [], _, _ => rfl
  | [], _ :: _, _, h => by simp at h
  | _ :: _, [], _, h => by simp at h
  | a :: A, b :: B, h, hl => by
    simp only [agree, Bool.and_eq_true, beq_iff_eq] at h
    rw [h.1, agree_len h.2 (by simpa using hl)]

/-! numbers -/
theorem dec_big {m : Nat} (h : ¬ m < 10) : Lib.decDigits m = Lib.decDigits (m / 10) ++ [UInt8.ofNat (48 + m % 10)] := by rw [Lib.decDigits, dif_neg h]
def isDig (c : UInt8) : Bool := decide (48 ≤ c.toNat) && decide (c.toNat ≤ 57)
def val (l : List UInt8) : Nat := l.foldl (fun a c => 10 * a + (c.toNat - 48)) 0
theorem of48 {d : Nat} (h : d < 10) : (UInt8.ofNat (48 + d)).toNat = 48 + d := by
  have : (UInt8.ofNat (48 + d)).toNat = (48 + d) % 256 := rfl
  omega
theorem dec_dig (u : Nat) : (Lib.decDigits u).all isDig = true := by
  induction u using Nat.strongRecOn with
  | _ u ih =>
    by_cases h : u < 10
    · rw [Lib.decDigits_one h]
      simp only [List.all_cons, List.all_nil, isDig, of48 h]
      simp; omega
    · rw [dec_big h, List.all_append, ih (u / 10) (by omega)]
      simp only [List.all_cons, List.all_nil, isDig, of48 (show u % 10 < 10 by omega)]
      simp; omega
theorem dec_val (u : Nat) : val (Lib.decDigits u) = u := by
  induction u using Nat.strongRecOn with
  | _ u ih =>
    by_cases h : u < 10
    · rw [Lib.decDigits_one h]
      simp only [val, List.foldl_cons, List.foldl_nil, of48 h]; omega
    · rw [dec_big h]
      unfold val
      rw [List.foldl_append]
      have := ih (u / 10) (by omega)
      unfold val at this
      rw [this]
      simp only [List.foldl_cons, List.foldl_nil, of48 (show u % 10 < 10 by omega)]
      omega
theorem pr_inj {a b : Int} (ha : 0 ≤ a) (hb : 0 ≤ b) (h : ansPr a = ansPr b) : a = b := by
  unfold ansPr at h
  rw [if_neg (by omega), if_neg (by omega)] at h
  have := congrArg val h
  rw [dec_val, dec_val] at this
  omega
theorem pr_dig (a : Int) : (ansPr a).all isDig = true := by
  unfold ansPr
  split
  · rfl
  · exact dec_dig _

/-! what stands behind the word -/
def tailF (k id num : Int) (t b : List UInt8) : List UInt8 :=
  if k = 3 ∨ k = 12 then 32 :: (ansPr id ++ 32 :: (ansPr (b.length : Nat) ++ 13 :: 10 :: (b ++ [13, 10])))
  else if k = 16 then 32 :: (ansPr (b.length : Nat) ++ 13 :: 10 :: (b ++ [13, 10]))
  else if k = 1 then 32 :: (ansPr id ++ 13 :: [10])
  else if k = 2 then 32 :: (t ++ 13 :: [10])
  else if k = 10 ∨ k = 13 then 32 :: (ansPr num ++ 13 :: [10])
  else 13 :: [10]
theorem put_eq (k id num : Int) (t b : List UInt8) : putF k id num t b = wordL k ++ tailF k id num t b := by
  unfold putF tailF
  repeat' split
  all_goals simp
def isLet (c : UInt8) : Bool := !(c == 32) && !(c == 13)
theorem word_let (k : Int) : (wordL k).all isLet = true := by
  unfold wordL
  split
  · rfl
  · have h : words.all (fun w => w.all isLet) = true := by decide
    cases hw : words[k.toNat]? with
    | none => rfl
    | some w => exact List.all_eq_true.1 h w (List.mem_of_getElem? hw)
def delim (k : Int) : UInt8 := if k = 3 ∨ k = 12 ∨ k = 16 ∨ k = 1 ∨ k = 2 ∨ k = 10 ∨ k = 13 then 32 else 13
theorem tail_eq (k id num : Int) (t b : List UInt8) : ∃ R, tailF k id num t b = delim k :: R := by
  unfold tailF delim
  by_cases h1 : k = 3 ∨ k = 12
  · rw [if_pos h1, if_pos (by omega)]; exact ⟨_, rfl⟩
  by_cases h2 : k = 16
  · rw [if_neg h1, if_pos h2, if_pos (by omega)]; exact ⟨_, rfl⟩
  by_cases h3 : k = 1
  · rw [if_neg h1, if_neg h2, if_pos h3, if_pos (by omega)]; exact ⟨_, rfl⟩
  by_cases h4 : k = 2
  · rw [if_neg h1, if_neg h2, if_neg h3, if_pos h4, if_pos (by omega)]; exact ⟨_, rfl⟩
  by_cases h5 : k = 10 ∨ k = 13
  · rw [if_neg h1, if_neg h2, if_neg h3, if_neg h4, if_pos h5, if_pos (by omega)]; exact ⟨_, rfl⟩
  · rw [if_neg h1, if_neg h2, if_neg h3, if_neg h4, if_neg h5, if_neg (by omega)]; exact ⟨_, rfl⟩
theorem delim_not (k : Int) : isLet (delim k) = false := by
  unfold delim; split <;> rfl
theorem kinds_runs : ((List.range 24).all fun i => (List.range 24).all fun j => !((words[i]?).getD [] == (words[j]?).getD []) || i == 0 || j == 0 || i == j || (i == 13 && j == 14) || (i == 14 && j == 13)) = true := by decide
theorem kinds {k k' : Int} (h : wordL k ≠ []) (h' : wordL k' ≠ []) (hw : wordL k = wordL k') : k = k' ∨ (k = 13 ∧ k' = 14) ∨ (k = 14 ∧ k' = 13) := by
  have hb : 1 ≤ k ∧ k < 24 := by
    rcases Decidable.em (k < 1 ∨ 24 ≤ k) with e | e
    · exact absurd (by unfold wordL; rw [if_pos e]) h
    · omega
  have hb' : 1 ≤ k' ∧ k' < 24 := by
    rcases Decidable.em (k' < 1 ∨ 24 ≤ k') with e | e
    · exact absurd (by unfold wordL; rw [if_pos e]) h'
    · omega
  have r := List.all_eq_true.1 kinds_runs k.toNat (by simp; omega)
  have r := List.all_eq_true.1 r k'.toNat (by simp; omega)
  unfold wordL at hw
  rw [if_neg (by omega), if_neg (by omega)] at hw
  rw [hw] at r
  simp at r
  omega

structure May (k id num : Int) (t b : List UInt8) : Prop where
  w : wordL k ≠ []
  id_ : idB k id = true
  num_ : numB k num = true
  t_ : tubeB k t = true
  b_ : bodyB k b.length = true
theorem may_of {k id num : Int} {t b : List UInt8} (h : checkF k id num t b.length = 0) : May k id num t b := by
  unfold checkF at h
  split at h
  · simp at h
  · rename_i hw
    split at h
    · rename_i hh
      simp only [Bool.and_eq_true] at hh
      exact ⟨hw, hh.1.1.1, hh.1.1.2, hh.1.2, hh.2⟩
    · simp at h
theorem tube_let {t : List UInt8} (h : validL t = true) : t.all isLet = true := by
  unfold validL at h
  simp only [Bool.and_eq_true] at h
  rw [List.all_eq_true]
  intro c hc
  have h2 := List.all_eq_true.1 h.2 c hc
  have h3 : ((List.range 256).all fun n => !(mayB n) || isLet (UInt8.ofNat n)) = true := by decide
  have h4 := List.all_eq_true.1 h3 c.toNat (by simpa using c.toNat_lt)
  rw [h2, UInt8.ofNat_toNat] at h4
  simpa using h4

theorem unlike {k id num k' id' num' : Int} {t b t' b' : List UInt8} (m : May k id num t b) (m' : May k' id' num' t' b') (h : agree (putF k id num t b) (putF k' id' num' t' b') = true) : k = k' ∧ id = id' ∧ num = num' ∧ t = t' ∧ b = b' := by
  rw [put_eq, put_eq] at h
  have hk : k = k' := by
    obtain ⟨R, hR⟩ := tail_eq k id num t b
    obtain ⟨R', hR'⟩ := tail_eq k' id' num' t' b'
    have h2 := h
    rw [hR, hR'] at h2
    obtain ⟨e1, e2, _⟩ := agree_split (delim_not k) (delim_not k') (word_let k) (word_let k') h2
    rcases kinds m.w m'.w e1 with e | ⟨e, e'⟩ | ⟨e, e'⟩
    · exact e
    · subst e e'; simp [delim] at e2
    · subst e e'; simp [delim] at e2
  subst hk
  have ht : agree (tailF k id num t b) (tailF k id' num' t' b') = true := by
    obtain ⟨R, hR⟩ := tail_eq k id num t b
    obtain ⟨R', hR'⟩ := tail_eq k id' num' t' b'
    rw [hR, hR'] at h ⊢
    obtain ⟨_, e2, e3⟩ := agree_split (delim_not k) (delim_not k) (word_let k) (word_let k) h
    simp [agree, e3]
  have i1 := m.id_; have i2 := m'.id_; have n1 := m.num_; have n2 := m'.num_; have t1 := m.t_; have t2 := m'.t_; have b1 := m.b_; have b2 := m'.b_
  have d32 : isDig 32 = false := rfl
  have d13 : isDig 13 = false := rfl
  have body : ∀ {X X' : List UInt8}, agree (ansPr (b.length : Nat) ++ 13 :: 10 :: (b ++ [13, 10])) (ansPr (b'.length : Nat) ++ 13 :: 10 :: (b' ++ [13, 10])) = true → b = b' := by
    intro _ _ hh
    obtain ⟨e1, _, e3⟩ := agree_split d13 d13 (pr_dig _) (pr_dig _) hh
    have hl : b.length = b'.length := by have := pr_inj (by omega) (by omega) e1; omega
    have e4 := agree_len e3 (by simp [hl])
    simpa using e4
  unfold idB at i1 i2
  unfold numB at n1 n2
  unfold tubeB at t1 t2
  unfold bodyB at b1 b2
  unfold tailF at ht
  have nil : ∀ {l l' : List UInt8}, decide (((l.length : Nat) : Int) = 0) = true → decide (((l'.length : Nat) : Int) = 0) = true → l = l' := by
    intro l l' e e'
    have e := of_decide_eq_true e; have e' := of_decide_eq_true e'
    rw [List.eq_nil_of_length_eq_zero (by omega : l.length = 0), List.eq_nil_of_length_eq_zero (by omega : l'.length = 0)]
  have tn : ∀ {l l' : List UInt8}, (l == []) = true → (l' == []) = true → l = l' := by
    intro l l' e e'
    rw [eq_of_beq e, eq_of_beq e']
  by_cases h1 : k = 3 ∨ k = 12
  · rw [if_pos (by omega)] at i1 i2
    rw [if_neg (by omega)] at n1 n2
    rw [if_neg (by omega)] at t1 t2
    rw [if_pos h1, if_pos h1] at ht
    simp only [agree, Bool.and_eq_true] at ht
    obtain ⟨e1, _, e3⟩ := agree_split d32 d32 (pr_dig _) (pr_dig _) ht.2
    simp at i1 i2 n1 n2
    exact ⟨rfl, pr_inj (by omega) (by omega) e1, by omega, tn t1 t2, body (X := []) (X' := []) e3⟩
  by_cases h2 : k = 16
  · rw [if_neg (by omega)] at i1 i2
    rw [if_neg (by omega)] at n1 n2
    rw [if_neg (by omega)] at t1 t2
    rw [if_neg h1, if_neg h1, if_pos h2, if_pos h2] at ht
    simp only [agree, Bool.and_eq_true] at ht
    simp at i1 i2 n1 n2
    exact ⟨rfl, by omega, by omega, tn t1 t2, body (X := []) (X' := []) ht.2⟩
  rw [if_neg (by omega)] at b1 b2
  by_cases h3 : k = 1
  · rw [if_pos (by omega)] at i1 i2
    rw [if_neg (by omega)] at n1 n2
    rw [if_neg (by omega)] at t1 t2
    rw [if_neg h1, if_neg h1, if_neg h2, if_neg h2, if_pos h3, if_pos h3] at ht
    simp only [agree, Bool.and_eq_true] at ht
    obtain ⟨e1, _, _⟩ := agree_split d13 d13 (pr_dig _) (pr_dig _) ht.2
    simp at i1 i2 n1 n2
    exact ⟨rfl, pr_inj (by omega) (by omega) e1, by omega, tn t1 t2, nil b1 b2⟩
  rw [if_neg (by omega)] at i1 i2
  by_cases h4 : k = 2
  · rw [if_neg (by omega)] at n1 n2
    rw [if_pos h4] at t1 t2
    rw [if_neg h1, if_neg h1, if_neg h2, if_neg h2, if_neg h3, if_neg h3, if_pos h4, if_pos h4] at ht
    simp only [agree, Bool.and_eq_true] at ht
    obtain ⟨e1, _, _⟩ := agree_split (p := isLet) (by rfl) (by rfl) (tube_let t1) (tube_let t2) ht.2
    simp at i1 i2 n1 n2
    exact ⟨rfl, by omega, by omega, e1, nil b1 b2⟩
  rw [if_neg h4] at t1 t2
  by_cases h5 : k = 10 ∨ k = 13
  · rw [if_pos h5] at n1 n2
    rw [if_neg h1, if_neg h1, if_neg h2, if_neg h2, if_neg h3, if_neg h3, if_neg h4, if_neg h4, if_pos h5, if_pos h5] at ht
    simp only [agree, Bool.and_eq_true] at ht
    obtain ⟨e1, _, _⟩ := agree_split d13 d13 (pr_dig _) (pr_dig _) ht.2
    simp at i1 i2 n1 n2
    exact ⟨rfl, by omega, pr_inj (by omega) (by omega) e1, tn t1 t2, nil b1 b2⟩
  · rw [if_neg h5] at n1 n2
    simp at i1 i2 n1 n2
    exact ⟨rfl, by omega, by omega, tn t1 t2, nil b1 b2⟩
end A
end Go.Proofs.YthihchoccpnfeaaDoor
