/-
  intake, plainly: how little is held, how much is told.
-/
import Derived.Test.YtccfcegmaejlnaaJ
namespace Go.Proofs.Ytccfcegmaejlnaa
open Go Go.HL
set_option maxRecDepth 100000
set_option linter.unusedSimpArgs false
theorem skipL_line : ∀ (b : List UInt8) (h : Bool), (skipL h b).2.1 = true →
    (h = true ∧ b.head? = some 10 ∧ (skipL h b).2.2 = b.tail) ∨ (¬ (h = true ∧ b.head? = some 10) ∧ ∃ k, lineAt b = some k ∧ (skipL h b).2.2 = b.drop (k + 2))
  | [], h, e => by simp [skipL] at e
  | c :: r, h, e => by
    by_cases hc : h = true ∧ c = 10
    · left
      refine ⟨hc.1, by rw [hc.2]; rfl, ?_⟩
      unfold skipL
      rw [if_pos (by simp [hc])]; rfl
    · right
      have hs : skipL h (c :: r) = skipL (c == 13) r := by
        rw [skipL, if_neg]
        simp only [Bool.and_eq_true, beq_iff_eq]; exact hc
      rw [hs] at e ⊢
      refine ⟨by simpa using hc, ?_⟩
      rcases skipL_line r (c == 13) e with ⟨h1, h2, h3⟩ | ⟨h1, k, h2, h3⟩
      · refine ⟨0, ?_, ?_⟩
        · unfold lineAt; rw [if_pos ⟨by simpa using h1, h2⟩]
        · rw [h3]; simp [List.drop_one]
      · refine ⟨k + 1, ?_, ?_⟩
        · unfold lineAt
          rw [if_neg (by simpa using h1), h2]; rfl
        · rw [h3]; rfl
theorem skipL_none : ∀ (b : List UInt8) (h : Bool), (skipL h b).2.1 = false → (skipL h b).2.2 = []
  | [], h, _ => rfl
  | c :: r, h, e => by
    unfold skipL at e ⊢
    split
    · rename_i hc; rw [if_pos hc] at e; cases e
    · rename_i hc; rw [if_neg hc] at e; exact skipL_none r _ e
theorem skipL_one {b : List UInt8} {h : Bool} (e : (skipL h b).2.1 = true) : (skipL h b).2.2.length + 1 ≤ b.length := by
  rcases skipL_line b h e with ⟨_, h2, h3⟩ | ⟨_, k, h2, h3⟩
  · rw [h3]
    cases b with
    | nil => simp at h2
    | cons c r => simp
  · have := lineAt_le h2
    rw [h3, List.length_drop]; omega
theorem lineAt_take : ∀ {b : List UInt8} {k n : Nat}, lineAt b = some k → k + 2 ≤ n → lineAt (b.take n) = some k
  | [], k, n, h, _ => by simp [lineAt] at h
  | c :: r, k, 0, h, hn => by omega
  | c :: r, k, n + 1, h, hn => by
    rw [List.take_succ_cons]
    unfold lineAt at h ⊢
    split at h
    · rename_i hc
      cases h
      rw [if_pos ⟨hc.1, by
        cases r with
        | nil => simp at hc
        | cons d r =>
          cases n with
          | zero => omega
          | succ n => simpa using hc.2⟩]
    · rename_i hc
      cases hr : lineAt r with
      | none => rw [hr] at h; simp at h
      | some j =>
        rw [hr] at h
        simp only [Option.map_some, Option.some.injEq] at h
        have hj := lineAt_le hr
        rw [if_neg (by
          rintro ⟨h1, h2⟩
          refine hc ⟨h1, ?_⟩
          cases r with
          | nil => simp at hj
          | cons d r =>
            cases n with
            | zero => omega
            | succ n => simpa using h2), lineAt_take hr (by omega)]
        simp only [Option.map_some, Option.some.injEq]; exact h
theorem lineAt_before : ∀ {b : List UInt8} {k : Nat}, lineAt b = some k → lineAt (b.take k) = none
  | [], k, h => by simp [lineAt] at h
  | c :: r, 0, h => by simp [lineAt]
  | c :: r, k + 1, h => by
    rw [List.take_succ_cons]
    unfold lineAt at h ⊢
    split at h
    · simp at h
    · rename_i hc
      cases hr : lineAt r with
      | none => rw [hr] at h; simp at h
      | some j =>
        rw [hr] at h
        simp only [Option.map_some, Option.some.injEq] at h
        obtain rfl : j = k := by omega
        rw [if_neg (by
          rintro ⟨h1, h2⟩
          refine hc ⟨h1, ?_⟩
          cases r with
          | nil => simp at h2
          | cons d r =>
            cases j with
            | zero => simp at h2
            | succ n => simpa using h2), lineAt_before hr]
        rfl

/-- how an intake stands to what came, what was told, how much it may hold. -/
structure Inv (mx : Nat) (s : St) (came told bound size g : Nat) : Prop where
  st : s.st ≤ 3
  most : s.most = mx ∧ mx ≤ 65535
  size_ : s.size ≤ 4294967295 ∧ size ≤ 4294967295 ∧ s.left ≤ 4294967297
  acc : told + s.held.length + g ≤ came
  s0 : s.st = 0 → bound = 223
  s1 : s.st = 1 → bound = 223 ∧ (s.ended = false → s.held = [] ∧ 224 ≤ g) ∧ (s.ended = true → 225 ≤ g)
  s2 : s.st = 2 → s.size = size ∧ size ≤ mx ∧ bound = size + 1
  s3 : s.st = 3 → bound = 223 ∧ mx < size ∧ size + 2 ≤ g + s.left ∧ (0 < s.left → s.held = [])
variable {mx came told bound size g : Nat} {s : St}
theorem inv_new (h : 1 ≤ mx ∧ mx ≤ 65535) : Inv mx (newS mx) 0 0 223 0 0 :=
  ⟨by simp [newS], ⟨rfl, h.2⟩, by simp [newS], by simp [newS], fun _ => rfl, by simp [newS], by simp [newS], by simp [newS]⟩
theorem inv_feed (I : Inv mx s came told bound size g) (b : List UInt8) : ∃ g', Inv mx (feedF s b) (came + b.length) told bound size g' := by
  obtain ⟨h1, h2, h3, h4, h5, h6, h7, h8⟩ := I
  by_cases c1 : s.st = 1 ∧ s.ended = false
  · obtain ⟨e1, e2⟩ := c1
    rw [feedF1 e1 e2]
    obtain ⟨q1, q2, q3⟩ := h6 e1
    obtain ⟨q4, q5⟩ := q2 e2
    have ql := skipL_len s.half b
    refine ⟨g + (b.length - (skipL s.half b).2.2.length), h1, h2, h3, ?_, fun h => by simp only at h; omega, fun _ => ⟨q1, fun h => ?_, fun h => ?_⟩, fun h => by simp only at h; omega, fun h => by simp only at h; omega⟩
    · simp only [q4, List.nil_append] at h4 ⊢; simp at h4; omega
    · simp only at h
      exact ⟨by simp only [q4, List.nil_append]; exact skipL_none b _ h, by omega⟩
    · simp only at h
      have := skipL_one h
      omega
  · by_cases c3 : s.st = 3
    · rw [feedF2 c3]
      obtain ⟨q1, q2, q3, q4⟩ := h8 c3
      refine ⟨g + min s.left b.length, h1, h2, by simp only; omega, ?_, fun h => by simp only at h; omega, fun h => by simp only at h; omega, fun h => by simp only at h; omega, fun _ => ⟨q1, q2, by simp only; omega, fun h => ?_⟩⟩
      · simp only [List.length_append, List.length_drop]; omega
      · simp only at h ⊢
        rw [q4 (by omega), List.nil_append, List.drop_eq_nil_of_le (by omega)]
    · rw [feedF3 (by
        by_cases e : s.st = 1
        · right
          cases he : s.ended with
          | true => rfl
          | false => exact absurd ⟨e, he⟩ c1
        · exact .inl e) c3]
      refine ⟨g, h1, h2, h3, by simp only [List.length_append]; omega, h5, fun h => ?_, h7, fun h => absurd h c3⟩
      obtain ⟨q1, q2, q3⟩ := h6 h
      refine ⟨q1, fun h' => absurd ⟨h, h'⟩ c1, q3⟩
/-- how much an item tells. -/
def tells (size : Nat) (i : It) : Nat := if i.kind = 1 then i.text.length + 2 else if i.kind = 2 then 225 else size + 2
theorem bodyF_cases (b : List UInt8) (n : Nat) (hn : n ≤ b.length) : ((bodyF b n).1 = 3 ∧ (bodyF b n).2.length = n) ∨ (bodyF b n).1 = 5 := by
  unfold bodyF
  split
  · exact .inl ⟨rfl, by simp; omega⟩
  · exact .inr rfl
theorem inv_next (I : Inv mx s came told bound size g) :
    match nextS s with
    | (none, s') => (∃ g', Inv mx s' came told bound size g') ∧ s'.held.length ≤ bound ∧ told + s'.held.length ≤ came
    | (some i, s') => (∃ g', Inv mx s' came (told + tells size i) 223 size g') ∧ (i.kind = 1 ∧ i.text.length ≤ 222 ∧ lineAt i.text = none ∨ i.kind = 2 ∨ (i.kind = 3 ∧ i.body.length = size ∧ size ≤ mx) ∨ (i.kind = 5 ∧ size ≤ mx) ∨ (i.kind = 4 ∧ mx < size)) ∧
        2 * s'.held.length + (if s'.st = 0 then 0 else 1) < 2 * s.held.length + (if s.st = 0 then 0 else 1) := by
  obtain ⟨h1, h2, h3, h4, h5, h6, h7, h8⟩ := I
  obtain ⟨most, st, held, sz, left, half, ended⟩ := s
  simp only at h1 h2 h3 h4 h5 h6 h7 h8
  have mk0 : ∀ (hd : List UInt8) (hf en : Bool) (lf t : Nat), lf ≤ 4294967297 → t + hd.length ≤ came → Inv mx ⟨most, 0, hd, sz, lf, hf, en⟩ came t 223 size 0 := fun hd hf en lf t hl ht =>
    ⟨by simp, h2, by simp only; omega, by simpa using ht, fun _ => rfl, fun h => by simp at h, fun h => by simp at h, fun h => by simp at h⟩
  have hst : st = 0 ∨ st = 1 ∨ st = 2 ∨ st = 3 := by omega
  rcases hst with rfl | rfl | rfl | rfl
  · unfold nextS
    rw [if_pos rfl]
    simp only
    cases hln : lineAt (held.take (min 224 held.length)) with
    | some k =>
      have hk := lineAt_le hln
      rw [List.length_take] at hk
      have hb := lineAt_before hln
      rw [List.take_take, Nat.min_eq_left (by omega)] at hb
      refine ⟨⟨0, mk0 _ _ _ _ _ h3.2.2 ?_⟩, .inl ⟨rfl, by simp; omega, hb⟩, ?_⟩
      · simp [tells]; omega
      · simp; omega
    | none =>
      simp only
      by_cases hlen : held.length < 224
      · rw [if_pos hlen]
        refine ⟨⟨g, h1, h2, h3, h4, h5, h6, h7, h8⟩, ?_, by simp only; omega⟩
        rw [h5 rfl]; simp only; omega
      · rw [if_neg hlen]
        by_cases he : (skipL false held).2.1 = true
        · rw [if_pos he]
          have hc : (skipL false held).2.2.length + 225 ≤ held.length := by
            rcases skipL_line held false he with ⟨hf, _⟩ | ⟨_, k, hk1, hk2⟩
            · cases hf
            · have hle := lineAt_le hk1
              have : ¬ k + 2 ≤ 224 := fun hh => by
                have := lineAt_take hk1 (n := min 224 held.length) (by omega)
                rw [this] at hln; cases hln
              rw [hk2, List.length_drop]; omega
          refine ⟨⟨0, mk0 _ _ _ _ _ h3.2.2 ?_⟩, .inr (.inl rfl), ?_⟩
          · simp [tells]; omega
          · simp; omega
        · rw [if_neg he]
          have hn := skipL_none held false (by simpa using he)
          refine ⟨⟨held.length, by simp, h2, h3, by simp [hn]; omega, fun h => by simp at h, fun _ => ⟨h5 rfl, fun _ => ⟨hn, by omega⟩, fun h => by simp at h⟩, fun h => by simp at h, fun h => by simp at h⟩, by simp [hn], by simp [hn]; omega⟩
  · unfold nextS
    rw [if_neg (by simp), if_pos rfl]
    simp only
    obtain ⟨q1, q2, q3⟩ := h6 rfl
    cases ended with
    | true =>
      rw [if_pos rfl]
      have := q3 rfl
      exact ⟨⟨0, mk0 _ _ _ _ _ h3.2.2 (by simp [tells]; omega)⟩, .inr (.inl rfl), by simp⟩
    | false =>
      rw [if_neg (by simp)]
      have := q2 rfl
      exact ⟨⟨g, h1, h2, h3, h4, h5, h6, h7, h8⟩, by rw [this.1]; simp, by rw [this.1] at h4 ⊢; simp at h4 ⊢; omega⟩
  · unfold nextS
    rw [if_neg (by simp), if_neg (by simp), if_pos rfl]
    simp only
    obtain ⟨q1, q2, q3⟩ := h7 rfl
    by_cases hlen : held.length < sz + 2
    · rw [if_pos hlen]
      exact ⟨⟨g, h1, h2, h3, h4, h5, h6, h7, h8⟩, by simp only; omega, by simp only; omega⟩
    · rw [if_neg hlen]
      have bc := bodyF_cases (held.take (sz + 2)) sz (by simp; omega)
      refine ⟨⟨0, mk0 _ _ _ _ _ h3.2.2 ?_⟩, ?_, ?_⟩
      · have : tells size ⟨(bodyF (held.take (sz + 2)) sz).1, [], (bodyF (held.take (sz + 2)) sz).2⟩ = size + 2 := by
          unfold tells
          simp only
          rcases bc with ⟨e, _⟩ | e <;> rw [e] <;> rfl
        rw [this]; simp only [List.length_drop]; omega
      · rcases bc with ⟨e, e2⟩ | e
        · exact .inr (.inr (.inl ⟨e, by simp only; omega, q2⟩))
        · exact .inr (.inr (.inr (.inl ⟨e, q2⟩)))
      · simp; omega
  · unfold nextS
    rw [if_neg (by simp), if_neg (by simp), if_neg (by simp)]
    simp only
    obtain ⟨q1, q2, q3, q4⟩ := h8 rfl
    by_cases hl : 0 < left
    · rw [if_pos hl]
      have := q4 hl
      exact ⟨⟨g, h1, h2, h3, h4, h5, h6, h7, h8⟩, by rw [this]; simp, by rw [this] at h4 ⊢; simp at h4 ⊢; omega⟩
    · rw [if_neg hl]
      exact ⟨⟨0, mk0 _ _ _ _ _ h3.2.2 (by simp [tells]; omega)⟩, .inr (.inr (.inr (.inr ⟨rfl, q2⟩))), by simp⟩
theorem inv_body (I : Inv mx s came told bound size g) (n : Int) : if (bodyS s n).2 = 0 then 0 ≤ n ∧ n ≤ 4294967295 ∧ ∃ g', Inv mx (bodyS s n).1 came told (if n ≤ (mx : Nat) then n.toNat + 1 else 223) n.toNat g' else (bodyS s n).1 = s := by
  obtain ⟨h1, h2, h3, h4, h5, h6, h7, h8⟩ := I
  unfold bodyS
  by_cases c : n < 0 ∨ 4294967295 < n ∨ s.st ≠ 0
  · rw [if_pos c, if_neg (by simp)]
  · rw [if_neg c]
    have c0 : s.st = 0 := by omega
    by_cases c2 : n ≤ (s.most : Nat)
    · rw [if_pos c2, if_pos rfl, if_pos (by rw [← h2.1]; exact c2)]
      refine ⟨by omega, by omega, g, by simp, h2, by simp only; omega, h4, fun h => by simp at h, fun h => by simp at h, fun _ => ⟨rfl, by omega, rfl⟩, fun h => by simp at h⟩
    · rw [if_neg c2, if_pos rfl, if_neg (by rw [← h2.1]; exact c2)]
      refine ⟨by omega, by omega, g + min (n.toNat + 2) s.held.length, by simp, h2, by simp only; omega, by simp only [List.length_drop]; omega, fun h => by simp at h, fun h => by simp at h, fun h => by simp at h, fun _ => ⟨rfl, by omega, by simp only; omega, fun h => ?_⟩⟩
      simp only at h ⊢
      exact List.drop_eq_nil_of_le (by omega)
end Go.Proofs.Ytccfcegmaejlnaa
