/-
  HL: what is one's own is written over by copy.
-/
import Derived.Test.YteedmbmgemiheaaDoorKYHLHand
import Derived.Test.YteedmbmgemiheaaDoorKYHLKeep
namespace Go.HL
open Go
theorem firstN_rd {hs : HS} {y : HV} {m k : Nat} {ys : List HV} (R : Rd hs 1 y m ys) (hk : k ≤ m) (h0 : k ≠ 0) : firstN hs 1 k y = some (ys.take k) := by
  obtain ⟨h1, ⟨rfl, rfl⟩ | ⟨h, o, rfl, rfl⟩ | ⟨h, o, cap, cs, ro, opn, olds, rfl, hb, hl, hx, _⟩⟩ := R
  · omega
  · omega
  · simp only [firstN, hb]
    rw [if_neg h0, if_pos ⟨trivial, by omega⟩, ← hx, List.take_take, Nat.mul_one, Nat.mul_one, Nat.mul_one, Nat.min_eq_left hk]
theorem hlen_rd {hs : HS} {y : HV} {m s : Nat} {ys : List HV} (R : Rd hs s y m ys) : HL.hlen y = some m := by
  obtain ⟨h1, ⟨rfl, rfl⟩ | ⟨h, o, rfl, rfl⟩ | ⟨h, o, cap, cs, ro, opn, olds, rfl, hb, hl, hx, _⟩⟩ := R <;> rfl
/-- what is one's own is written over from its beginning. -/
theorem my_copy {hs : HS} {l : List SA} {v y : HV} {n m : Nat} {xs ys : List HV} (H : Sat hs (My 1 v n xs :: l)) (R : Rd hs 1 y m ys) :
    ∃ hs', hcopy hs 1 v y = some (.int .i64 (min m n : Nat), hs') ∧ Sat hs' (My 1 v n (ys.take (min m n) ++ xs.drop (min m n)) :: l) := by
  have hl := hlen_rd R
  have hys := R.1
  by_cases h0 : min m n = 0
  · refine ⟨hs, ?_, by rw [h0, List.take_zero, List.drop_zero, List.nil_append]; exact H⟩
    obtain ⟨a, ⟨h0', hc⟩, hB⟩ := H.open1
    rcases hc with ⟨rfl, _⟩ | ⟨h, o, rfl, rfl⟩ | ⟨h, o, cs, olds, rfl, _⟩ | ⟨h, o, c, cs, opn, olds, rfl, _⟩
    · simp only [hcopy, hl, h0]; simp
    · simp only [hcopy, hl]; rw [if_pos h0, h0]; rfl
    · simp only [hcopy, hl]; rw [if_pos h0, h0]; rfl
    · simp only [hcopy, hl]; rw [if_pos h0, h0]; rfl
  · have hf := firstN_rd R (Nat.min_le_left m n) h0
    obtain ⟨a, ⟨hxl, hc⟩, hB⟩ := H.open1
    have key : ∀ (o : Nat) (cs : List HV), (o + n) * 1 ≤ cs.length → (cs.drop (o * 1)).take (n * 1) = xs → (o + n) * 1 ≤ (overw cs (o * 1) (ys.take (min m n))).length ∧ ((overw cs (o * 1) (ys.take (min m n))).drop (o * 1)).take (n * 1) = ys.take (min m n) ++ xs.drop (min m n) := by
      intro o cs h1 h2
      rw [Nat.mul_one] at h1 h2 ⊢
      rw [Nat.mul_one] at h2 ⊢
      have e1 : (ys.take (min m n)).length = min m n := by rw [List.length_take]; omega
      unfold overw
      refine ⟨by simp only [List.length_append, List.length_take, List.length_drop]; omega, ?_⟩
      rw [List.append_assoc, List.drop_append, List.drop_eq_nil_of_le (by rw [List.length_take]; omega), List.nil_append, List.length_take, show o - min o cs.length = 0 by omega, List.drop_zero, e1]
      rw [List.take_append, e1, List.take_of_length_le (by omega)]
      congr 1
      rw [← h2, List.drop_take, List.drop_drop, Nat.mul_one]
    rcases hc with ⟨rfl, rfl⟩ | ⟨h, o, rfl, rfl⟩ | ⟨h, o, cs, olds, rfl, hp, hle, hx⟩ | ⟨h, o, c, cs, opn, olds, rfl, hnc, hp, hle, hx⟩
    · omega
    · omega
    · have P := hB _ hp
      obtain ⟨g1, g2⟩ := key o cs hle hx
      refine ⟨(killAll olds hs).set h (some (.cells 1 (overw cs (o * 1) (ys.take (min m n))) false true [])), ?_, ?_⟩
      · simp only [hcopy, hl]
        rw [if_neg h0, hf, P.get]
        simp only
        rw [if_pos ⟨trivial, by omega, by omega⟩]
      · exact (P.put (cs' := overw cs (o * 1) (ys.take (min m n))) (ro' := false) (opn' := true)).imp fun r hr => ⟨by simp only [List.length_append, List.length_take, List.length_drop]; omega, .inr (.inr (.inl ⟨h, o, _, [], rfl, hr, g1, g2⟩))⟩
    · have P := hB _ hp
      obtain ⟨g1, g2⟩ := key o cs hle hx
      refine ⟨(killAll olds hs).set h (some (.cells 1 (overw cs (o * 1) (ys.take (min m n))) false opn [])), ?_, ?_⟩
      · simp only [hcopy, hl]
        rw [if_neg h0, hf, P.get]
        simp only
        rw [if_pos ⟨trivial, by omega, by omega⟩]
      · exact (P.put (cs' := overw cs (o * 1) (ys.take (min m n))) (ro' := false) (opn' := opn)).imp fun r hr => ⟨by simp only [List.length_append, List.length_take, List.length_drop]; omega, .inr (.inr (.inr ⟨h, o, c, _, opn, [], rfl, hnc, hr, g1, g2⟩))⟩
section
variable {C : HV → HS → Prop}
theorem sl_copy {hs : HS} {l : List SA} {v y : HV} {n m : Nat} {xs ys : List HV} (H : Sat hs (My 1 v n xs :: l)) (R : Rd hs 1 y m ys)
    (next : ∀ hs', Sat hs' (My 1 v n (ys.take (min m n) ++ xs.drop (min m n)) :: l) → C (.int .i64 (min m n : Nat)) hs') : opC (hcopy hs 1 v y) C := by
  obtain ⟨hs', e, h⟩ := my_copy H R
  exact ⟨_, _, e, next _ h⟩
end
end Go.HL
