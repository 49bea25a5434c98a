/-
  HL: slices of structs: an element's cells.
-/
import Derived.Test.YteedmbmgemiheaaDoorKYHLKeep
namespace Go.HL
open Go
theorem flat_len {α : Type} {f : α → List HV} {s : Nat} (hf : ∀ a, (f a).length = s) : ∀ A : List α, (A.flatMap f).length = A.length * s
  | [] => by simp
  | a :: A => by rw [List.flatMap_cons, List.length_append, hf, flat_len hf A, List.length_cons, Nat.succ_mul]; omega
theorem flat_part {α : Type} {f : α → List HV} {s : Nat} (hf : ∀ a, (f a).length = s) : ∀ {A : List α} {i : Nat} {a : α}, A[i]? = some a → ((A.flatMap f).drop (i * s)).take s = f a
  | [], i, a, h => by simp at h
  | b :: A, 0, a, h => by
    simp at h; subst h
    rw [Nat.zero_mul, List.drop_zero, List.flatMap_cons, List.take_append, hf, Nat.sub_self, List.take_zero, List.append_nil, List.take_of_length_le (by rw [hf]; omega)]
  | b :: A, i + 1, a, h => by
    rw [List.flatMap_cons, List.drop_append, hf, List.drop_eq_nil_of_le (by rw [hf, Nat.succ_mul]; omega), List.nil_append, show (i + 1) * s - s = i * s by rw [Nat.succ_mul]; omega]
    exact flat_part hf (by simpa using h)
theorem flat_get {α : Type} {f : α → List HV} {s : Nat} (hf : ∀ a, (f a).length = s) {A : List α} {i j : Nat} {a : α} (h : A[i]? = some a) (hj : j < s) : (A.flatMap f)[i * s + j]? = (f a)[j]? := by
  rw [← flat_part hf h, List.getElem?_take_of_lt hj, List.getElem?_drop]
/-- an element of a slice of structs. -/
theorem Rd.idxF {α : Type} {f : α → List HV} {s n : Nat} {hs : HS} {v : HV} {A : List α} (R : Rd hs s v n (A.flatMap f)) (hf : ∀ a, (f a).length = s) (hn : n = A.length) {i : Nat} {a : α} (hi : A[i]? = some a) (k : IntKind) :
    ∃ h o, hindexAddr s v (.int k (i : Nat)) = some (.ptr h o) ∧ (∀ j, j < s → hload none hs (.ptr h (o + j)) = (f a)[j]?) ∧ hload (some s) hs (.ptr h o) = some (.agg (f a)) := by
  obtain ⟨h, o, h1, h2, h3⟩ := R.idx (show i < n by rw [hn]; exact lt_of_get hi) k
  exact ⟨h, o, h1, fun j hj => by rw [h2 j hj, flat_get hf hi hj], by rw [h3, flat_part hf hi]⟩
/-- what a memory's first part says. -/
def base (hs0 : HS) : SA := fun r => ∀ (j : Nat) b, hs0[j]? = some (some b) → r j = some (some b)
theorem Sat.base_get {hs hs0 : HS} {l : List SA} (H : Sat hs (base hs0 :: l)) {j : Nat} {b : HB} (h : hs0[j]? = some (some b)) : hs[j]? = some (some b) := by
  obtain ⟨r, h1, a, c, _, h3, _, h5, _⟩ := H
  exact (h1 j _ (h3 j _ (h5 j b h))).2 b rfl
theorem Sat.base_of (hs0 : HS) : Sat hs0 [base hs0] := by
  exact ⟨fun j => hs0[j]?, fun h o e => ⟨lt_of_get e, fun b hb => by rw [← hb]; exact e⟩, fun j => hs0[j]?, nores, fun h => .inr rfl, Sub.refl _, nores_sub _, fun j b h => h, trivial⟩
theorem Rd.base {hs hs0 : HS} {l : List SA} {s n : Nat} {v : HV} {xs : List HV} (R : Rd hs0 s v n xs) (H : Sat hs (HL.base hs0 :: l)) : Rd hs s v n xs := by
  refine ⟨R.1, ?_⟩
  obtain ⟨_, h1 | h1 | ⟨q, o, cap, cs, ro, opn, olds, rfl, hb, hl, hx⟩⟩ := R
  · exact .inl h1
  · exact .inr (.inl h1)
  · exact .inr (.inr ⟨q, o, cap, cs, ro, opn, olds, rfl, H.base_get hb, hl, hx⟩)
end Go.HL
