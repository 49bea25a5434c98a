/-
  HL: slices whose elements are known, at whatever place of memory.
-/
import Derived.Test.YteedmbmgemiheaaDoorKYHLWp
namespace Go.HL
open Go

/-- v is a slice whose elements, of one cell each, are xs. -/
def SlAt (hs : HS) (v : HV) (xs : List HV) : Prop :=
  (v = .nilSlice ∧ xs = []) ∨ ∃ h o cap cs ro opn olds, v = .slice h o xs.length cap ∧ hs[h]? = some (some (.cells 1 cs ro opn olds)) ∧ ∀ i x, xs[i]? = some x → cs[o + i]? = some x

theorem SlAt.len {hs : HS} {v : HV} {xs : List HV} (h : SlAt hs v xs) : hlenK hs .slice v = some (.int .i64 (xs.length : Nat)) := by
  rcases h with ⟨rfl, rfl⟩ | ⟨h, o, cap, cs, ro, opn, olds, rfl, _, _⟩ <;> rfl

theorem SlAt.sOk {hs : HS} {v : HV} {xs : List HV} (h : SlAt hs v xs) : sOk hs 1 v = true := by
  rcases h with ⟨rfl, rfl⟩ | ⟨h, o, cap, cs, ro, opn, olds, rfl, hb, _⟩
  · rfl
  · simp [HL.sOk, hb]

/-- the place of an element, and what stands there. -/
theorem SlAt.idx {hs : HS} {v : HV} {xs : List HV} (h : SlAt hs v xs) {i : Nat} {x : HV} (hx : xs[i]? = some x) (k : IntKind) : ∃ p, hindexAddr 1 v (.int k (i : Nat)) = some p ∧ hload none hs p = some x := by
  rcases h with ⟨rfl, rfl⟩ | ⟨h, o, cap, cs, ro, opn, olds, rfl, hb, hc⟩
  · simp at hx
  · have hi : i < xs.length := lt_of_get hx
    refine ⟨_, vidx_some hi, ?_⟩
    simp only [hload, hb, Nat.mul_one]
    exact hc i x hx

theorem SlAt.mono {hs hs' : HS} {v : HV} {xs : List HV} (h : SlAt hs v xs) (hg : ∃ g, hs' = hs ++ g) : SlAt hs' v xs := by
  rcases h with ⟨rfl, rfl⟩ | ⟨h, o, cap, cs, ro, opn, olds, rfl, hb, hc⟩
  · exact .inl ⟨rfl, rfl⟩
  · obtain ⟨g, rfl⟩ := hg
    exact .inr ⟨h, o, cap, cs, ro, opn, olds, rfl, by rw [List.getElem?_append_left (lt_of_get hb)]; exact hb, hc⟩

/-- the cells, taken together. -/
theorem SlAt.take {hs : HS} {v : HV} {xs : List HV} (h : SlAt hs v xs) : takeCells hs 1 v = some (xs.length, xs) := by
  rcases h with ⟨rfl, rfl⟩ | ⟨h, o, cap, cs, ro, opn, olds, rfl, hb, hc⟩
  · rfl
  · simp only [takeCells]
    split
    · rename_i h0
      rw [List.eq_nil_of_length_eq_zero h0]; rfl
    · rename_i h0
      rw [hb]
      have hle : o + xs.length ≤ cs.length := by
        have hx : xs[xs.length - 1]? = some (xs[xs.length - 1]'(by omega)) := List.getElem?_eq_getElem (by omega)
        have := lt_of_get (hc _ _ hx)
        omega
      simp only [Nat.mul_one]
      rw [if_pos ⟨trivial, hle⟩]
      congr 2
      apply List.ext_getElem?
      intro i
      rw [List.getElem?_take, List.getElem?_drop]
      split
      · rename_i hi
        rw [List.getElem?_eq_getElem hi]
        exact hc i _ (List.getElem?_eq_getElem hi)
      · rename_i hi
        rw [List.getElem?_eq_none (by omega)]

end Go.HL
