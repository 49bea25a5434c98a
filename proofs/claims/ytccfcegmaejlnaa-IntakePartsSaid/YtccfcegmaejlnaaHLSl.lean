/-
  HL: slices whose elements are known, at whatever place of memory.
-/
import Derived.Test.YtccfcegmaejlnaaHLWp
namespace Go.HL
open Go

/-- v is a slice whose elements, of one cell each, are xs. -/
def SlAt (hs : HS) (v : HV) (xs : List HV) : Prop :=
  (v = .nilSlice ∧ xs = []) ∨ ∃ h o cap cs ro opn olds, v = .slice h o xs.length cap ∧ hs[h]? = some (some (.cells 1 cs ro opn olds)) ∧ ∀ i x, xs[i]? = some x → cs[o + i]? = some x

theorem SlAt.len {hs : HS} {v : HV} {xs : List HV} (h : SlAt hs v xs) : hlenK hs .slice v = some (.int .i64 (xs.length : Nat)) := by
  rcases h with ⟨rfl, rfl⟩ | ⟨h, o, cap, cs, ro, opn, olds, rfl, _, _⟩ <;> rfl

theorem SlAt.sOk {hs : HS} {v : HV} {xs : List HV} (h : SlAt hs v xs) : sOk hs 1 v = true := by
  rcases h with ⟨rfl, rfl⟩ | ⟨h, o, cap, cs, ro, opn, olds, rfl, hb, _⟩
  · rfl
  · simp [HL.sOk, hb]

/-- the place of an element, and what stands there. -/
theorem SlAt.idx {hs : HS} {v : HV} {xs : List HV} (h : SlAt hs v xs) {i : Nat} {x : HV} (hx : xs[i]? = some x) (k : IntKind) : ∃ p, hindexAddr 1 v (.int k (i : Nat)) = some p ∧ hload none hs p = some x := by
  rcases h with ⟨rfl, rfl⟩ | ⟨h, o, cap, cs, ro, opn, olds, rfl, hb, hc⟩
  · simp at hx
  · have hi : i < xs.length := lt_of_get hx
    refine ⟨_, vidx_some hi, ?_⟩
    simp only [hload, hb, Nat.mul_one]
    exact hc i x hx

theorem SlAt.mono {hs hs' : HS} {v : HV} {xs : List HV} (h : SlAt hs v xs) (hg : ∃ g, hs' = hs ++ g) : SlAt hs' v xs := by
  rcases h with ⟨rfl, rfl⟩ | ⟨h, o, cap, cs, ro, opn, olds, rfl, hb, hc⟩
  · exact .inl ⟨rfl, rfl⟩
  · obtain ⟨g, rfl⟩ := hg
    exact .inr ⟨h, o, cap, cs, ro, opn, olds, rfl, by rw [List.getElem?_append_left (lt_of_get hb)]; exact hb, hc⟩

/-- the cells, taken together. -/
theorem SlAt.take {hs : HS} {v : HV} {xs : List HV} (h : SlAt hs v xs) : takeCells hs 1 v = some (xs.length, xs) := by
  rcases h with ⟨rfl, rfl⟩ | ⟨h, o, cap, cs, ro, opn, olds, rfl, hb, hc⟩
  · rfl
  · simp only [takeCells]
    split
    · rename_i h0
      rw [List.eq_nil_of_length_eq_zero h0]; rfl
    · rename_i h0
      rw [hb]
      have hle : o + xs.length ≤ cs.length := by
        have hx : xs[xs.length - 1]? = some (xs[xs.length - 1]'(by omega)) := List.getElem?_eq_getElem (by omega)
        have := lt_of_get (hc _ _ hx)
        omega
      simp only [Nat.mul_one]
      rw [if_pos ⟨trivial, hle⟩]
      congr 2
      apply List.ext_getElem?
      intro i
      rw [List.getElem?_take, List.getElem?_drop]
      split
      · rename_i hi
        rw [List.getElem?_eq_getElem hi]
        exact hc i _ (List.getElem?_eq_getElem hi)
      · rename_i hi
        rw [List.getElem?_eq_none (by omega)]

/-- what a call does in a heap that nobody may write and of which it is told a part, it does in the whole heap, which stays as it was. -/
theorem HC.frameLess {P : Program} {f : FuncId} {args : List HV} {hsW hs : HS} {R : HV → Prop} (hlen : hsW.length = hs.length) (hsub : ∀ (i : Nat) (b : HB), hsW[i]? = some (some b) → hs[i]? = some (some b) ∧ b.ro = true)
    (hv : ∀ v, R v → v.flat = true) (h : HC P f args hsW fun v _ => R v) : HC P f args hs fun v hs' => R v ∧ hs' = hs := by
  intro β w us E Ra
  have E0 : Emb β hsW w := ⟨by rw [E.len, hlen], fun i e b h1 h2 => E.blk i e b h1 (hsub i b h2).1, fun g i e e' b b' hne h1 h2 h3 h4 => E.sep g i e e' b b' hne h1 h2 (hsub _ _ h3).1 (hsub _ _ h4).1⟩
  refine (h β w us E0 Ra).mono ?_
  rintro e w' ⟨β', u, v, hs', rfl, hR, hr, S⟩
  have same : ∀ k, k < w.heap.size → w'.heap[k]? = w.heap[k]? := fun k hk => S.same k hk (by
    rintro ⟨i, e, b, _, h2, h3, _⟩
    rw [(hsub i b h2).2] at h3
    simp at h3)
  refine ⟨β, u, v, hs, rfl, ⟨hR, rfl⟩, hr.flat (hv v hR), ⟨Ext.refl _, ⟨E.len, fun i e b h1 h2 => ?_, E.sep⟩, S.size, fun k hk _ => same k hk, fun _ _ h => h, S.os, S.output, S.tape, fun _ _ hl he => absurd (lt_of_get he) (by omega)⟩⟩
  have hB := E.blk i e b h1 h2
  exact hB.world (same _ hB.lt)
end Go.HL
