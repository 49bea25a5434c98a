/-
  HL: slices.Sort by its contract, at a list of one's own.
-/
import Derived.Test.YtalcaflkfpiehaaHLOwn
import Derived.Test.YtalcaflkfpiehaaHLStr
import Derived.Shelf.Sort.Plain
import Derived.Shelf.Slices.In.SortNone
namespace Go.HL
open Go

theorem sort_hc {P : Program} {f : FuncId} {α : Type} [Inhabited α] {enc : α → Value} {c : α → HV} (hrel : ∀ (β : List Ent) (a : α) (u : Value), Rel β (c a) u ↔ u = enc a) (h1 : ∀ a, (c a).one = true) {sorted : List α → List α} (hsl : ∀ l, (sorted l).length = l.length)
    (hS : ∀ (blk off cap : Nat) (zs : List α) (w : World), Sort.Holds enc w blk off zs.toArray → blk < w.heap.size → zs.length < 4611686018427387904 →
      Calls P f #[.slice (some ⟨blk, off, none⟩) zs.length cap] w fun e w' => e = .returned (.tuple #[]) ∧ ∃ n os, w' = Sort.grow (Sort.putRow enc (Sort.ahead w n) blk off (sorted zs).toArray) os)
    {hs : HS} {h : Nat} {cap : Option Nat} {olds : List Nat} {opn : Bool} {zs : List α} (hz : 0 < zs.length) (hb : hs[h]? = some (some (.cells 1 (zs.map c) false opn olds))) (hl : zs.length < 4611686018427387904) :
    HC P f [.slice h 0 zs.length cap] hs fun _ hs' => hs' = (killAll olds hs).set h (some (.cells 1 ((sorted zs).map c) false opn [])) := by
  intro β w us E R
  simp only [RelL] at R
  obtain ⟨u, _, rfl, R1, rfl⟩ := R
  simp only [Rel] at R1
  obtain ⟨e, a, cp, he, rfl, hlc, hcap, ha⟩ := R1
  have ha' := ha (by omega)
  rw [Nat.zero_mul, Nat.add_zero] at ha'
  subst ha'
  obtain ⟨hes, cur, t, fz, hg, hfz, hfit, hcl, hcs⟩ := E.blk h e _ he hb
  rw [Nat.mul_one] at hfit hcl
  rw [List.length_map] at hcl
  have hcur : ∀ (j : Nat) (z : α), zs[j]? = some z → cur[e.shift + j]? = some (enc z) := by
    intro j z hj
    obtain ⟨u, h2, h3, _⟩ := hcs j (c z) (by rw [List.getElem?_map, hj]; rfl)
    rw [hrel] at h3
    rw [h2, h3]
  have hH : Sort.Holds enc w e.blk e.shift zs.toArray := by
    intro j hj
    simp at hj
    have hj' : zs[j]? = some zs[j] := List.getElem?_eq_getElem hj
    refine ⟨?_, ?_⟩
    · simp only [World.cell?, hg]
      rw [getElem!_pos _ _ (by simpa using hj)]
      simpa using hcur j _ hj'
    · simp only [World.frozen?, hg]
      have := (hfz rfl).away (e.shift + j) (by omega)
      obtain ⟨lo, hi⟩ := fz
      simp only [Bool.and_eq_false_iff, decide_eq_false_iff_not]
      simp only at this
      omega
  have hblk : e.blk < w.heap.size := lt_of_geta hg
  refine (hS e.blk e.shift cp zs w hH hblk hl).mono ?_
  rintro _ w' ⟨rfl, n, os, rfl⟩
  have hmod : (Sort.putRow enc (Sort.ahead w n) e.blk e.shift (sorted zs).toArray).heap[e.blk]? = some (.cells (Sort.putCells enc e.shift (sorted zs).toArray cur) t fz) := by
    simp only [Sort.putRow, Sort.mapBlock, Sort.ahead, Array.getElem?_modify, if_true, hg]
    rfl
  have hsz : (Sort.putCells enc e.shift (sorted zs).toArray cur).size = cur.size := by simp [Sort.putCells]
  have S1 : Step β hs w β ((killAll olds hs).set h (some (.cells 1 ((sorted zs).map c) false opn []))) (Sort.putRow enc (Sort.ahead w n) e.blk e.shift (sorted zs).toArray) := by
    refine Step.upd E (b := .cells 1 (zs.map c) false opn olds) he hb rfl rfl (by simp [Sort.putRow, Sort.mapBlock, Sort.ahead]) (fun k hk => ?_) ⟨hes, _, t, fz, hmod, fun h => by rw [hsz]; exact hfz h, by rw [hsz, Nat.mul_one]; exact hfit, by rw [List.length_map, hsl, Nat.mul_one]; exact hcl, fun i x hi => ?_⟩ rfl rfl rfl
    · simp only [Sort.putRow, Sort.mapBlock, Sort.ahead, Array.getElem?_modify]
      rw [if_neg (fun h => hk h.symm)]
    · rw [List.getElem?_map, Option.map_eq_some_iff] at hi
      obtain ⟨z, hz', rfl⟩ := hi
      have hil := lt_of_get hz'
      have hil2 := hil
      rw [hsl] at hil2
      refine ⟨enc z, ?_, (hrel β z _).2 rfl, h1 z⟩
      simp only [Sort.putCells, Array.getElem?_mapIdx]
      rw [Array.getElem?_eq_getElem (by omega)]
      simp only [Option.map_some, List.size_toArray]
      rw [if_pos (by omega), getElem!_pos _ _ (by simp; omega)]
      simp only [Nat.add_sub_cancel_left, List.getElem_toArray]
      rw [List.getElem?_eq_getElem hil] at hz'
      simp at hz'
      rw [hz']
  refine ⟨β, _, .tup [], _, rfl, rfl, ?_, S1.trans (Step.below S1.emb ⟨rfl, rfl, rfl, by simp [Sort.grow], fun k hk => ?_⟩)⟩
  · simp [Rel, RelL]
  · simp only [Sort.grow]
    rw [Array.getElem?_append_left hk]

/-- slices.Sort of nothing. -/
theorem sort_nil {P : Program} {f : FuncId} (hN : ∀ (p : Option Addr) (cap : Nat) (w : World), Calls P f #[.slice p 0 cap] w fun e w' => e = .returned (.tuple #[]) ∧ w' = w) (hs : HS) : HC P f [.nilSlice] hs fun _ hs' => hs' = hs := by
  intro β w us E R
  simp only [RelL, Rel] at R
  obtain ⟨u, _, rfl, rfl, rfl⟩ := R
  refine (hN none 0 w).mono ?_
  rintro _ w' ⟨rfl, rfl⟩
  exact ⟨β, _, .tup [], hs, rfl, rfl, by simp [Rel, RelL], Step.refl E⟩
end Go.HL
