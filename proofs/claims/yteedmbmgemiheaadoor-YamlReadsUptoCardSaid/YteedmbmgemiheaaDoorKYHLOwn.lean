/-
  HL: slices of one's own that grow, at whatever place; the part of memory that is kept.
-/
import Derived.Test.YteedmbmgemiheaaDoorKYHLSl
namespace Go.HL
open Go

/-- the first n handles are as they were. -/
def Keeps (n : Nat) (hs hs' : HS) : Prop := n ≤ hs'.length ∧ ∀ i, i < n → hs'[i]? = hs[i]?
theorem Keeps.refl {n : Nat} {hs : HS} (h : n ≤ hs.length) : Keeps n hs hs := ⟨h, fun _ _ => rfl⟩
theorem Keeps.trans {n : Nat} {a b c : HS} (h : Keeps n a b) (h' : Keeps n b c) : Keeps n a c := ⟨h'.1, fun i hi => (h'.2 i hi).trans (h.2 i hi)⟩
theorem Keeps.less {n m : Nat} {a b : HS} (h : Keeps n a b) (hm : m ≤ n) : Keeps m a b := ⟨Nat.le_trans hm h.1, fun i hi => h.2 i (by omega)⟩
theorem Keeps.set {n h : Nat} {hs : HS} {b : Option HB} (h1 : n ≤ hs.length) (hn : n ≤ h) : Keeps n hs (hs.set h b) := ⟨by simpa using h1, fun i hi => by rw [List.getElem?_set]; rw [if_neg (by omega)]⟩
theorem Keeps.kill {n : Nat} {hs : HS} {l : List Nat} (h1 : n ≤ hs.length) (hl : ∀ o ∈ l, n ≤ o) : Keeps n hs (killAll l hs) := ⟨by rw [killAll_length]; exact h1, fun i hi => killAll_ne fun hm => by have := hl i hm; omega⟩
theorem Keeps.get {n i : Nat} {a b : HS} (h : Keeps n a b) (hi : i < n) {x : Option HB} (hx : a[i]? = some x) : b[i]? = some x := by rw [h.2 i hi]; exact hx

theorem SlAt.keep {hs hs' : HS} {v : HV} {xs : List HV} (h : SlAt hs v xs) {n : Nat} (hn : hs.length ≤ n) (hk : Keeps n hs hs') : SlAt hs' v xs := by
  rcases h with ⟨rfl, rfl⟩ | ⟨h, o, cap, cs, ro, opn, olds, rfl, hb, hc⟩
  · exact .inl ⟨rfl, rfl⟩
  · exact .inr ⟨h, o, cap, cs, ro, opn, olds, rfl, by rw [hk.2 h (by have := lt_of_get hb; omega)]; exact hb, hc⟩

/-- a slice that may be appended to: none, one without room, or one's own whose room is not known. -/
def OwnSl (n : Nat) (hs : HS) (s : Nat) (v : HV) (len : Nat) (xs : List HV) : Prop :=
  xs.length = len * s ∧ ((v = .nilSlice ∧ len = 0) ∨ (∃ h ro opn olds, v = .slice h 0 len (some len) ∧ hs[h]? = some (some (.cells s xs ro opn olds))) ∨
    ∃ h olds, v = .slice h 0 len none ∧ n ≤ h ∧ hs[h]? = some (some (.cells s xs false true olds)) ∧ ∀ o ∈ olds, n ≤ o ∧ o < h)

theorem OwnSl.nil (n : Nat) (hs : HS) (s : Nat) : OwnSl n hs s .nilSlice 0 [] := ⟨by simp, .inl ⟨rfl, rfl⟩⟩
theorem OwnSl.empty {n : Nat} {hs : HS} {s h : Nat} {ro opn : Bool} {olds : List Nat} (hb : hs[h]? = some (some (.cells s [] ro opn olds))) : OwnSl n hs s (.slice h 0 0 (some 0)) 0 [] :=
  ⟨by simp, .inr (.inl ⟨h, ro, opn, olds, rfl, hb⟩)⟩

theorem OwnSl.take {n : Nat} {hs : HS} {s len : Nat} {v : HV} {xs : List HV} (H : OwnSl n hs s v len xs) : takeCells hs s v = some (len, xs) := by
  obtain ⟨hl, ⟨rfl, rfl⟩ | ⟨h, ro, opn, olds, rfl, hb⟩ | ⟨h, olds, rfl, _, hb, _⟩⟩ := H
  · have : xs = [] := List.eq_nil_of_length_eq_zero (by simpa using hl)
    subst this; rfl
  all_goals
    simp only [takeCells]
    split
    · rename_i h0
      subst h0
      have : xs = [] := List.eq_nil_of_length_eq_zero (by simpa using hl)
      subst this; rfl
    · rw [hb]
      simp only [Nat.zero_add, Nat.zero_mul, List.drop_zero]
      rw [if_pos ⟨trivial, by omega⟩, List.take_of_length_le (by omega)]

theorem OwnSl.len {n : Nat} {hs : HS} {s len : Nat} {v : HV} {xs : List HV} (H : OwnSl n hs s v len xs) : hlenK hs .slice v = some (.int .i64 (len : Nat)) := by
  obtain ⟨hl, ⟨rfl, rfl⟩ | ⟨h, ro, opn, olds, rfl, hb⟩ | ⟨h, olds, rfl, _, hb, _⟩⟩ := H <;> rfl

theorem OwnSl.sl {n : Nat} {hs : HS} {len : Nat} {v : HV} {xs : List HV} (H : OwnSl n hs 1 v len xs) : SlAt hs v xs := by
  obtain ⟨hl, ⟨rfl, rfl⟩ | ⟨h, ro, opn, olds, rfl, hb⟩ | ⟨h, olds, rfl, _, hb, _⟩⟩ := H
  · exact .inl ⟨rfl, List.eq_nil_of_length_eq_zero (by simpa using hl)⟩
  · obtain rfl : len = xs.length := by omega
    exact .inr ⟨h, 0, _, xs, _, _, _, rfl, hb, fun i x h => by simpa using h⟩
  · obtain rfl : len = xs.length := by omega
    exact .inr ⟨h, 0, _, xs, _, _, _, rfl, hb, fun i x h => by simpa using h⟩

theorem OwnSl.keep {n m : Nat} {hs hs' : HS} {s len : Nat} {v : HV} {xs : List HV} (H : OwnSl n hs s v len xs) (hm : hs.length ≤ m) (hk : Keeps m hs hs') : OwnSl n hs' s v len xs := by
  obtain ⟨hl, ⟨rfl, rfl⟩ | ⟨h, ro, opn, olds, rfl, hb⟩ | ⟨h, olds, rfl, h1, hb, h2⟩⟩ := H
  · exact ⟨hl, .inl ⟨rfl, rfl⟩⟩
  · exact ⟨hl, .inr (.inl ⟨h, ro, opn, olds, rfl, hk.get (by have := lt_of_get hb; omega) hb⟩)⟩
  · exact ⟨hl, .inr (.inr ⟨h, olds, rfl, h1, hk.get (by have := lt_of_get hb; omega) hb, h2⟩)⟩

/-- bytes, as cells. -/
def bcells (b : List UInt8) : List HV := b.map fun c => .int .u8 c.toNat
theorem bcells_length (b : List UInt8) : (bcells b).length = b.length := by simp [bcells]
theorem asBytes_bcells : ∀ b : List UInt8, asBytes (bcells b) = some b
  | [] => rfl
  | c :: b => by
    have ih := asBytes_bcells b
    unfold bcells at ih ⊢
    rw [List.map_cons]
    have hc : 0 ≤ (c.toNat : Int) ∧ (c.toNat : Int) < 256 := by have := c.toNat_lt; omega
    simp [asBytes, ih, hc]
theorem b2s_of_take {hs : HS} {v : HV} {m : Nat} {b : List UInt8} (h : takeCells hs 1 v = some (m, bcells b)) : hb2s hs v = some (.str b) := by
  unfold hb2s; rw [h]; simp [asBytes_bcells]
/-- bytes to a string, whatever the slice is like. -/
theorem vb2s {fr : List HV} {hs : HS} {x : HX} {v : HV} {m : Nat} {b : List UInt8} (hv : ∀ c, x.ev fr ≠ .str c) (hx : x.ev fr = v) (h : takeCells hs 1 v = some (m, bcells b)) : hop (.b2s x) fr hs = some (.str b, hs) := by
  have h1 := b2s_of_take h
  rw [← hx] at h1
  simp only [hop]
  cases hw : x.ev fr with
  | str c => exact absurd hw (hv c)
  | _ => rw [hw] at h1; simp [h1, same]
theorem OwnSl.notStr {n : Nat} {hs : HS} {s len : Nat} {v : HV} {xs : List HV} (H : OwnSl n hs s v len xs) (c : List UInt8) : v ≠ .str c := by
  obtain ⟨_, ⟨rfl, _⟩ | ⟨h, ro, opn, olds, rfl, _⟩ | ⟨h, olds, rfl, _⟩⟩ := H <;> simp

theorem overw_one (cs : List HV) (k : Nat) (x : HV) (hk : k < cs.length) : overw cs k [x] = cs.set k x := by
  apply List.ext_getElem?
  intro i
  rw [overw_get (by simp; omega), List.getElem?_set]
  by_cases h : k = i
  · subst h; simp [hk]
  · rw [if_neg (by simp; omega), if_neg h]
theorem SlAt.hlen {hs : HS} {v : HV} {xs : List HV} (h : SlAt hs v xs) : HL.hlen v = some xs.length := by
  rcases h with ⟨rfl, rfl⟩ | ⟨h, o, cap, cs, ro, opn, olds, rfl, hb, hc⟩ <;> rfl
/-- a new slice of one. -/
theorem slice_one {hs : HS} {z x : HV} (hz : z.one = true) (hx : x.cells = [x]) (h1 : x.one = true) : hbuildSlice hs 1 1 [z] [(0, 1, x)] = some (.slice hs.length 0 1 (some 1), hs ++ [some (.cells 1 [x] false false [])]) := by
  simp [hbuildSlice, hfill, hx, h1, hz, overw]

end Go.HL
