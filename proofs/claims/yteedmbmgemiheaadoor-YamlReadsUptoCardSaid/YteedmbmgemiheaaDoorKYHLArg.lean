/-
  HL: arguments that are slices, taken as blocks that are only read; a witness for a row with a condition.
-/
import Derived.Test.YteedmbmgemiheaaDoorKYHLSl
import Derived.Test.YteedmbmgemiheaaDoorKYHLRow
import Derived.Deep.DeepHandedRow
import Derived.LaidLaws
import Derived.SliceStrings
namespace Go.HL
open Go

theorem cell_some {w : World} {a : Addr} {u : Value} (h : w.cell? a = some u) : a.spot = none ∧ ∃ c t fz, w.heap[a.block]? = some (.cells c t fz) ∧ c[a.off]? = some u := by
  unfold World.cell? at h
  split at h
  · rename_i c t fz hc
    split at h
    · simp at h
    · rename_i hs
      exact ⟨by simpa using hs, c, t, fz, hc, h⟩
  · simp at h

def AllRo (hs : HS) : Prop := ∀ (i : Nat) (b : HB), hs[i]? = some (some b) → b.ro = true
theorem AllRo.snoc {hs : HS} (h : AllRo hs) {b : HB} (hb : b.ro = true) : AllRo (hs ++ [some b]) := fun i c hc => by
  rcases get_snoc hc with h1 | ⟨_, h1⟩
  · exact h i c h1
  · simp at h1; subst h1; exact hb
theorem Emb.snoc {β : List Ent} {hs : HS} {w : World} (E : Emb β hs w) (hro : AllRo hs) (e : Ent) (b : HB) (hb : b.ro = true) (hr : BlkRel (β ++ [e]) w e b) : Emb (β ++ [e]) (hs ++ [some b]) w := by
  refine ⟨by simp [E.len], fun i e' b' h1 h2 => ?_, fun i j e1 e2 b1 b2 _ _ _ _ h4 _ hf => ?_⟩
  · rcases get_snoc h2 with h3 | ⟨h3, h4⟩
    · have hl : i < β.length := by rw [E.len]; exact lt_of_get h3
      rw [List.getElem?_append_left hl] at h1
      exact (E.blk i e' b' h1 h3).mono (Ext.snoc _ _)
    · simp at h4; subst h4
      subst h3
      rw [← E.len, List.getElem?_concat_length] at h1
      simp at h1; subst h1
      exact hr
  · rw [hro.snoc hb j b2 h4] at hf
    simp at hf
/-- a slice that was handed in: one block more, only read. -/
theorem emb_arg {β : List Ent} {hs : HS} {w : World} (E : Emb β hs w) (hro : AllRo hs) {g : Nat} {cur : Array Value} {t : TypeId} {fz : Nat × Nat} (hex : w.heap[g]? = some (.cells cur t fz)) {s : Nat} (hs1 : 0 < s) {a : Addr} {len cap : Nat} {us : List Value}
    (hus : us.length = cap * s) (hle : len ≤ cap) (hc : ∀ (i : Nat) u, us[i]? = some u → w.cell? (a.add i) = some u) {xs : List HV} (hx : RelL β xs (us.take (len * s))) (h1 : ∀ x ∈ xs, x.one = true) :
    ∃ e, Emb (β ++ [e]) (hs ++ [some (.cells s xs true false [])]) w ∧ Rel (β ++ [e]) (.slice hs.length 0 len (some cap)) (.slice (some a) len cap) := by
  have hmul : len * s ≤ cap * s := Nat.mul_le_mul_right s hle
  have hxl : xs.length = len * s := by rw [hx.length, List.length_take]; omega
  rcases Nat.eq_zero_or_pos cap with h0 | h0
  · subst h0
    have hl0 : len = 0 := by omega
    subst hl0
    have hxn : xs = [] := List.eq_nil_of_length_eq_zero (by simpa using hxl)
    subst hxn
    refine ⟨⟨g, 0, 0, s⟩, E.snoc hro _ _ rfl ⟨rfl, cur, t, fz, hex, fun h => by simp at h, by simp, by simp, fun i x h => by simp at h⟩, ?_⟩
    simp only [Rel]
    refine ⟨⟨g, 0, 0, s⟩, a, 0, ?_, rfl, Nat.le_refl _, ⟨rfl, by simp⟩, fun h => absurd h (by omega)⟩
    rw [← E.len]; simp
  · have hpos : 0 < cap * s := Nat.mul_pos h0 hs1
    have hu0 : us[0]? = some us[0] := List.getElem?_eq_getElem (by omega)
    have c0 := hc 0 _ hu0
    have ha0 : a.add 0 = a := by simp [Addr.add]
    rw [ha0] at c0
    obtain ⟨hsp, c, t', fz', hb, hc0⟩ := cell_some c0
    have hadd : ∀ (i : Nat) u, us[i]? = some u → c[a.off + i]? = some u := by
      intro i u hu
      have := hc i u hu
      unfold Addr.add at this
      split at this
      · rename_i hi
        subst hi
        obtain ⟨_, c', t'', fz'', hb', hc'⟩ := cell_some this
        rw [hb] at hb'
        simp at hb'
        obtain ⟨rfl, _, _⟩ := hb'
        simpa using hc'
      · obtain ⟨_, c', t'', fz'', hb', hc'⟩ := cell_some this
        simp only at hb' hc'
        rw [hb] at hb'
        simp at hb'
        obtain ⟨rfl, _, _⟩ := hb'
        exact hc'
    have hfit : a.off + cap * s ≤ c.size := by
      have hl : us[cap * s - 1]? = some (us[cap * s - 1]'(by omega)) := List.getElem?_eq_getElem (by omega)
      have := lt_of_geta (hadd _ _ hl)
      omega
    refine ⟨⟨a.block, a.off, cap, s⟩, E.snoc hro _ _ rfl ⟨rfl, c, t', fz', hb, fun h => by simp at h, hfit, by simp only; omega, fun i x hi => ?_⟩, ?_⟩
    · obtain ⟨u, hu1, hu2⟩ := hx.get hi
      rw [List.getElem?_take] at hu1
      split at hu1
      · exact ⟨u, hadd i u hu1, hu2.mono (Ext.snoc _ _) _ _, h1 x (List.mem_of_getElem? hi)⟩
      · simp at hu1
    · simp only [Rel]
      refine ⟨⟨a.block, a.off, cap, s⟩, a, cap, ?_, rfl, hle, ⟨rfl, by simp⟩, fun _ => ?_⟩
      · rw [← E.len]; simp
      · obtain ⟨bb, oo, sp⟩ := a
        simp at hsp
        subst hsp
        simp

theorem SlAt.fresh (hs : HS) (xs : List HV) (ro : Bool) (n : Nat) (hn : n = xs.length) (cap : Option Nat) : SlAt (hs ++ [some (.cells 1 xs ro false [])]) (.slice hs.length 0 n cap) xs := by
  subst hn
  exact .inr ⟨hs.length, 0, cap, xs, ro, false, [], rfl, by simp, fun i x h => by simpa using h⟩

theorem add_add (a : Addr) (x y : Nat) : (a.add x).add y = a.add (x + y) := by
  unfold Addr.add
  by_cases hx : x = 0
  · subst hx
    by_cases hy : y = 0
    · subst hy; simp
    · simp [hy]
  · by_cases hy : y = 0
    · subst hy; simp [hx]
    · simp [hx, hy, Nat.add_assoc]
theorem flatMap_get {α : Type} {s : Nat} (f : Nat → List α) : ∀ {m : Nat}, (∀ i, i < m → (f i).length = s) → ((List.range m).flatMap f).length = m * s ∧ ∀ {k : Nat} {u : α}, ((List.range m).flatMap f)[k]? = some u → ∃ i j, i < m ∧ k = i * s + j ∧ (f i)[j]? = some u
  | 0, _ => by simp
  | m + 1, h => by
    obtain ⟨h1, h2⟩ := flatMap_get f (m := m) fun i hi => h i (by omega)
    have hm := h m (by omega)
    rw [List.range_succ, List.flatMap_append, List.flatMap_cons, List.flatMap_nil, List.append_nil]
    refine ⟨by rw [List.length_append, h1, hm, Nat.succ_mul], fun {k u} hk => ?_⟩
    rcases Nat.lt_or_ge k (m * s) with hl | hl
    · rw [List.getElem?_append_left (by omega)] at hk
      obtain ⟨i, j, e1, e2, e3⟩ := h2 hk
      exact ⟨i, j, by omega, e2, e3⟩
    · rw [List.getElem?_append_right (by omega), h1] at hk
      exact ⟨m, k - m * s, by omega, by omega, hk⟩
theorem flatMap_take {α : Type} {s : Nat} (f : Nat → List α) {len cap : Nat} (hle : len ≤ cap) (h : ∀ i, i < cap → (f i).length = s) : ((List.range cap).flatMap f).take (len * s) = (List.range len).flatMap f := by
  obtain ⟨d, rfl⟩ : ∃ d, cap = len + d := ⟨cap - len, by omega⟩
  have h1 := (flatMap_get f (m := len) fun i hi => h i (by omega)).1
  rw [List.range_add, List.flatMap_append, List.take_append_of_le_length (by omega), List.take_of_length_le (by omega)]
theorem RelL.flatMap {β : List Ent} {f : Nat → List HV} {g : Nat → List Value} : ∀ {m : Nat}, (∀ i, i < m → RelL β (f i) (g i)) → RelL β ((List.range m).flatMap f) ((List.range m).flatMap g)
  | 0, _ => by simp [RelL]
  | m + 1, h => by
    rw [List.range_succ, List.flatMap_append, List.flatMap_append]
    refine (RelL.flatMap fun i hi => h i (by omega)).append ?_
    simpa using h m (by omega)

/-- a slice of structs that was handed in. -/
theorem emb_rows {β : List Ent} {hs : HS} {w : World} (E : Emb β hs w) (hro : AllRo hs) {s : Nat} (hs1 : 0 < s) {a : Addr} {len cap : Nat} (hle : len ≤ cap) (h0 : 0 < cap) {C : Nat → List Value} (hlen : ∀ i, i < cap → (C i).length = s)
    (hcell : ∀ i, i < cap → ∀ (j : Nat) u, (C i)[j]? = some u → w.cell? (a.add (i * s + j)) = some u) {X : Nat → List HV} (hX : ∀ i, i < len → RelL β (X i) (C i)) (h1 : ∀ i, i < len → ∀ x ∈ X i, x.one = true) :
    ∃ e, Emb (β ++ [e]) (hs ++ [some (.cells s ((List.range len).flatMap X) true false [])]) w ∧ Rel (β ++ [e]) (.slice hs.length 0 len (some cap)) (.slice (some a) len cap) := by
  obtain ⟨g1, g2⟩ := flatMap_get C (m := cap) hlen
  have hc0 : ∃ u, (C 0)[0]? = some u := ⟨_, List.getElem?_eq_getElem (by rw [hlen 0 h0]; exact hs1)⟩
  obtain ⟨u, hu⟩ := hc0
  obtain ⟨_, c, t, fz, hb, _⟩ := cell_some (hcell 0 h0 0 u hu)
  refine emb_arg E hro hb hs1 (us := (List.range cap).flatMap C) g1 hle (fun i u hu => ?_) ?_ ?_
  · obtain ⟨i', j, e1, e2, e3⟩ := g2 hu
    rw [e2]; exact hcell i' e1 j u e3
  · rw [flatMap_take C hle hlen]
    exact RelL.flatMap hX
  · intro x hx
    obtain ⟨i, hi, hx⟩ := List.mem_flatMap.1 hx
    exact h1 i (by simpa using hi) x hx

/-- an input that fits, for a row with a condition of its own. -/
theorem witness_row_shaped {H : Type} {enc : TypeId × Value → H} {C : Checked} {os : Os} {f : FuncId} {fn : Func} {s : OpenSpec} {conds : List PathCond} {apart : Bool} {laid : List (String × DataW Unit)} (modest : Bool) (w0 : World) (args : Array Value) (hos : w0.os = os)
    (hsh : (w0.forCall (fun _ _ => 0) ⟨#[], args, []⟩).Shaped C.prog)
    (hok : Input.okWideB C.prog (w0.forCall (fun _ _ => 0) ⟨#[], args, []⟩) f ⟨#[], args, []⟩ = true)
    (hrow : s.preRow enc C.prog fn conds apart laid (w0.forCall (fun _ _ => 0) ⟨#[], args, []⟩).memory args) :
    ∃ (w : World) (tape : Tape) (i : Input), w.os = os ∧ (w.forCall tape i).Shaped C.prog ∧ i.vars = [] ∧ Input.okWide C.prog (w.forCall tape i) .any w.heap.size f i ∧
      s.preRow enc C.prog fn conds apart laid (w.forCall tape i).memory i.args ∧ ({ modest := modest } : Assume).holds C.prog (lone (Frame.enter C.prog f i.args .normal) [] (w.forCall tape i)) :=
  ⟨w0, fun _ _ => 0, ⟨#[], args, []⟩, hos, hsh, (Input.okWide_of_okWideB (base := 0) hok).1, (Input.okWide_of_okWideB hok).2, hrow, by
    simp only [Assume.holds]
    exact ⟨by simp, by simp, fun _ => Modest.zero, by simp, by simp⟩⟩
end Go.HL
