/-
  HL: arguments of any shape (numbers, truths, texts, bytes, lists, structs), taken as blocks that are only read.
-/
import Derived.Test.YteedmbmgemiheaaDoorKYHLHand
import Derived.Test.YteedmbmgemiheaaDoorKYHLFlat
import Derived.WideShapes
namespace Go.HL
open Go Go.WideShapes

def I64 (n : Int) : Prop := -9223372036854775808 ≤ n ∧ n ≤ 9223372036854775807
/-- the shape of an argument; a struct is the chain of its fields. -/
inductive Sh where
  | int
  | bool
  | str
  | bytes
  | sl (e : Sh)
  | st (f : Sh)
  | nil
  | cons (a r : Sh)
/-- what such an argument is: where it lies, what it says. -/
def Sh.D : Sh → Type
  | .int => Int
  | .bool => Bool
  | .str => List UInt8
  | .bytes => HV × List UInt8
  | .sl e => HV × List e.D
  | .st f => f.D
  | .nil => Unit
  | .cons a r => a.D × r.D
def Sh.size : Sh → Nat
  | .st f => f.size
  | .nil => 0
  | .cons a r => a.size + r.size
  | _ => 1
def Sh.cells : (s : Sh) → s.D → List HV
  | .int, n => [.int .i64 n]
  | .bool, b => [.bool b]
  | .str, t => [.str t]
  | .bytes, x => [x.1]
  | .sl _, x => [x.1]
  | .st f, x => f.cells x
  | .nil, _ => []
  | .cons a r, x => a.cells x.1 ++ r.cells x.2
/-- what may be read of it. -/
def Sh.Good : (s : Sh) → HS → s.D → Prop
  | .bytes, hs, x => Rd hs 1 x.1 x.2.length (bcells x.2)
  | .sl e, hs, x => Rd hs e.size x.1 x.2.length (x.2.flatMap e.cells) ∧ ∀ y ∈ x.2, e.Good hs y
  | .st f, hs, x => f.Good hs x
  | .cons a r, hs, x => a.Good hs x.1 ∧ r.Good hs x.2
  | _, _, _ => True
theorem Sh.cells_len : ∀ (s : Sh) (a : s.D), (s.cells a).length = s.size
  | .int, _ => rfl
  | .bool, _ => rfl
  | .str, _ => rfl
  | .bytes, _ => rfl
  | .sl _, _ => rfl
  | .st f, x => cells_len f x
  | .nil, _ => rfl
  | .cons a r, x => by
    show (a.cells x.1 ++ r.cells x.2).length = a.size + r.size
    rw [List.length_append, cells_len a, cells_len r]
theorem Sh.cells_one : ∀ (s : Sh) (hs : HS) (a : s.D), s.Good hs a → ∀ y ∈ s.cells a, y.one = true
  | .int, _, _, _, y, h => by simp only [Sh.cells, List.mem_singleton] at h; subst h; rfl
  | .bool, _, _, _, y, h => by simp only [Sh.cells, List.mem_singleton] at h; subst h; rfl
  | .str, _, _, _, y, h => by simp only [Sh.cells, List.mem_singleton] at h; subst h; rfl
  | .bytes, _, a, g, y, h => by simp only [Sh.cells, List.mem_singleton] at h; subst h; exact Rd.one g
  | .sl _, _, a, g, y, h => by simp only [Sh.cells, List.mem_singleton] at h; subst h; exact Rd.one g.1
  | .st f, hs, a, g, y, h => cells_one f hs a g y h
  | .nil, _, _, _, y, h => by simp [Sh.cells] at h
  | .cons a r, hs, x, g, y, h => by
    simp only [Sh.cells, List.mem_append] at h
    rcases h with h | h
    · exact cells_one a hs _ g.1 y h
    · exact cells_one r hs _ g.2 y h
theorem Sh.Good.mono : ∀ (s : Sh) {hs hs' : HS} {a : s.D} (_ : s.Good hs a) (_ : ∀ {k n : Nat} {v : HV} {xs : List HV}, Rd hs k v n xs → Rd hs' k v n xs), s.Good hs' a
  | .int, _, _, _, _, _ => trivial
  | .bool, _, _, _, _, _ => trivial
  | .str, _, _, _, _, _ => trivial
  | .bytes, _, _, _, g, f => f g
  | .sl e, _, _, _, g, f => ⟨f g.1, fun y hy => Sh.Good.mono e (g.2 y hy) f⟩
  | .st s, _, _, _, g, f => Sh.Good.mono s g f
  | .nil, _, _, _, _, _ => trivial
  | .cons a r, _, _, _, g, f => ⟨Sh.Good.mono a g.1 f, Sh.Good.mono r g.2 f⟩
/-- is a type of a shape (a list of fields, from a place on). -/
def Sh.tyB (P : Program) : Sh → (TypeId ⊕ (List Field × Nat)) → Bool
  | .int, .inl t => match P.underlying t with
    | some (.int .i64) => true
    | _ => false
  | .bool, .inl t => match P.underlying t with
    | some .bool => true
    | _ => false
  | .str, .inl t => match P.underlying t with
    | some .string => true
    | _ => false
  | .bytes, .inl t => match P.underlying t with
    | some (.slice u) => (match P.underlying u with
      | some (.int .u8) => true
      | _ => false) && P.cellsOf u == 1 && P.bytesOf u == 1
    | _ => false
  | .sl e, .inl t => match P.underlying t with
    | some (.slice u) => e.tyB P (.inl u) && P.cellsOf u == e.size && decide (0 < e.size) && decide ((if e.size ≤ 1 then 8 else 8 * e.size) ≤ P.bytesOf u)
    | _ => false
  | .st f, .inl t => match P.underlying t with
    | some (.struct fs) => P.cellsOf t == f.size && f.tyB P (.inr (fs.toList, 0))
    | _ => false
  | .nil, .inr ([], _) => true
  | .cons a r, .inr (f :: fs, off) => f.offset == off && P.cellsOf f.type == a.size && a.tyB P (.inl f.type) && r.tyB P (.inr (fs, off + a.size))
  | _, _ => false
section
variable {H : Type}
/-- the argument as the row reads it, and what it says. -/
def Sh.Of : (s : Sh) → (DataW H ⊕ List (DataW H)) → s.D → Prop
  | .int, .inl d, n => d = .lit (.int .i64 n) ∧ I64 n
  | .bool, .inl d, b => d = .lit (.bool b)
  | .str, .inl d, t => d = .lit (.string t)
  | .bytes, .inl d, x => x.2 = [] ∨ ∃ el sp, d = .slice el sp ∧ el.length = x.2.length
  | .sl e, .inl d, x => x.2 = [] ∨ ∃ el sp, d = .slice el sp ∧ el.length = x.2.length ∧ ∀ (i : Nat) (d' : DataW H) (y : e.D), el[i]? = some d' → x.2[i]? = some y → e.Of (.inl d') y
  | .st f, .inl d, x => ∃ ds, d = .agg ds ∧ f.Of (.inr ds) x
  | .nil, .inr ds, _ => ds = []
  | .cons a r, .inr ds, x => ∃ d ds', ds = d :: ds' ∧ a.Of (.inl d) x.1 ∧ r.Of (.inr ds') x.2
  | _, _, _ => False
section
variable {P : Program}
theorem tyB_slice {e : Sh} {t : TypeId} (h : (Sh.sl e).tyB P (.inl t) = true) : ∃ u, P.underlying t = some (.slice u) ∧ e.tyB P (.inl u) = true ∧ P.cellsOf u = e.size ∧ 0 < e.size ∧ (if e.size ≤ 1 then 8 else 8 * e.size) ≤ P.bytesOf u := by
  simp only [Sh.tyB] at h
  split at h
  · rename_i u hu
    simp only [Bool.and_eq_true, beq_iff_eq, decide_eq_true_eq] at h
    exact ⟨u, hu, h.1.1.1, h.1.1.2, h.1.2, h.2⟩
  · cases h
theorem tyB_bytes {t : TypeId} (h : Sh.bytes.tyB P (.inl t) = true) : ∃ u, P.underlying t = some (.slice u) ∧ P.underlying u = some (.int .u8) ∧ P.cellsOf u = 1 ∧ P.bytesOf u = 1 := by
  simp only [Sh.tyB] at h
  split at h
  · rename_i u hu
    simp only [Bool.and_eq_true, beq_iff_eq] at h
    refine ⟨u, hu, ?_, h.1.2, h.2⟩
    have h1 := h.1.1
    split at h1
    · assumption
    · cases h1
  · cases h
theorem tyB_st {f : Sh} {t : TypeId} (h : (Sh.st f).tyB P (.inl t) = true) : ∃ fs, P.underlying t = some (.struct fs) ∧ P.cellsOf t = f.size ∧ f.tyB P (.inr (fs.toList, 0)) = true := by
  simp only [Sh.tyB] at h
  split at h
  · rename_i fs hu
    simp only [Bool.and_eq_true, beq_iff_eq] at h
    exact ⟨fs, hu, h.1, h.2⟩
  · cases h
theorem tyB_int {t : TypeId} (h : Sh.int.tyB P (.inl t) = true) : P.underlying t = some (.int .i64) := by
  simp only [Sh.tyB] at h
  split at h
  · assumption
  · cases h
theorem tyB_bool {t : TypeId} (h : Sh.bool.tyB P (.inl t) = true) : P.underlying t = some .bool := by
  simp only [Sh.tyB] at h
  split at h
  · assumption
  · cases h
theorem tyB_str {t : TypeId} (h : Sh.str.tyB P (.inl t) = true) : P.underlying t = some .string := by
  simp only [Sh.tyB] at h
  split at h
  · assumption
  · cases h
variable {enc : TypeId × Value → H} {M : World} {base : Nat} {held : Bool}
/-- what was handed in, as the row reads it. -/
def Sh.trodS (P : Program) (enc : TypeId × Value → H) (M : World) (base : Nat) (held : Bool) (s : Sh) : (TypeId ⊕ (List Field × Nat)) → List Value → (DataW H ⊕ List (DataW H)) → List Value → Prop
  | .inl t, cs, .inl d, out => ∃ fuel x, DataW.trod enc P M base (fun _ => true) held fuel t cs = some x ∧ x.1 = d ∧ out = cs
  | .inr (fs, off), cs, .inr ds, out => ∃ n, ∃ xs : List (DataW H × List MemPlace), ds = xs.map (·.1) ∧ xs.length = fs.length ∧ cs.length = off + s.size ∧ (∀ (i : Nat) (f : Field), fs[i]? = some f → DataW.trod enc P M base (fun _ => true) held n f.type ((cs.drop f.offset).take (P.cellsOf f.type)) = xs[i]?) ∧ out = cs.drop off
  | _, _, _, _ => False
def Sh.ArgOk (M : World) (s : Sh) (d : DataW H ⊕ List (DataW H)) (out : List Value) : Prop :=
  ∀ (β : List Ent) (hs : HS), Emb β hs M → AllRo hs → 0 < hs.length → ∃ β' hs' a, Ext β β' ∧ (∃ g, hs' = hs ++ g) ∧ Emb β' hs' M ∧ AllRo hs' ∧ RelL β' (s.cells a) out ∧ s.Good hs' a ∧ s.Of d a
theorem Sh.Good.more {s : Sh} {hs g : HS} {a : s.D} (h : s.Good hs a) : s.Good (hs ++ g) a := Sh.Good.mono s h fun h => h.more
theorem Sh.arg : ∀ (s : Sh) {t : TypeId ⊕ (List Field × Nat)} {cs out : List Value} {d : DataW H ⊕ List (DataW H)} (_ : s.tyB P t = true) (_ : s.trodS P enc M base held t cs d out), s.ArgOk M d out
  | .int, .inl t, cs, out, .inl d, hT, h => by
    obtain ⟨fuel, x, h, rfl, rfl⟩ := h
    intro β hs E hro hz
    have hu := tyB_int hT
    obtain ⟨n, rfl, rfl, _⟩ := DataW.trod_int hu h
    obtain ⟨n', e1, e2⟩ := arg_int hu h
    simp at e1; subst e1
    exact ⟨β, hs, n, Ext.refl _, ⟨[], by simp⟩, E, hro, ⟨_, _, rfl, rfl, rfl⟩, trivial, rfl, e2⟩
  | .bool, .inl t, cs, out, .inl d, hT, h => by
    obtain ⟨fuel, x, h, rfl, rfl⟩ := h
    intro β hs E hro hz
    obtain ⟨b, rfl, rfl⟩ := DataW.trod_bool (tyB_bool hT) h
    exact ⟨β, hs, b, Ext.refl _, ⟨[], by simp⟩, E, hro, ⟨_, _, rfl, rfl, rfl⟩, trivial, rfl⟩
  | .str, .inl t, cs, out, .inl d, hT, h => by
    obtain ⟨fuel, x, h, rfl, rfl⟩ := h
    intro β hs E hro hz
    obtain ⟨b, rfl, e⟩ := arg_str (tyB_str hT) h
    exact ⟨β, hs, b, Ext.refl _, ⟨[], by simp⟩, E, hro, ⟨_, _, rfl, rfl, rfl⟩, trivial, e⟩
  | .bytes, .inl t, cs, out, .inl d, hT, h => by
    obtain ⟨fuel, x, h, rfl, rfl⟩ := h
    intro β hs E hro hz
    obtain ⟨u, h1, h2, h3, h4⟩ := tyB_bytes hT
    obtain ⟨β', hs', v, bb, x1, x2, x3, x4, x5, x6, x8⟩ := arg_bytesR h1 h2 h3 h E hro hz
    exact ⟨β', hs', (v, bb), x1, x2, x3, x4, x5, x6, x8⟩
  | .sl e, .inl t, cs, out, .inl d, hT, h => by
    obtain ⟨fuel, x, h, rfl, rfl⟩ := h
    intro β hs E hro hz
    obtain ⟨u, h1, h2, h3, h4, h5⟩ := tyB_slice hT
    rcases Go.Deep.open_slice h1 h with ⟨rfl, rfl⟩ | ⟨a, len, cap, m, n, D, Pl, rfl, _, hle, hmax, hm, rfl, hel⟩
    · refine ⟨β, hs, (.nilSlice, []), Ext.refl _, ⟨[], by simp⟩, E, hro, ⟨_, _, rfl, rfl, rfl⟩, ⟨?_, ?_⟩, .inl rfl⟩
      · exact ⟨by simp, .inl ⟨rfl, rfl⟩⟩
      · intro y hy; cases hy
    · rw [if_pos rfl] at hm
      subst hm
      rcases Nat.eq_zero_or_pos m with hc0 | hc0
      · have hl0 : len = 0 := by omega
        subst hc0 hl0
        have hzb : 0 < β.length := by rw [E.len]; exact hz
        refine ⟨β, hs, (.slice 0 0 0 (some 0), []), Ext.refl _, ⟨[], by simp⟩, E, hro, ?_, ⟨?_, ?_⟩, .inl rfl⟩
        · refine ⟨_, _, rfl, ?_, rfl⟩
          exact ⟨β[0], a, 0, List.getElem?_eq_getElem hzb, rfl, Nat.le_refl _, ⟨rfl, Nat.zero_le _⟩, fun h => absurd h (by omega)⟩
        · exact ⟨by simp, .inr (.inl ⟨0, 0, rfl, rfl⟩)⟩
        · intro y hy; cases hy
      · rw [h3] at hel
        have each : ∀ i, ∃ cs : List Value, cs.length = e.size ∧ (i < m → (∀ (j : Nat) u, cs[j]? = some u → M.cell? (a.add (i * e.size + j)) = some u) ∧ DataW.trod enc P M base (fun _ => true) held n u cs = some (D i, Pl i)) := by
          intro i
          by_cases hi : i < m
          · obtain ⟨cs', e1, e2⟩ := hel i hi
            obtain ⟨_, e3, e4⟩ := World.cells?_some e1
            refine ⟨cs', e3, fun _ => ⟨fun j u hu => ?_, e2⟩⟩
            have hj := lt_of_get hu
            rw [← add_add, e4 j (by rw [← e3]; exact hj)]
            exact hu
          · exact ⟨List.replicate e.size (.bool true), by simp, fun h => absurd h hi⟩
        obtain ⟨C, hC⟩ : ∃ C : Nat → List Value, ∀ i, (C i).length = e.size ∧ (i < m → (∀ (j : Nat) u, (C i)[j]? = some u → M.cell? (a.add (i * e.size + j)) = some u) ∧ DataW.trod enc P M base (fun _ => true) held n u (C i) = some (D i, Pl i)) := ⟨fun i => Classical.choose (each i), fun i => Classical.choose_spec (each i)⟩
        obtain ⟨β1, hs1, A, hA, x1, ⟨g1, x2⟩, x3, x4, x5⟩ := emb_each (M := M) (Good := fun β hs i (o : e.D) => RelL β (e.cells o) (C i) ∧ e.Good hs o ∧ e.Of (.inl (D i)) o)
          (fun β β' hs g i o h e => ⟨h.1.mono e _ _, h.2.1.more, h.2.2⟩) len (fun i hi β hs E hro hz => by
            obtain ⟨β', hs', o, q1, q2, q3, q4, q5, q6, q7⟩ := Sh.arg e (t := .inl u) (cs := C i) (out := C i) (d := .inl (D i)) h2 ⟨n, _, ((hC i).2 (by omega)).2, rfl, rfl⟩ β hs E hro hz
            exact ⟨β', hs', o, q1, q2, q3, q4, q5, q6, q7⟩) E hro hz
        obtain ⟨X, hX⟩ : ∃ X : Nat → List HV, X = fun i => match A[i]? with
          | some o => e.cells o
          | none => [] := ⟨_, rfl⟩
        have hXi : ∀ i, i < len → ∃ o, A[i]? = some o ∧ X i = e.cells o := fun i hi => ⟨A[i], List.getElem?_eq_getElem (by omega), by rw [hX]; simp only [List.getElem?_eq_getElem (show i < A.length by omega)]⟩
        obtain ⟨en, E4, R4⟩ := emb_rows (s := e.size) x3 x4 h4 hle hc0 (C := C) (fun i hi => (hC i).1) (fun i hi => ((hC i).2 hi).1) (X := X) (fun i hi => by
          obtain ⟨o, h1, h2⟩ := hXi i hi
          rw [h2]; exact (x5 i o h1).1) (fun i hi y hy => by
          obtain ⟨o, h1, h2⟩ := hXi i hi
          rw [h2] at hy
          exact e.cells_one hs1 o (x5 i o h1).2.1 y hy)
        have hfl : (List.range len).flatMap X = A.flatMap e.cells := by
          have : (List.range len).map X = A.map e.cells := by
            apply List.ext_getElem?
            intro i
            rw [List.getElem?_map, List.getElem?_map]
            by_cases hi : i < len
            · obtain ⟨o, h1, h2⟩ := hXi i hi
              rw [List.getElem?_range hi, h1]; simp [h2]
            · rw [List.getElem?_eq_none (by simp; omega), List.getElem?_eq_none (by omega)]; rfl
          rw [List.flatMap_def, List.flatMap_def, this]
        rw [hfl] at E4
        refine ⟨_, _, (.slice hs1.length 0 len (some m), A), x1.trans (Ext.snoc _ _), ⟨g1 ++ [some (.cells e.size (A.flatMap e.cells) true false [])], by rw [x2, List.append_assoc]⟩, E4, x4.snoc rfl, ⟨_, _, rfl, R4, rfl⟩, ⟨?_, ?_⟩, .inr ⟨_, _, rfl, by simp [hA], ?_⟩⟩
        · show Rd _ e.size (.slice hs1.length 0 len (some m)) A.length _
          rw [hA]
          exact Rd.fresh hs1 e.size len _ true false (by rw [flat_len (s := e.size) (fun a => e.cells_len a), hA]) (some m) (fun c e => by cases e; exact hle)
        · intro o ho
          obtain ⟨i, hi⟩ := List.getElem?_of_mem ho
          exact (x5 i o hi).2.1.more
        · intro i d' y hd hy
          have := (x5 i y hy).2.2
          have hil := lt_of_get hd
          simp at hil
          simp [hil] at hd
          subst hd
          exact this
  | .st f, .inl t, cs, out, .inl d, hT, h => by
    obtain ⟨fuel, x, h, rfl, rfl⟩ := h
    intro β hs E hro hz
    obtain ⟨fs, h1, h2, h3⟩ := tyB_st hT
    obtain ⟨xs, n', rfl, rfl, hl, hxl, hf⟩ := DataW.trod_struct h1 h
    obtain ⟨β', hs', a, q1, q2, q3, q4, q5, q6, q7⟩ := Sh.arg f (t := .inr (fs.toList, 0)) (cs := out) (out := out.drop 0) (d := .inr (xs.map (·.1))) h3 ⟨n', xs, rfl, by simpa using hxl, by rw [hl, h2]; omega, fun i f hi => hf i f (by simpa using hi), rfl⟩ β hs E hro hz
    exact ⟨β', hs', a, q1, q2, q3, q4, q5, q6, _, rfl, q7⟩
  | .nil, .inr ([], off), cs, out, .inr ds, hT, h => by
    obtain ⟨n, xs, rfl, hxl, hl, hf, rfl⟩ := h
    intro β hs E hro hz
    refine ⟨β, hs, (), Ext.refl _, ⟨[], by simp⟩, E, hro, ?_, trivial, ?_⟩
    · have : cs.length = off := hl
      rw [List.drop_eq_nil_of_le (by omega)]
      trivial
    · have : xs = [] := List.eq_nil_of_length_eq_zero (by simpa using hxl)
      subst this; rfl
  | .cons a r, .inr (f :: fs, off), cs, out, .inr ds, hT, h => by
    obtain ⟨n, xs, rfl, hxl, hl, hf, rfl⟩ := h
    intro β hs E hro hz
    simp only [Sh.tyB, Bool.and_eq_true, beq_iff_eq] at hT
    obtain ⟨⟨⟨t1, t2⟩, t3⟩, t4⟩ := hT
    have hl' : cs.length = off + (a.size + r.size) := hl
    cases xs with
    | nil => simp at hxl
    | cons y ys =>
      have h0 := hf 0 f rfl
      rw [t1, t2] at h0
      obtain ⟨β1, hs1, a1, p1, ⟨g1, p2⟩, p3, p4, p5, p6, p7⟩ := Sh.arg a (t := .inl f.type) (cs := (cs.drop off).take a.size) (out := (cs.drop off).take a.size) (d := .inl y.1) t3 ⟨n, y, h0, rfl, rfl⟩ β hs E hro hz
      obtain ⟨β2, hs2, a2, q1, ⟨g2, q2⟩, q3, q4, q5, q6, q7⟩ := Sh.arg r (t := .inr (fs, off + a.size)) (cs := cs) (out := cs.drop (off + a.size)) (d := .inr (ys.map (·.1))) t4 ⟨n, ys, rfl, by simpa using hxl, by rw [hl']; omega, fun i f hi => by simpa using hf (i + 1) f (by simpa using hi), rfl⟩ β1 hs1 p3 p4 (by rw [p2]; simp; omega)
      refine ⟨β2, hs2, (a1, a2), p1.trans q1, ⟨g1 ++ g2, by rw [q2, p2, List.append_assoc]⟩, q3, q4, ?_, ⟨by rw [q2]; exact p6.more, q6⟩, _, _, rfl, p7, q7⟩
      have e : cs.drop off = (cs.drop off).take a.size ++ cs.drop (off + a.size) := by rw [← List.drop_drop, List.take_append_drop]
      rw [e]
      exact (p5.mono q1 _ _).append q5
/-- the argument as a value of its own. -/
def Sh.top : (s : Sh) → s.D → HV
  | .st f, x => .agg (f.cells x)
  | .int, n => .int .i64 n
  | .bool, b => .bool b
  | .str, t => .str t
  | .bytes, x => x.1
  | .sl _, x => x.1
  | _, _ => .undef
theorem Sh.arg_top {s : Sh} {t : TypeId} {v : Value} {r : Reach} {b0 : Nat} {d : DataW H} {p : List MemPlace} (hT : s.tyB P (.inl t) = true) (hv : Value.okWide P M r b0 t v) (h : DataW.Trod enc P M base (fun _ => true) held t v d p)
    {β : List Ent} {hs : HS} (E : Emb β hs M) (hro : AllRo hs) (hz : 0 < hs.length) :
    ∃ β' hs' a, Ext β β' ∧ (∃ g, hs' = hs ++ g) ∧ Emb β' hs' M ∧ AllRo hs' ∧ Rel β' (s.top a) v ∧ s.Good hs' a ∧ s.Of (.inl d) a := by
  obtain ⟨fuel, h⟩ := h
  obtain ⟨β', hs', a, q1, q2, q3, q4, q5, q6, q7⟩ := Sh.arg (P := P) (enc := enc) (M := M) (base := base) (held := held) s (t := .inl t) (cs := v.cells.toList) (out := v.cells.toList) (d := .inl d) hT ⟨fuel, _, h, rfl, rfl⟩ β hs E hro hz
  refine ⟨β', hs', a, q1, q2, q3, q4, ?_, q6, q7⟩
  have one : ∀ {x : HV}, RelL β' [x] v.cells.toList → v.cells = #[v] → Rel β' x v := by
    intro x h e
    rw [e] at h
    obtain ⟨u, us, e1, e2, _⟩ := h
    simp at e1
    obtain ⟨rfl, rfl⟩ := e1
    exact e2
  cases s with
  | int => obtain ⟨n, rfl⟩ := okWide_int (tyB_int hT) hv; exact one q5 rfl
  | bool => obtain ⟨n, rfl⟩ := okWide_bool (tyB_bool hT) hv; exact one q5 rfl
  | str => obtain ⟨n, rfl⟩ := okWide_string (tyB_str hT) hv; exact one q5 rfl
  | bytes =>
    obtain ⟨u, h1, _⟩ := tyB_bytes hT
    obtain ⟨a1, l1, c1, rfl⟩ := okWide_slice h1 hv; exact one q5 rfl
  | sl e =>
    obtain ⟨u, h1, _⟩ := tyB_slice hT
    obtain ⟨a1, l1, c1, rfl⟩ := okWide_slice h1 hv; exact one q5 rfl
  | st f =>
    obtain ⟨fs, h1, _⟩ := tyB_st hT
    obtain ⟨us, rfl, _⟩ := okWide_struct h1 hv
    exact ⟨us, rfl, q5⟩
  | nil => simp [Sh.tyB] at hT
  | cons a r => simp [Sh.tyB] at hT
end
end
/-- a list of arguments: the chain of their shapes. -/
def Sh.argB (P : Program) : Sh → List TypeId → Bool
  | .nil, [] => true
  | .cons a r, t :: ts => a.tyB P (.inl t) && r.argB P ts
  | _, _ => false
def Sh.tops : (s : Sh) → s.D → List HV
  | .cons a r, x => a.top x.1 :: r.tops x.2
  | _, _ => []
section
variable {P : Program} {H : Type} {enc : TypeId × Value → H} {M : World} {base : Nat} {held : Bool} {rc : Reach} {b0 : Nat}
theorem Sh.args : ∀ (s : Sh) {ts : List TypeId} {vs : List Value} {ds : List (DataW H)} {p : List MemPlace} (_ : s.argB P ts = true) (_ : DataW.TrodAll enc P M base (fun _ => true) held ts vs ds p)
    (_ : ∀ (j : Nat) t v, ts[j]? = some t → vs[j]? = some v → Value.okWide P M rc b0 t v) {β : List Ent} {hs : HS} (_ : Emb β hs M) (_ : AllRo hs) (_ : 0 < hs.length),
    ∃ β' hs' a, Ext β β' ∧ (∃ g, hs' = hs ++ g) ∧ Emb β' hs' M ∧ AllRo hs' ∧ RelL β' (s.tops a) vs ∧ s.Good hs' a ∧ s.Of (.inr ds) a
  | .nil, [], [], [], p, _, _, _, β, hs, E, hro, _ => ⟨β, hs, (), Ext.refl _, ⟨[], by simp⟩, E, hro, rfl, trivial, rfl⟩
  | .cons a r, t :: ts, v :: vs, d :: ds, p, hT, h, hv, β, hs, E, hro, hz => by
    simp only [Sh.argB, Bool.and_eq_true] at hT
    obtain ⟨p1, p2, h1, h2, rfl⟩ := h
    obtain ⟨β1, hs1, a1, x1, ⟨g1, x2⟩, x3, x4, x5, x6, x7⟩ := Sh.arg_top (s := a) hT.1 (hv 0 t v rfl rfl) h1 E hro hz
    obtain ⟨β2, hs2, a2, y1, ⟨g2, y2⟩, y3, y4, y5, y6, y7⟩ := Sh.args r hT.2 h2 (fun j t v ht hw => hv (j + 1) t v (by simpa using ht) (by simpa using hw)) x3 x4 (by rw [x2]; simp; omega)
    exact ⟨β2, hs2, (a1, a2), x1.trans y1, ⟨g1 ++ g2, by rw [y2, x2, List.append_assoc]⟩, y3, y4, ⟨v, vs, rfl, Rel.mono y1 _ _ x5, y5⟩, ⟨by rw [y2]; exact x6.more, y6⟩, d, ds, rfl, x7, y7⟩
end
/-- no list, no text is longer. -/
def Sh.Small (n : Nat) : (s : Sh) → s.D → Prop
  | .str, t => t.length ≤ n
  | .bytes, x => x.2.length ≤ n
  | .sl e, x => x.2.length ≤ n ∧ ∀ y ∈ x.2, e.Small n y
  | .st f, x => f.Small n x
  | .cons a r, x => a.Small n x.1 ∧ r.Small n x.2
  | _, _ => True
end Go.HL
