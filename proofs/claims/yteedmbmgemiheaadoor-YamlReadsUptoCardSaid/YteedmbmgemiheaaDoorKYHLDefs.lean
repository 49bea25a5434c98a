/-
  HL: a plain account of memory for walks over the program's Code: 'handles' in the place of block numbers, no capacities. Definitions and how memory stands to them.
-/
import Derived.WalkKit
namespace Go.HL
open Go

/-- where a handle's cells lie: the block, the place of the first cell, how many elements, cells an element. -/
structure Ent where
  blk : Nat
  shift : Nat
  N : Nat
  s : Nat
  deriving Inhabited

inductive HV where
  | undef
  | bool (b : Bool)
  | int (k : IntKind) (n : Int)
  | str (s : List UInt8)
  | ptr (h off : Nat)
  | nilPtr
  | slice (h off len : Nat) (cap : Option Nat)
  | nilSlice
  | map (h : Nat)
  | nilMap
  | func (fn : Fn) (first captured : List HV)
  | nilFunc
  | iface (t : TypeId) (v : HV)
  | nilIface
  | agg (cs : List HV)
  | tup (vs : List HV)
  /-- the 'yield' of a range over a function. -/
  | yld (h : Nat)
  deriving Inhabited

def HV.one : HV → Bool
  | .undef | .agg _ | .tup _ => false
  | _ => true

def HV.cells : HV → List HV
  | .agg cs => cs
  | v => [v]

def plainFn : Fn → Bool
  | .yield _ => false
  | _ => true

mutual
def Rel (β : List Ent) : HV → Value → Prop
  | .undef, _ => True
  | .bool b, v => v = .bool b
  | .int k n, v => v = .int k n
  | .str s, v => v = .string ⟨s.toArray⟩
  | .ptr h o, v => ∃ e, β[h]? = some e ∧ v = .pointer (some ⟨e.blk, e.shift + o, none⟩)
  | .nilPtr, v => v = .pointer none
  | .slice h o len cap, v => ∃ e a c, β[h]? = some e ∧ v = .slice (some a) len c ∧ len ≤ c ∧
      (match cap with | some k => c = k ∧ o + k ≤ e.N | none => o + c = e.N) ∧ (0 < c → a = ⟨e.blk, e.shift + o * e.s, none⟩)
  | .nilSlice, v => v = .slice none 0 0
  | .map h, v => ∃ e, β[h]? = some e ∧ v = .map (some e.blk)
  | .nilMap, v => v = .map none
  | .func fn first cap, v => ∃ us ws, v = .func fn us ws ∧ RelL β first us.toList ∧ RelL β cap ws.toList ∧ plainFn fn = true
  | .nilFunc, v => v = .nilFunc
  | .iface t x, v => ∃ u, v = .iface t u ∧ Rel β x u
  | .nilIface, v => v = .nilIface
  | .agg cs, v => ∃ us, v = .agg us ∧ RelL β cs us.toList
  | .tup vs, v => ∃ us, v = .tuple us ∧ RelL β vs us.toList
  | .yld h, v => ∃ e, β[h]? = some e ∧ v = .func (.yield e.blk) #[] #[]
def RelL (β : List Ent) : List HV → List Value → Prop
  | [], us => us = []
  | x :: xs, us => ∃ u us', us = u :: us' ∧ Rel β x u ∧ RelL β xs us'
end

def Ext (β β' : List Ent) : Prop := ∃ γ, β' = β ++ γ

theorem Ext.refl (β : List Ent) : Ext β β := ⟨[], by simp⟩
theorem Ext.trans {a b c : List Ent} (h : Ext a b) (h' : Ext b c) : Ext a c := by
  obtain ⟨x, rfl⟩ := h; obtain ⟨y, rfl⟩ := h'; exact ⟨x ++ y, by simp⟩
theorem Ext.get {β β' : List Ent} (h : Ext β β') {i : Nat} {e : Ent} (hi : β[i]? = some e) : β'[i]? = some e := by
  obtain ⟨x, rfl⟩ := h
  have : i < β.length := by
    rcases Nat.lt_or_ge i β.length with h | h
    · exact h
    · simp [List.getElem?_eq_none h] at hi
  rw [List.getElem?_append_left this]; exact hi
theorem Ext.length {β β' : List Ent} (h : Ext β β') : β.length ≤ β'.length := by
  obtain ⟨x, rfl⟩ := h; simp
theorem Ext.snoc (β : List Ent) (e : Ent) : Ext β (β ++ [e]) := ⟨[e], rfl⟩

mutual
theorem Rel.mono {β β' : List Ent} (h : Ext β β') : ∀ (x : HV) (v : Value), Rel β x v → Rel β' x v
  | .undef, _, _ => trivial
  | .bool _, _, r => r
  | .int _ _, _, r => r
  | .str _, _, r => r
  | .ptr _ _, _, r => by simp only [Rel] at *; obtain ⟨e, he, hv⟩ := r; exact ⟨e, h.get he, hv⟩
  | .nilPtr, _, r => r
  | .slice _ _ _ _, _, r => by
    simp only [Rel] at *; obtain ⟨e, a, c, he, hv⟩ := r; exact ⟨e, a, c, h.get he, hv⟩
  | .nilSlice, _, r => r
  | .map _, _, r => by simp only [Rel] at *; obtain ⟨e, he, hv⟩ := r; exact ⟨e, h.get he, hv⟩
  | .nilMap, _, r => r
  | .func fn first cap, _, r => by
    simp only [Rel] at *
    obtain ⟨us, ws, hv, h1, h2, h3⟩ := r
    exact ⟨us, ws, hv, RelL.mono h first _ h1, RelL.mono h cap _ h2, h3⟩
  | .nilFunc, _, r => r
  | .iface t x, _, r => by
    simp only [Rel] at *
    obtain ⟨u, hv, h1⟩ := r
    exact ⟨u, hv, Rel.mono h x _ h1⟩
  | .nilIface, _, r => r
  | .agg cs, _, r => by
    simp only [Rel] at *
    obtain ⟨us, hv, h1⟩ := r
    exact ⟨us, hv, RelL.mono h cs _ h1⟩
  | .tup cs, _, r => by
    simp only [Rel] at *
    obtain ⟨us, hv, h1⟩ := r
    exact ⟨us, hv, RelL.mono h cs _ h1⟩
  | .yld _, _, r => by simp only [Rel] at *; obtain ⟨e, he, hv⟩ := r; exact ⟨e, h.get he, hv⟩
theorem RelL.mono {β β' : List Ent} (h : Ext β β') : ∀ (xs : List HV) (us : List Value), RelL β xs us → RelL β' xs us
  | [], _, r => r
  | x :: xs, _, r => by
    simp only [RelL] at *
    obtain ⟨u, us', hv, h1, h2⟩ := r
    exact ⟨u, us', hv, Rel.mono h x _ h1, RelL.mono h xs _ h2⟩
end

theorem RelL.length {β : List Ent} : ∀ {xs : List HV} {us : List Value}, RelL β xs us → xs.length = us.length
  | [], _, r => by simp only [RelL] at r; subst r; rfl
  | x :: xs, _, r => by
    simp only [RelL] at r
    obtain ⟨u, us', rfl, _, h2⟩ := r
    simp [RelL.length h2]

theorem RelL.get {β : List Ent} : ∀ {xs : List HV} {us : List Value}, RelL β xs us → ∀ {i : Nat} {x : HV}, xs[i]? = some x → ∃ u, us[i]? = some u ∧ Rel β x u
  | [], _, r, i, x, h => by simp at h
  | y :: xs, _, r, i, x, h => by
    simp only [RelL] at r
    obtain ⟨u, us', rfl, h1, h2⟩ := r
    cases i with
    | zero => simp at h; subst h; exact ⟨u, by simp, h1⟩
    | succ i => simpa using RelL.get h2 (by simpa using h)

theorem RelL.of_get {β : List Ent} : ∀ {xs : List HV} {us : List Value}, xs.length = us.length → (∀ (i : Nat) (x : HV), xs[i]? = some x → ∃ u, us[i]? = some u ∧ Rel β x u) → RelL β xs us
  | [], us, hl, _ => by simp only [RelL]; cases us <;> simp_all
  | x :: xs, us, hl, h => by
    cases us with
    | nil => simp at hl
    | cons u us =>
      simp only [RelL]
      refine ⟨u, us, rfl, ?_, RelL.of_get (by simpa using hl) fun i y hy => ?_⟩
      · obtain ⟨u', h1, h2⟩ := h 0 x (by simp)
        simp at h1; subst h1; exact h2
      · simpa using h (i + 1) y (by simpa using hy)

theorem RelL.append {β : List Ent} {xs ys : List HV} {us vs : List Value} (h : RelL β xs us) (h' : RelL β ys vs) : RelL β (xs ++ ys) (us ++ vs) := by
  induction xs generalizing us with
  | nil => simp only [RelL] at h; subst h; simpa using h'
  | cons x xs ih =>
    simp only [RelL] at h
    obtain ⟨u, us', rfl, h1, h2⟩ := h
    simp only [List.cons_append, RelL]
    exact ⟨u, us' ++ vs, rfl, h1, ih h2⟩

theorem RelL.take {β : List Ent} {xs : List HV} {us : List Value} (h : RelL β xs us) (n : Nat) : RelL β (xs.take n) (us.take n) := by
  induction xs generalizing us n with
  | nil => simp only [RelL] at h; subst h; simp [RelL]
  | cons x xs ih =>
    simp only [RelL] at h
    obtain ⟨u, us', rfl, h1, h2⟩ := h
    cases n with
    | zero => simp [RelL]
    | succ n => simp only [List.take_succ_cons, RelL]; exact ⟨u, _, rfl, h1, ih h2 n⟩

theorem RelL.drop {β : List Ent} {xs : List HV} {us : List Value} (h : RelL β xs us) (n : Nat) : RelL β (xs.drop n) (us.drop n) := by
  induction xs generalizing us n with
  | nil => simp only [RelL] at h; subst h; simp [RelL]
  | cons x xs ih =>
    have h0 := h
    simp only [RelL] at h
    obtain ⟨u, us', rfl, h1, h2⟩ := h
    cases n with
    | zero => simpa using h0
    | succ n => simpa using ih h2 n

theorem Rel.cells {β : List Ent} {x : HV} {v : Value} (h : Rel β x v) (hx : x ≠ .undef) : RelL β x.cells v.cells.toList := by
  cases x <;> try (simp only [HV.cells, RelL]; refine ⟨v, [], ?_, h, rfl⟩; simp only [Rel] at h; (try obtain ⟨_, _, _, _, rfl, _⟩ := h) ; (try obtain ⟨_, _, rfl, _⟩ := h); (try obtain ⟨_, _, rfl⟩ := h); (try obtain ⟨_, rfl, _⟩ := h); (try subst h); rfl)
  case undef => exact absurd rfl hx
  case agg cs =>
    simp only [Rel] at h
    obtain ⟨us, rfl, h1⟩ := h
    exact h1

theorem Rel.one {β : List Ent} {x : HV} {v : Value} (h : Rel β x v) (hx : x.one = true) : v.oneCell' = true := by
  cases x <;> simp only [HV.one, Bool.false_eq_true] at hx <;> simp only [Rel] at h <;>
    first
    | (subst h; rfl)
    | (obtain ⟨_, _, rfl⟩ := h; rfl)
    | (obtain ⟨_, _, _, _, rfl, _⟩ := h; rfl)
    | (obtain ⟨_, _, rfl, _⟩ := h; rfl)
    | (obtain ⟨_, rfl, _⟩ := h; rfl)

/-- a jump that a round has left. -/
def jumpCode : Option Nat → Code
  | none => .ret
  | some id => .exit id

/-- what lies behind a handle. -/
inductive HB where
  | cells (s : Nat) (cs : List HV) (ro opn : Bool) (olds : List Nat)
  | map (es : List (HV × HV × Nat)) (clock : Nat)
  | siter (s : List UInt8) (pos : Nat)
  | miter (m : Option Nat) (since : Nat) (seen : List Nat) (stepped : Nat)
  /-- the package variable g holds some int. -/
  | gint (g : Nat)
  /-- the package variable g is what lies behind the handle h. -/
  | gpin (g h : Nat)
  /-- the package variable g holds just these integers. -/
  | gtab (g : Nat) (k : IntKind) (zs : List Int)
  /-- a block of one cell: the map h. -/
  | kbox (h : Nat)
  /-- a range over a function: its state, the jump that waits, the frame, the places, the assignment, the body. -/
  | loop (st : LoopState) (pend : Option (Option Nat)) (fr : List HV) (ps : List Nat) (a b : Code)
  deriving Inhabited

def HB.ro : HB → Bool
  | .cells _ _ ro _ _ => ro
  | .gint _ | .gpin _ _ | .gtab _ _ _ | .kbox _ => true
  | _ => false

def HB.olds : HB → List Nat
  | .cells _ _ _ _ olds => olds
  | _ => []

def HB.clen : HB → Nat
  | .cells _ cs _ _ _ => cs.length
  | .gint _ => 1
  | .gtab _ _ zs => zs.length
  | .kbox _ => 1
  | _ => 0

abbrev HS := List (Option HB)

def RelE (β : List Ent) : List (HV × HV × Nat) → List MapEntry → Prop
  | [], es => es = []
  | (k, v, n) :: xs, es => ∃ e es', es = e :: es' ∧ Rel β k e.key ∧ Rel β v e.val ∧ e.born = n ∧ RelE β xs es'

theorem RelE.mono {β β' : List Ent} (h : Ext β β') : ∀ (xs : List (HV × HV × Nat)) (es : List MapEntry), RelE β xs es → RelE β' xs es
  | [], _, r => r
  | (k, v, n) :: xs, _, r => by
    simp only [RelE] at *
    obtain ⟨e, es', rfl, h1, h2, h3, h4⟩ := r
    exact ⟨e, es', rfl, h1.mono h _ _, h2.mono h _ _, h3, RelE.mono h xs _ h4⟩

/-- no cell among the first n is frozen. -/
def Free (fz : Nat × Nat) (n : Nat) : Prop := fz.1 = fz.2 ∨ n ≤ fz.1

theorem Free.away {fz : Nat × Nat} {n : Nat} (h : Free fz n) (i : Nat) (hi : i < n) : ¬ (fz.1 ≤ i ∧ i < fz.2) := by
  rcases h with h | h <;> omega

def BlkRel (β : List Ent) (w : World) (e : Ent) : HB → Prop
  | .cells s cs ro _ _ => e.s = s ∧ ∃ cur t fz, w.heap[e.blk]? = some (.cells cur t fz) ∧
      (ro = false → Free fz cur.size) ∧ e.shift + e.N * s ≤ cur.size ∧ cs.length ≤ e.N * s ∧
      ∀ i x, cs[i]? = some x → ∃ u, cur[e.shift + i]? = some u ∧ Rel β x u ∧ x.one = true
  | .map es clock => ∃ res, w.heap[e.blk]? = some (.map res clock) ∧ RelE β es res.toList
  | .siter s pos => w.heap[e.blk]? = some (.stringIter ⟨s.toArray⟩ pos) ∧ e.shift = 0
  | .miter m since seen stepped => e.shift = 0 ∧ ∃ mb, w.heap[e.blk]? = some (.mapIter mb since seen.toArray stepped) ∧
      (match m with | none => mb = none | some h => ∃ e', β[h]? = some e' ∧ mb = some e'.blk)
  | .gint g => e.blk = g ∧ e.shift = 0 ∧ ∃ cur t fz m, w.heap[e.blk]? = some (.cells cur t fz) ∧ cur[0]? = some (.int .i64 m)
  | .gpin g h => e.blk = g ∧ e.shift = 0 ∧ (∃ o, w.heap[e.blk]? = some o) ∧ ∃ e', β[h]? = some e' ∧ e'.blk = g ∧ e'.shift = 0
  | .gtab g k zs => e.blk = g ∧ e.shift = 0 ∧ ∃ t fz, w.heap[e.blk]? = some (.cells (zs.map (Value.int k)).toArray t fz)
  | .kbox h => e.shift = 0 ∧ ∃ t fz e', w.heap[e.blk]? = some (.cells #[.map (some e'.blk)] t fz) ∧ β[h]? = some e'
  | .loop st pend fr ps a b => ∃ r : Loop, w.heap[e.blk]? = some (.loop r) ∧ r.state = st ∧ r.pending = pend.map jumpCode ∧ r.params.toList = ps ∧ r.assign = a ∧ r.body = b ∧ fr.length = r.tmps.size ∧
      ∀ (i : Nat) (x : HV), fr[i]? = some x → ∃ u, r.tmps[i]? = some u ∧ Rel β x u

theorem BlkRel.mono {β β' : List Ent} (h : Ext β β') {w : World} {e : Ent} {b : HB} (r : BlkRel β w e b) : BlkRel β' w e b := by
  cases b with
  | cells s cs ro opn olds =>
    obtain ⟨hs, cur, t, fz, h1, h2, h3, h4, h5⟩ := r
    refine ⟨hs, cur, t, fz, h1, h2, h3, h4, fun i x hx => ?_⟩
    obtain ⟨u, h6, h7, h8⟩ := h5 i x hx
    exact ⟨u, h6, h7.mono h _ _, h8⟩
  | map es clock =>
    obtain ⟨res, h1, h2⟩ := r
    exact ⟨res, h1, h2.mono h _ _⟩
  | siter s pos => exact r
  | gint g => exact r
  | gtab g k zs => exact r
  | kbox h' =>
    obtain ⟨h0, t, fz, e', h1, h2⟩ := r
    exact ⟨h0, t, fz, e', h1, h.get h2⟩
  | loop st pend fr ps a b =>
    obtain ⟨rr, h1, h2, h3, h4, h5, h6, h7, h8⟩ := r
    refine ⟨rr, h1, h2, h3, h4, h5, h6, h7, fun i x hx => ?_⟩
    obtain ⟨u, g1, g2⟩ := h8 i x hx
    exact ⟨u, g1, g2.mono h _ _⟩
  | gpin g h' =>
    obtain ⟨h1, h2, h4, e', h3, h5⟩ := r
    exact ⟨h1, h2, h4, e', h.get h3, h5⟩
  | miter m since seen stepped =>
    obtain ⟨h0, mb, h1, h2⟩ := r
    refine ⟨h0, mb, h1, ?_⟩
    cases m with
    | none => exact h2
    | some m => obtain ⟨e', h3, h4⟩ := h2; exact ⟨e', h.get h3, h4⟩

/-- a block's relation hangs on that block alone. -/
theorem BlkRel.world {β : List Ent} {w w' : World} {e : Ent} {b : HB} (r : BlkRel β w e b) (hw : w'.heap[e.blk]? = w.heap[e.blk]?) : BlkRel β w' e b := by
  cases b <;> simpa only [BlkRel, hw] using r

structure Emb (β : List Ent) (hs : HS) (w : World) : Prop where
  len : β.length = hs.length
  blk : ∀ (h : Nat) (e : Ent) (b : HB), β[h]? = some e → hs[h]? = some (some b) → BlkRel β w e b
  sep : ∀ (g h : Nat) (e e' : Ent) (b b' : HB), g ≠ h → β[g]? = some e → β[h]? = some e' → hs[g]? = some (some b) → hs[h]? = some (some b') →
    e.blk = e'.blk → b'.ro = false → g ∈ b'.olds ∧ b.ro = true ∧ e.shift + b.clen ≤ e'.shift + b'.clen

theorem lt_of_get {α : Type} {l : List α} {i : Nat} {x : α} (h : l[i]? = some x) : i < l.length := by
  rcases Nat.lt_or_ge i l.length with h' | h'
  · exact h'
  · simp [List.getElem?_eq_none h'] at h

theorem lt_of_geta {α : Type} {l : Array α} {i : Nat} {x : α} (h : l[i]? = some x) : i < l.size := by
  rcases Nat.lt_or_ge i l.size with h' | h'
  · exact h'
  · simp [Array.getElem?_eq_none h'] at h

theorem BlkRel.lt {β : List Ent} {w : World} {e : Ent} {b : HB} (r : BlkRel β w e b) : e.blk < w.heap.size := by
  cases b with
  | cells => obtain ⟨_, _, _, _, h, _⟩ := r; exact lt_of_geta h
  | map => obtain ⟨_, h, _⟩ := r; exact lt_of_geta h
  | siter => exact lt_of_geta r.1
  | miter => obtain ⟨_, _, h, _⟩ := r; exact lt_of_geta h
  | gint => obtain ⟨_, _, _, _, _, _, h, _⟩ := r; exact lt_of_geta h
  | gpin => obtain ⟨_, _, ⟨_, h⟩, _⟩ := r; exact lt_of_geta h
  | gtab => obtain ⟨_, _, _, _, h⟩ := r; exact lt_of_geta h
  | kbox => obtain ⟨_, _, _, _, h, _⟩ := r; exact lt_of_geta h
  | loop => obtain ⟨_, h, _⟩ := r; exact lt_of_geta h

/-- the blocks that a state may write. -/
def Own (β : List Ent) (hs : HS) (k : Nat) : Prop := ∃ (h : Nat) (e : Ent) (b : HB), β[h]? = some e ∧ hs[h]? = some (some b) ∧ b.ro = false ∧ e.blk = k

structure Step (β : List Ent) (hs : HS) (w : World) (β' : List Ent) (hs' : HS) (w' : World) : Prop where
  ext : Ext β β'
  emb : Emb β' hs' w'
  size : w.heap.size ≤ w'.heap.size
  same : ∀ k, k < w.heap.size → ¬ Own β hs k → w'.heap[k]? = w.heap[k]?
  own : ∀ k, k < w.heap.size → Own β' hs' k → Own β hs k
  os : w'.os = w.os
  output : w'.output = w.output
  tape : w'.tape = w.tape
  fresh : ∀ (h : Nat) (e : Ent), β.length ≤ h → β'[h]? = some e → w.heap.size ≤ e.blk ∨ Own β hs e.blk

theorem Step.refl {β : List Ent} {hs : HS} {w : World} (h : Emb β hs w) : Step β hs w β hs w :=
  ⟨Ext.refl _, h, Nat.le_refl _, fun _ _ _ => rfl, fun _ _ h => h, rfl, rfl, rfl, fun _ _ hl he => absurd (lt_of_get he) (by omega)⟩

theorem Step.trans {β β1 β2 : List Ent} {hs hs1 hs2 : HS} {w w1 w2 : World} (a : Step β hs w β1 hs1 w1) (b : Step β1 hs1 w1 β2 hs2 w2) : Step β hs w β2 hs2 w2 where
  ext := a.ext.trans b.ext
  emb := b.emb
  size := Nat.le_trans a.size b.size
  same k hk hn := by
    rw [b.same k (Nat.lt_of_lt_of_le hk a.size) (fun h => hn (a.own k hk h))]
    exact a.same k hk hn
  own k hk h := a.own k hk (b.own k (Nat.lt_of_lt_of_le hk a.size) h)
  os := b.os.trans a.os
  output := b.output.trans a.output
  tape := b.tape.trans a.tape
  fresh h e hl he := by
    rcases Nat.lt_or_ge h β1.length with h1 | h1
    · have he1 : β1[h]? = some β1[h] := List.getElem?_eq_getElem h1
      have := b.ext.get he1
      rw [he] at this
      rw [Option.some.inj this]
      exact a.fresh h _ hl he1
    · rcases b.fresh h e h1 he with h2 | h2
      · exact .inl (Nat.le_trans a.size h2)
      · rcases Nat.lt_or_ge e.blk w.heap.size with h3 | h3
        · exact .inr (a.own _ h3 h2)
        · exact .inl h3

/-- a world with the same heap. -/
theorem Step.heap {β : List Ent} {hs : HS} {w w' : World} (h : Emb β hs w) (hh : w'.heap = w.heap) (ho : w'.os = w.os) (hu : w'.output = w.output) (ht : w'.tape = w.tape) : Step β hs w β hs w' where
  ext := Ext.refl _
  emb := ⟨h.len, fun i e b h1 h2 => (h.blk i e b h1 h2).world (by rw [hh]), h.sep⟩
  size := by rw [hh]; exact Nat.le_refl _
  same k _ _ := by rw [hh]
  own _ _ h := h
  os := ho
  output := hu
  tape := ht
  fresh _ _ hl he := absurd (lt_of_get he) (by omega)

theorem Step.drew {β : List Ent} {hs : HS} {w : World} (h : Emb β hs w) (n : Nat) : Step β hs w β hs { w with drawn := n } := Step.heap h rfl rfl rfl rfl

end Go.HL
