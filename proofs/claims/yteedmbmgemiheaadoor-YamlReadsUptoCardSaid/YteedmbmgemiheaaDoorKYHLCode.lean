/-
  HL: operations with their operands; how they come of the program's own operations.
-/
import Derived.Test.YteedmbmgemiheaaDoorKYHLOps7
namespace Go.HL
open Go

inductive HX where
  | tmp (t : Nat)
  | cst (v : HV)
  deriving Inhabited

def HX.ev (fr : List HV) : HX → HV
  | .tmp t => fr[t]?.getD .undef
  | .cst v => v

mutual
/-- constants. -/
def cVal : Value → Option HV
  | .bool b => some (.bool b)
  | .int k n => some (.int k n)
  | .string s => some (.str s.data.toList)
  | .pointer none => some .nilPtr
  | .slice none 0 0 => some .nilSlice
  | .map none => some .nilMap
  | .nilFunc => some .nilFunc
  | .nilIface => some .nilIface
  | .agg ⟨cs⟩ => (cVals cs).map .agg
  | .tuple ⟨cs⟩ => (cVals cs).map .tup
  | _ => none
def cVals : List Value → Option (List HV)
  | [] => some []
  | v :: vs => match cVal v, cVals vs with
    | some x, some xs => some (x :: xs)
    | _, _ => none
end

mutual
theorem cVal_rel (β : List Ent) : ∀ (v : Value) (x : HV), cVal v = some x → Rel β x v
  | .bool b, x, h => by simp [cVal] at h; subst h; rfl
  | .int k n, x, h => by simp [cVal] at h; subst h; rfl
  | .string s, x, h => by simp [cVal] at h; subst h; rfl
  | .pointer none, x, h => by simp [cVal] at h; subst h; rfl
  | .pointer (some _), x, h => by simp [cVal] at h
  | .slice none 0 0, x, h => by simp [cVal] at h; subst h; rfl
  | .slice none 0 (_ + 1), x, h => by simp [cVal] at h
  | .slice none (_ + 1) _, x, h => by simp [cVal] at h
  | .slice (some _) _ _, x, h => by simp [cVal] at h
  | .map none, x, h => by simp [cVal] at h; subst h; rfl
  | .map (some _), x, h => by simp [cVal] at h
  | .nilFunc, x, h => by simp [cVal] at h; subst h; rfl
  | .nilIface, x, h => by simp [cVal] at h; subst h; rfl
  | .agg ⟨cs⟩, x, h => by
    simp only [cVal, Option.map_eq_some_iff] at h
    obtain ⟨xs, hx, rfl⟩ := h
    exact ⟨⟨cs⟩, rfl, cVals_rel β cs xs hx⟩
  | .tuple ⟨cs⟩, x, h => by
    simp only [cVal, Option.map_eq_some_iff] at h
    obtain ⟨xs, hx, rfl⟩ := h
    exact ⟨⟨cs⟩, rfl, cVals_rel β cs xs hx⟩
  | .float _ _, x, h => by simp [cVal] at h
  | .complex _ _ _, x, h => by simp [cVal] at h
  | .chan _, x, h => by simp [cVal] at h
  | .func _ _ _, x, h => by simp [cVal] at h
  | .iface _ _, x, h => by simp [cVal] at h
theorem cVals_rel (β : List Ent) : ∀ (vs : List Value) (xs : List HV), cVals vs = some xs → RelL β xs vs
  | [], xs, h => by simp [cVals] at h; subst h; rfl
  | v :: vs, xs, h => by
    unfold cVals at h
    split at h
    · rename_i x xs' h1 h2
      simp at h; subst h
      exact ⟨v, vs, rfl, cVal_rel β v x h1, cVals_rel β vs xs' h2⟩
    · simp at h
end

def cX : Operand → Option HX
  | .tmp t => some (.tmp t)
  | .const v => (cVal v).map .cst
  | .func f => some (.cst (.func (.func f) [] []))
  | .global _ => none

/-- the frame's places. -/
structure FrRel (ds : List Deferred) (β : List Ent) (fr : List HV) (a : Act) : Prop where
  len : fr.length = a.tmps.size
  get : ∀ (i : Nat) (x : HV), fr[i]? = some x → ∃ u, a.tmps[i]? = some u ∧ Rel β x u
  defers : a.defers = ds

variable {ds : List Deferred}

theorem FrRel.mono {β β' : List Ent} {fr : List HV} {a : Act} (h : FrRel ds β fr a) (e : Ext β β') : FrRel ds β' fr a :=
  ⟨h.len, fun i x hx => let ⟨u, h1, h2⟩ := h.get i x hx; ⟨u, h1, h2.mono e _ _⟩, h.defers⟩

theorem cX_rel {β : List Ent} {fr : List HV} {a : Act} (F : FrRel ds β fr a) {o : Operand} {x : HX} (h : cX o = some x) : Rel β (x.ev fr) (a.eval o) := by
  unfold cX at h
  split at h
  · rename_i t
    simp at h; subst h
    simp only [HX.ev]
    cases hx : fr[t]? with
    | none => simp [Rel]
    | some y =>
      obtain ⟨u, h1, h2⟩ := F.get t y hx
      simp only [Option.getD_some, Act.eval]
      have : a.tmps.getD t undef = u := by
        rw [Array.getD_eq_getD_getElem?, h1]; rfl
      rw [this]; exact h2
  · rename_i v
    simp only [Option.map_eq_some_iff] at h
    obtain ⟨y, hy, rfl⟩ := h
    exact cVal_rel β v y hy
  · rename_i f
    simp at h; subst h
    exact ⟨#[], #[], rfl, rfl, rfl, rfl⟩
  · simp at h

def cXs : List Operand → Option (List HX)
  | [] => some []
  | o :: os => match cX o, cXs os with
    | some x, some xs => some (x :: xs)
    | _, _ => none

theorem cXs_rel {β : List Ent} {fr : List HV} {a : Act} (F : FrRel ds β fr a) : ∀ {os : List Operand} {xs : List HX}, cXs os = some xs → RelL β (xs.map (HX.ev fr)) (os.map a.eval)
  | [], xs, h => by simp [cXs] at h; subst h; rfl
  | o :: os, xs, h => by
    unfold cXs at h
    split at h
    · rename_i x xs' h1 h2
      simp at h; subst h
      exact ⟨_, _, rfl, cX_rel F h1, cXs_rel F h2⟩
    · simp at h

def cXo : Option Operand → Option (Option HX)
  | none => some none
  | some o => (cX o).map some

theorem cXo_rel {β : List Ent} {fr : List HV} {a : Act} (F : FrRel ds β fr a) {o : Option Operand} {x : Option HX} (h : cXo o = some x) : RelO β (x.map (HX.ev fr)) (o.map a.eval) := by
  cases o with
  | none => simp [cXo] at h; subst h; trivial
  | some o =>
    simp only [cXo, Option.map_eq_some_iff] at h
    obtain ⟨y, hy, rfl⟩ := h
    exact cX_rel F hy

inductive HOp where
  | mv (x : HX)
  | pick (c a b : HX)
  | box (x : HX)
  | build (zeros : List HV) (parts : List (Nat × Nat × HX))
  | bslice (s len : Nat) (zeros : List HV) (parts : List (Nat × Nat × HX))
  | load (n : Option Nat) (x : HX)
  | store (n : Nat) (a x : HX)
  | nilc (x : HX)
  | bin (op : BinOp) (k : Option EK) (x y : HX)
  | un (op : UnOp) (x : HX)
  | cInt (k : IntKind) (x : HX)
  | mark (x : HX)
  | bad
  | cStr (x : HX)
  | b2s (x : HX)
  | s2b (x : HX)
  | faddr (off : Nat) (x : HX)
  | field (n : Option Nat) (off : Nat) (x : HX)
  | idxS (s : Nat) (x i : HX)
  | idxA (n s : Nat) (x i : HX)
  | gidxA (n s g : Nat) (i : HX)
  | gload (n : Option Nat) (g : Nat)
  | idxV (n s : Nat) (a : Option Nat) (x i : HX)
  | idxStr (x i : HX)
  | sliceStr (x : HX) (lo hi : Option HX)
  | sliceSl (s : Nat) (x : HX) (lo hi mx : Option HX)
  | sliceArr (n s : Nat) (x : HX) (lo hi mx : Option HX)
  | mkSlice (s bytes : Nat) (z : List HV) (l c : HX)
  | mkMap
  | lookup (kk : KK) (z : HV) (ok : Bool) (m k : HX)
  | mapUpd (kk : KK) (m k v : HX)
  | del (kk : KK) (m k : HX)
  | clr (m : HX)
  | rangeStr (x : HX)
  | nextStr (x : HX)
  | rangeMap (x : HX)
  | entry (x : HX)
  | cap (x : HX)
  | iface (t : TypeId) (x : HX)
  | assert (t : TypeId) (z : HV) (ok : Bool) (x : HX)
  | mkfn (fn : Fn) (first captured : List HX)
  | ext (i : Nat) (x : HX)
  | len (k : LK) (x : HX)
  | append (s bytes : Nat) (x y : HX)
  | copy (s : Nat) (x y : HX)
  | minmax (lt : Bool) (xs : List HX)

def evp (fr : List HV) (ps : List (Nat × Nat × HX)) : List (Nat × Nat × HV) := ps.map fun p => (p.1, p.2.1, p.2.2.ev fr)

def capZ : Option Nat → Bool
  | some 0 => true
  | _ => false
/-- a slice's elements are of so many cells. -/
def sOk (hs : HS) (s : Nat) : HV → Bool
  | .slice h _ _ c => capZ c || match hs[h]? with
    | some (some (.cells s' _ _ _ _)) => s' == s
    | _ => false
  | _ => true

theorem sOk_ent {β : List Ent} {hs : HS} {w : World} (E : Emb β hs w) {s : Nat} {x : HV} (h : sOk hs s x = true) : ∀ hh o len cap, x = .slice hh o len cap → cap ≠ some 0 → ∀ en, β[hh]? = some en → en.s = s := by
  rintro hh o len cap rfl h0 en he
  have hz : capZ cap = false := by
    unfold capZ
    split
    · exact absurd rfl h0
    · rfl
  unfold sOk at h
  simp only [hz, Bool.false_or] at h
  split at h
  · rename_i s' cs ro opn olds hb
    have := (E.blk hh en _ he hb).1
    simp at h
    omega
  · simp at h

/-- the handle of a package variable. -/
def gpinOf : HS → Nat → Option Nat
  | [], _ => none
  | some (.gpin g' h) :: r, g => if g' = g then some h else gpinOf r g
  | _ :: r, g => gpinOf r g

theorem gpinOf_get : ∀ {hs : HS} {g h : Nat}, gpinOf hs g = some h → ∃ i : Nat, hs[i]? = some (some (HB.gpin g h))
  | [], g, h, hh => by simp [gpinOf] at hh
  | b :: r, g, h, hh => by
    unfold gpinOf at hh
    split at hh
    · rename_i hx; simp at hx
    · rename_i g' h' r' hx
      obtain ⟨rfl, rfl⟩ := List.cons.inj hx
      split at hh
      · rename_i hg; subst hg
        simp at hh; subst hh
        exact ⟨0, rfl⟩
      · obtain ⟨i, hi⟩ := gpinOf_get hh
        exact ⟨i + 1, by simpa using hi⟩
    · rename_i r' _ hx
      obtain ⟨rfl, rfl⟩ := List.cons.inj hx
      obtain ⟨i, hi⟩ := gpinOf_get hh
      exact ⟨i + 1, by simpa using hi⟩

theorem gpin_rel {β : List Ent} {hs : HS} {w : World} (E : Emb β hs w) {g h : Nat} (hh : gpinOf hs g = some h) : Rel β (.ptr h 0) (.pointer (some ⟨g, 0, none⟩)) := by
  obtain ⟨i, hi⟩ := gpinOf_get hh
  have hlt : i < β.length := by rw [E.len]; exact lt_of_get hi
  obtain ⟨_, _, _, e', h1, h2, h3⟩ := E.blk i _ _ (List.getElem?_eq_getElem hlt) hi
  simp only [Rel]
  exact ⟨e', h1, by rw [h2, h3]⟩

def same (hs : HS) (v : Option HV) : Option (HV × HS) := v.map fun v => (v, hs)
def unit (hs : Option HS) : Option (HV × HS) := hs.map fun hs => (.undef, hs)

def hop (o : HOp) (fr : List HV) (hs : HS) : Option (HV × HS) :=
  match o with
  | .mv x => some (x.ev fr, hs)
  | .pick c a b => match c.ev fr with
    | .bool t => some (if t then a.ev fr else b.ev fr, hs)
    | _ => none
  | .box x => hbox hs (x.ev fr)
  | .build zeros parts => same hs (hbuild zeros (evp fr parts))
  | .bslice s len zeros parts => hbuildSlice hs s len zeros (evp fr parts)
  | .load n x => same hs (hload n hs (x.ev fr))
  | .store n a x => unit (hstore n hs (a.ev fr) (x.ev fr))
  | .nilc x => same hs (hnil (x.ev fr))
  | .bin op k x y => same hs (hbin op k (x.ev fr) (y.ev fr))
  | .un op x => same hs (un op (x.ev fr))
  | .cInt k x => same hs (hconvInt k (x.ev fr))
  | .mark x => same hs (hmark hs (x.ev fr))
  | .bad => none
  | .cStr x => same hs (hconvStr (x.ev fr))
  | .b2s x => match x.ev fr with
    | .str _ => none
    | v => same hs (hb2s hs v)
  | .s2b x => hs2b hs (x.ev fr)
  | .faddr off x => same hs (hfieldAddr off (x.ev fr))
  | .field n off x => same hs (hfield n off (x.ev fr))
  | .idxS s x i => if sOk hs s (x.ev fr) then same hs (hindexAddr s (x.ev fr) (i.ev fr)) else none
  | .idxA n s x i => same hs (hindexArr n s (x.ev fr) (i.ev fr))
  | .gidxA n s g i => match gpinOf hs g with
    | some h => same hs (hindexArr n s (.ptr h 0) (i.ev fr))
    | none => none
  | .gload n g => match gpinOf hs g with
    | some h => same hs (hload n hs (.ptr h 0))
    | none => none
  | .idxV n s a x i => same hs (hindexVal n s a (x.ev fr) (i.ev fr))
  | .idxStr x i => same hs (hindexStr (x.ev fr) (i.ev fr))
  | .sliceStr x lo hi => same hs (hsliceStr (x.ev fr) (lo.map (HX.ev fr)) (hi.map (HX.ev fr)))
  | .sliceArr n s x lo hi mx => same hs (hsliceArr hs n s (x.ev fr) (lo.map (HX.ev fr)) (hi.map (HX.ev fr)) (mx.map (HX.ev fr)))
  | .sliceSl s x lo hi mx => if sOk hs s (x.ev fr) then same hs (hslice (x.ev fr) (lo.map (HX.ev fr)) (hi.map (HX.ev fr)) (mx.map (HX.ev fr))) else none
  | .mkSlice s bytes z l c => hmakeSlice hs s bytes z (l.ev fr) (c.ev fr)
  | .mkMap => hmakeMap hs
  | .lookup kk z ok m k => same hs (hlookup hs kk z ok (m.ev fr) (k.ev fr))
  | .mapUpd kk m k v => unit (hmapUpdate hs kk (m.ev fr) (k.ev fr) (v.ev fr))
  | .del kk m k => (hdelete hs kk (m.ev fr) (k.ev fr)).map fun hs => (.tup [], hs)
  | .clr m => (hclearMap hs (m.ev fr)).map fun hs => (.tup [], hs)
  | .rangeStr x => hrangeStr hs (x.ev fr)
  | .nextStr x => hnextStr hs (x.ev fr)
  | .rangeMap x => hrangeMap hs (x.ev fr)
  | .entry x => same hs (hentry hs (x.ev fr))
  | .cap x => same hs (hcap (x.ev fr))
  | .iface t x => some (.iface t (x.ev fr), hs)
  | .assert t z ok x => same hs (hassert t z ok (x.ev fr))
  | .mkfn fn first captured => some (.func fn (first.map (HX.ev fr)) (captured.map (HX.ev fr)), hs)
  | .ext i x => same hs (hext i (x.ev fr))
  | .len k x => same hs (hlenK hs k (x.ev fr))
  | .append s bytes x y => happend hs s bytes (x.ev fr) (y.ev fr)
  | .copy s x y => hcopy hs s (x.ev fr) (y.ev fr)
  | .minmax lt xs => same hs (hmin lt (xs.map (HX.ev fr)))

/-! ### the program's operations, turned -/
section
variable (P : Program)

def sizeT (t : TypeId) : Option Nat := (P.info? t).map (·.size)
def zeroT (t : TypeId) : Option HV := ((P.info? t).bind (·.zero)).bind cVal

/-- the parts of a struct or of an array. -/
def cParts (place : Nat → Option (Nat × Nat)) : List (Nat × Operand) → Option (List (Nat × Nat × HX))
  | [] => some []
  | (k, o) :: r => match place k, cX o, cParts place r with
    | some (off, size), some x, some xs => some ((off, size, x) :: xs)
    | _, _, _ => none

def appSrc : TypeDesc → Bool
  | .slice _ => true
  | .string => true
  | _ => false

def cOp (o : Op) : Option HOp :=
  match o with
  | .move x | .assign x => (cX x).map .mv
  | .pick c a b => match cX c, cX a, cX b with
    | some c, some a, some b => some (.pick c a b)
    | _, _, _ => none
  | .alloc t => (zeroT P t).map fun z => .box (.cst z)
  | .box _ x => (cX x).map .box
  | .build t parts => match zeroT P t, placesT P t with
    | some z, some pl => if z.cells.all HV.one = true then (cParts pl parts.toList).map (.build z.cells) else none
    | _, _ => none
  | .buildSlice t len parts =>
    match P.underlying t with
    | some (.slice e) => match zeroT P e, sizeT P e with
      | some z, some s => if z.cells.length = s ∧ z.cells.all HV.one = true then (cParts (fun k => some (k * s, s)) parts.toList).map (.bslice s len (List.replicate len z.cells).flatten) else none
      | _, _ => none
    | _ => none
  | .load t x => match aggT P t, cX x with
    | some n, some x => some (.load n x)
    | some n, none => match x with
      | .global g => some (.gload n g)
      | _ => none
    | _, _ => none
  | .store t a x => match sizeT P t, cX a, cX x with
    | some n, some a, some x => some (.store n a x)
    | _, _, _ => none
  | .nilCheck x => (cX x).map .nilc
  | .binOp op t x y _ => match cX x, cX y with
    | some x, some y => some (.bin op (ekBin P op t) x y)
    | _, _ => none
  | .unOp op _ x => (cX x).map (.un op)
  | .convert src dst x =>
    match P.underlying src, P.underlying dst, cX x with
    | some _, some (.int k), some x => some (.cInt k x)
    | some (.slice e), some .string, some x => match P.underlying e with
      | some (.int .u8) => some (.b2s x)
      | _ => none
    | some .string, some (.slice e), some x => match P.underlying e with
      | some (.int .u8) => some (.s2b x)
      | _ => none
    | some .string, some .string, some x => some (.cStr x)
    | some (.slice _), some (.slice e), some x => if src = dst then match P.underlying e with
      | some (.int .u8) => some (.mark x)
      | _ => none
      else none
    | _, _, _ => none
  | .fieldAddr t x k =>
    match P.underlying t with
    | some (.struct fs) => match fs[k]? with
      | some f => match sizeT P f.type, cX x with
        | some n, some x => if n ≠ 0 then some (.faddr f.offset x) else none
        | _, _ => none
      | none => none
    | _ => none
  | .field t x k =>
    match P.underlying t with
    | some (.struct fs) => match fs[k]? with
      | some f => match aggT P f.type, cX x with
        | some n, some x => some (.field n f.offset x)
        | _, _ => none
      | none => none
    | _ => none
  | .indexAddr t x i =>
    match P.underlying t, cX x, cX i with
    | some (.slice e), some x, some i => (sizeT P e).map fun s => .idxS s x i
    | some (.array n e), some x, some i => (sizeT P e).map fun s => .idxA n s x i
    | some (.array n e), none, some i => match x with
      | .global g => (sizeT P e).map fun s => .gidxA n s g i
      | _ => none
    | _, _, _ => none
  | .index t x i =>
    match P.underlying t, cX x, cX i with
    | some .string, some x, some i => some (.idxStr x i)
    | some (.array n e), some x, some i => match sizeT P e, aggT P e with
      | some s, some a => some (.idxV n s a x i)
      | _, _ => none
    | _, _, _ => none
  | .slice t x lo hi mx =>
    match P.underlying t, cX x, cXo lo, cXo hi, cXo mx with
    | some .string, some x, some lo, some hi, some none => some (.sliceStr x lo hi)
    | some (.slice e), some x, some lo, some hi, some mx => (sizeT P e).map fun s => .sliceSl s x lo hi mx
    | some (.array n e), some x, some lo, some hi, some mx => (sizeT P e).map fun s => .sliceArr n s x lo hi mx
    | _, _, _, _, _ => none
  | .makeSlice t l c =>
    match P.underlying t, cX l, cX c with
    | some (.slice e), some l, some c => match P.info? e with
      | some i => match i.zero.bind cVal with
        | some z => some (.mkSlice i.size i.bytes z.cells l c)
        | none => none
      | none => none
    | _, _, _ => none
  | .makeMap _ none => some .mkMap
  | .lookup t m k ok =>
    match P.underlying t with
    | some (.map kt et) => match keyK P kt, zeroT P et, cX m, cX k with
      | some kk, some z, some m, some k => some (.lookup kk z ok m k)
      | _, _, _, _ => none
    | _ => none
  | .mapUpdate t m k v | .insert t m k v =>
    match P.underlying t with
    | some (.map kt _) => match keyK P kt, cX m, cX k, cX v with
      | some kk, some m, some k, some v => some (.mapUpd kk m k v)
      | _, _, _, _ => none
    | _ => none
  | .range t x => match P.underlying t with
    | some .string => (cX x).map .rangeStr
    | some (.map _ _) => (cX x).map .rangeMap
    | _ => none
  | .next x true => (cX x).map .nextStr
  | .entry x => (cX x).map .entry
  | .makeInterface t x => if notIface P t = true then (cX x).map (.iface t) else none
  | .typeAssert x _ t ok => if notIface P t = true then match zeroT P t, cX x with
      | some z, some x => some (.assert t z ok x)
      | _, _ => none
    else none
  | .makeFunc fn first captured => if plainFn fn = true then match cXs first.toList, cXs captured.toList with
      | some f, some c => some (.mkfn fn f c)
      | _, _ => none
    else none
  | .extract x i => (cX x).map (.ext i)
  | .call { callee := .builtin b, args, argTypes } =>
    match b, args.toList, argTypes.toList with
    | .len, [x], [t] => match lenK P t, cX x with
      | some k, some x => some (.len k x)
      | _, _ => none
    | .append, [x, y], [t, tx] =>
      match P.underlying t, P.underlying tx, cX x, cX y with
      | some (.slice e), some d, some x, some y =>
        if appSrc d = true then
          match P.info? e with
          | some i => match i.zero with
            | some z => if z.cells.size = i.size then some (.append i.size i.bytes x y) else none
            | none => none
          | none => none
        else none
      | _, _, _, _ => none
    | .copy, [x, y], [t, _] => match P.underlying t, cX x, cX y with
      | some (.slice e), some x, some y => (sizeT P e).map fun s => .copy s x y
      | _, _, _ => none
    | .delete, [m, k], [t, _] => match P.underlying t with
      | some (.map kt _) => match keyK P kt, cX m, cX k with
        | some kk, some m, some k => some (.del kk m k)
        | _, _, _ => none
      | _ => none
    | .clear, [m], [t] => match P.underlying t with
      | some (.map _ _) => (cX m).map .clr
      | _ => none
    | .min, xs, _ => (cXs xs).map (.minmax true)
    | .max, xs, _ => (cXs xs).map (.minmax false)
    | .cap, [x], [t] => match P.underlying t with
      | some (.slice _) => (cX x).map .cap
      | _ => none
    | _, _, _ => none
  | _ => none

end

/-- what an operation's run comes to: a value, or nothing. -/
def OutN (P : Program) (x : Sem Next) (β : List Ent) (hs : HS) (w : World) (v : HV) (hs' : HS) : Prop :=
  ∃ n w' β', x.run P w = .ok n w' ∧ ((∃ u, n = .value u ∧ Rel β' v u) ∨ (n = .skip ∧ v = .undef)) ∧ Step β hs w β' hs' w'

section
variable {P : Program} {β : List Ent} {hs : HS} {w : World}

theorem OutN.val {x : Sem Value} {v : HV} {hs' : HS} (h : Out P x β hs w v hs') : OutN P (do pure (.value (← x))) β hs w v hs' := by
  obtain ⟨u, w', β', h1, h2, h3⟩ := h
  exact ⟨.value u, w', β', by simp [h1], .inl ⟨u, rfl, h2⟩, h3⟩

theorem OutN.skip {x : Sem Unit} {hs' : HS} (h : OutU P x β hs w hs') : OutN P (do x; pure .skip) β hs w .undef hs' := by
  obtain ⟨w', β', h1, h2⟩ := h
  exact ⟨.skip, w', β', by simp [h1], .inr ⟨rfl, rfl⟩, h2⟩

theorem same_some {v : Option HV} {r : HV} {hs' : HS} (h : same hs v = some (r, hs')) : v = some r ∧ hs' = hs := by
  cases v with
  | none => simp [same] at h
  | some a => simp [same] at h; exact ⟨by rw [h.1], h.2.symm⟩

theorem unit_some {v : Option HS} {r : HV} {hs' : HS} (h : unit v = some (r, hs')) : v = some hs' ∧ r = .undef := by
  cases v with
  | none => simp [unit] at h
  | some a => simp [unit] at h; exact ⟨by rw [h.2], h.1.symm⟩

theorem sizeT_info {t : TypeId} {n : Nat} (h : sizeT P t = some n) : ∃ i, P.info? t = some i ∧ i.size = n := by
  simpa [sizeT, Option.map_eq_some_iff] using h

theorem zeroT_info {t : TypeId} {z : HV} (h : zeroT P t = some z) : ∃ i zv, P.info? t = some i ∧ i.zero = some zv ∧ cVal zv = some z := by
  simp only [zeroT, Option.bind_eq_some_iff] at h
  obtain ⟨zv, ⟨i, h1, h2⟩, h3⟩ := h
  exact ⟨i, zv, h1, h2, h3⟩

theorem cParts_rel {fr : List HV} {a : Act} (F : FrRel ds β fr a) {pl : Nat → Option (Nat × Nat)} : ∀ {ps : List (Nat × Operand)} {xs : List (Nat × Nat × HX)}, cParts pl ps = some xs →
    (evp fr xs).length = (ps.map fun (i, x) => (i, a.eval x)).length ∧ ∀ (j k : Nat) (u : Value), (ps.map fun (i, x) => (i, a.eval x))[j]? = some (k, u) → ∃ off size x, (evp fr xs)[j]? = some (off, size, x) ∧ pl k = some (off, size) ∧ Rel β x u
  | [], xs, h => by simp [cParts] at h; subst h; exact ⟨rfl, fun j k u h => by simp at h⟩
  | (k, o) :: r, xs, h => by
    unfold cParts at h
    split at h
    · rename_i off size x xs' h1 h2 h3
      simp at h; subst h
      obtain ⟨g1, g2⟩ := cParts_rel F h3
      refine ⟨by simpa [evp] using g1, fun j k' u hj => ?_⟩
      cases j with
      | zero =>
        simp at hj; obtain ⟨rfl, rfl⟩ := hj
        exact ⟨off, size, x.ev fr, by simp [evp], h1, cX_rel F h2⟩
      | succ j =>
        obtain ⟨off', size', x', q1, q2, q3⟩ := g2 j k' u (by simpa using hj)
        exact ⟨off', size', x', by simpa [evp] using q1, q2, q3⟩
    · simp at h

end
end Go.HL
