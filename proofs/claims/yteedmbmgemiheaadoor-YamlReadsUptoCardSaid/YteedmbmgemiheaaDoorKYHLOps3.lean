/-
  HL: structs, slices, strings.
-/
import Derived.Test.YteedmbmgemiheaaDoorKYHLOps2
namespace Go.HL
open Go

section
variable {P : Program} {β : List Ent} {hs : HS} {w : World}

/-- the kinds of a struct's or an array's places: off, size. -/
def placesT (P : Program) (t : TypeId) : Option (Nat → Option (Nat × Nat)) :=
  match P.underlying t with
  | some (.struct fs) => (fs.toList.mapM fun f => (P.info? f.type).map fun i => (f.offset, i.size)).map fun l => fun k => l[k]?
  | some (.array _ e) => (P.info? e).map fun i => fun k => some (k * i.size, i.size)
  | _ => none

theorem run_mapM_places (fs : Array Field) (l : List (Nat × Nat)) (h : (fs.toList.mapM fun f => (P.info? f.type).map fun i => (f.offset, i.size)) = some l) (w : World) :
    (fs.mapM fun f => (do pure (f.offset, ← sizeOf f.type) : Sem (Nat × Nat))).run P w = .ok l.toArray w := by
  rw [Array.mapM_eq_mapM_toList]
  have key : ∀ (fl : List Field) (l : List (Nat × Nat)), (fl.mapM fun f => (P.info? f.type).map fun i => (f.offset, i.size)) = some l →
      (fl.mapM fun f => (do pure (f.offset, ← sizeOf f.type) : Sem (Nat × Nat))).run P w = .ok l w := by
    intro fl
    induction fl with
    | nil => intro l h; simp at h; subst h; simp
    | cons f fl ih =>
      intro l h
      rw [List.mapM_cons] at h
      simp only [Option.bind_eq_bind, Option.bind_eq_some_iff, Option.map_eq_some_iff] at h
      obtain ⟨p, ⟨i, hi, rfl⟩, r, hr, h2⟩ := h
      simp at h2; subst h2
      have h1 : (do pure (f.offset, ← sizeOf f.type) : Sem (Nat × Nat)).run P w = .ok (f.offset, i.size) w := by simp [sizeOf, typeInfo, hi]
      rw [List.mapM_cons]
      simp only [Sem.run_bind] at h1 ⊢
      rw [h1]
      simp only [Result.andThen_ok, ih r hr, Sem.run_pure]
  rw [Sem.run_map, key fs.toList l h]
  rfl

/-- a struct or an array of some parts. -/
def hbuild (zeros : List HV) (parts : List (Nat × Nat × HV)) : Option HV :=
  if zeros.all HV.one = true then (hfill zeros parts).map .agg else none

theorem hbuild_sound (E : Emb β hs w) {t : TypeId} {i : TypeInfo} {zeros : List HV} {z : Value} {place : Nat → Option (Nat × Nat)} {parts : Array (Nat × Value)} {hp : List (Nat × Nat × HV)} {v : HV}
    (hi : P.info? t = some i) (hz : i.zero = some z) (hzr : RelL β zeros z.cells.toList) (hpl : placesT P t = some place) (hl : hp.length = parts.toList.length)
    (hpp : ∀ (j : Nat) k u, parts.toList[j]? = some (k, u) → ∃ off size x, hp[j]? = some (off, size, x) ∧ place k = some (off, size) ∧ Rel β x u) (h : hbuild zeros hp = some v) :
    Out P (Instr.build t parts) β hs w v hs := by
  unfold hbuild at h
  split at h
  · rename_i h1
    simp only [Option.map_eq_some_iff] at h
    obtain ⟨out, hf, rfl⟩ := h
    obtain ⟨vs, g1, g2, g3, g4⟩ := fill_sound (β := β) parts.toList hp zeros z.cells out hl hpp hzr (all_one h1) hf
    refine Out.same E (u := .agg vs) ?_ ⟨vs, rfl, g2⟩
    unfold placesT at hpl
    cases hu : P.underlying t with
    | none => rw [hu] at hpl; simp at hpl
    | some d =>
      rw [hu] at hpl
      cases d <;> simp only [Option.map_eq_some_iff] at hpl <;> (try (simp at hpl; done))
      case struct fs =>
        obtain ⟨l, hl1, rfl⟩ := hpl
        have hm := run_mapM_places (P := P) fs l hl1 w
        have : (fun (k : Nat) => l.toArray[k]?) = (fun (k : Nat) => l[k]?) := by funext k; simp
        simp only [Instr.build, zeroValue, typeInfo, hi, hz, Sem.run_bind, run_program, Sem.run_pure, Result.andThen_ok, run_underlying hu, hm, this, g1]
      case array n e =>
        obtain ⟨ie, hie, rfl⟩ := hpl
        simp [Instr.build, zeroValue, typeInfo, hi, hz, run_underlying hu, sizeOf, hie, g1]
  · simp at h

/-- a slice of some elements, new. -/
def hbuildSlice (hs : HS) (s len : Nat) (zeros : List HV) (parts : List (Nat × Nat × HV)) : Option (HV × HS) :=
  if zeros.length = len * s ∧ zeros.all HV.one = true ∧ len * s ≤ 16777216 then
    (hfill zeros parts).map fun out => (.slice hs.length 0 len (some len), hs ++ [some (.cells s out false false [])])
  else none

theorem hbuildSlice_sound (E : Emb β hs w) {t e : TypeId} {i : TypeInfo} {len s : Nat} {zeros : List HV} {z : Value} {parts : Array (Nat × Value)} {hp : List (Nat × Nat × HV)} {v : HV} {hs' : HS}
    (ht : P.underlying t = some (.slice e)) (hi : P.info? e = some i) (hz : i.zero = some z) (hs1 : i.size = s) (_hzs : z.cells.size = s)
    (hzr : RelL β zeros ((Array.range (len * s)).map (z.cells[· % z.cells.size]!)).toList) (hl : hp.length = parts.toList.length)
    (hpp : ∀ (j : Nat) k u, parts.toList[j]? = some (k, u) → ∃ x, hp[j]? = some (k * s, s, x) ∧ Rel β x u) (h : hbuildSlice hs s len zeros hp = some (v, hs')) :
    Out P (Instr.buildSlice t len parts) β hs w v hs' := by
  unfold hbuildSlice at h
  split at h
  · rename_i h1
    obtain ⟨c1, c2, c3⟩ := h1
    simp only [Option.map_eq_some_iff] at h
    obtain ⟨out, hf, h2⟩ := h
    simp at h2; obtain ⟨rfl, rfl⟩ := h2
    obtain ⟨vs, g1, g2, g3, g4⟩ := fill_sound (β := β) (place := fun k => some (k * s, s)) parts.toList hp zeros ((Array.range (len * s)).map (z.cells[· % z.cells.size]!)) out hl
      (fun j k u hj => by obtain ⟨x, h1, h2⟩ := hpp j k u hj; exact ⟨_, _, x, h1, rfl, h2⟩) hzr (all_one c2) hf
    have S := new_row E e s len false g2 g3 (by omega)
    refine ⟨.slice (some ⟨w.heap.size, 0, none⟩) len len, _, _, ?_, ?_, S⟩
    · have hbig : ¬ (16777216 < len * s) := by omega
      by_cases h0 : len * s = 0
      · have hr0 : (Array.range 0).map (fun (x : Nat) => (#[] : Array Value)[x % (#[] : Array Value).size]!) = (#[] : Array Value) := by simp
        have hr1 : (Array.range 0).map (fun (x : Nat) => z.cells[x % z.cells.size]!) = (#[] : Array Value) := by simp
        rw [h0, hr1] at g1
        simp only [Instr.buildSlice, run_underlying ht, Sem.run_bind, Result.andThen_ok, sizeOf, typeInfo, run_program, hi, Sem.run_pure, hs1]
        rw [if_neg (by simpa using hbig)]
        simp only [Sem.run_bind, h0, if_true, Sem.run_pure, Result.andThen_ok, hr0, g1]
        simp [newRow]
      · simp only [Instr.buildSlice, run_underlying ht, Sem.run_bind, Result.andThen_ok, sizeOf, typeInfo, run_program, hi, Sem.run_pure, hs1]
        rw [if_neg (by simpa using hbig)]
        simp only [Sem.run_bind, if_neg h0, zeroValue, typeInfo, run_program, hi, hz, Sem.run_pure, Result.andThen_ok, g1]
        simp [newRow]
    · simp only [Rel]
      exact ⟨_, ⟨w.heap.size, 0, none⟩, len, by rw [← E.len]; exact get_snoc_last _ _, rfl, Nat.le_refl _, ⟨rfl, by simp⟩, fun _ => by simp⟩
  · simp at h

/-! ### addresses -/
def hnil : HV → Option HV
  | .ptr h o => some (.ptr h o)
  | .iface t v => some (.iface t v)
  | .func (.func f) a b => some (.func (.func f) a b)
  | _ => none

theorem hnil_sound (_E : Emb β hs w) {dst : Option Nat} {x : Operand} {ty : TypeId} {pos : String} {after : Array Edge} {guard : Option (Nat × Bool)} {ρ : Operand → Value} {v : HV} {r : HV} (hx : Rel β r (ρ x)) (h : hnil r = some v) :
    (execOp ρ { dst, op := .nilCheck x, type := ty, pos, after, guard }).run P w = .ok (.value (ρ x)) w ∧ Rel β v (ρ x) := by
  unfold hnil at h
  split at h <;> simp at h <;> subst h
  · have hx0 := hx
    simp only [Rel] at hx; obtain ⟨e, he, hv⟩ := hx
    exact ⟨by simp [execOp, hv], hx0⟩
  · have hx0 := hx
    simp only [Rel] at hx; obtain ⟨u, hv, _⟩ := hx
    exact ⟨by simp [execOp, hv], hx0⟩
  · have hx0 := hx
    simp only [Rel] at hx; obtain ⟨us, ws, hv, _⟩ := hx
    exact ⟨by simp [execOp, hv], hx0⟩

def hfieldAddr (off : Nat) : HV → Option HV
  | .ptr h o => some (.ptr h (o + off))
  | _ => none

theorem hfieldAddr_sound (E : Emb β hs w) {t : TypeId} {fs : Array Field} {k : Nat} {f : Field} {i : TypeInfo} {x v : HV} {u : Value} (ht : P.underlying t = some (.struct fs)) (hf : fs[k]? = some f) (hi : P.info? f.type = some i) (h0 : i.size ≠ 0)
    (hx : Rel β x u) (h : hfieldAddr f.offset x = some v) : Out P (Instr.fieldAt t u k) β hs w v hs := by
  unfold hfieldAddr at h
  split at h
  · rename_i hh o
    simp at h; subst h
    simp only [Rel] at hx; obtain ⟨e, he, rfl⟩ := hx
    refine Out.same E (u := .pointer (some ⟨e.blk, e.shift + (o + f.offset), none⟩)) ?_ ⟨e, he, rfl⟩
    simp [Instr.fieldAt, run_underlying ht, hf, Instr.sureAddr, fieldPlace, sizeOf, typeInfo, hi, h0, Addr.add_lit, Nat.add_assoc]
  · simp at h

/-- a part of cells. -/
def hpart (n : Option Nat) (off : Nat) (cs : List HV) : Option HV :=
  match n with
  | none => cs[off]?
  | some k => some (.agg ((cs.drop off).take k))

theorem hpart_sound {t : TypeId} {n : Option Nat} {off : Nat} {cs : List HV} {us : Array Value} {v : HV} (ht : aggT P t = some n) (hr : RelL β cs us.toList) (h : hpart n off cs = some v) :
    ∃ u, (part t us off).run P w = .ok u w ∧ Rel β v u := by
  unfold hpart at h
  split at h
  · obtain ⟨u, hu, hr⟩ := hr.get h
    simp at hu
    exact ⟨u, by simp [part, run_isAgg ht, hu], hr⟩
  · rename_i k
    simp at h; subst h
    refine ⟨.agg (us.extract off (off + k)), by simp [part, run_isAgg ht, run_sizeOf_agg ht], ?_⟩
    simp only [Rel]
    refine ⟨_, rfl, ?_⟩
    have := (hr.drop off).take k
    simpa using this

def hfield (n : Option Nat) (off : Nat) : HV → Option HV
  | .agg cs => hpart n off cs
  | _ => none

theorem hfield_sound (E : Emb β hs w) {t : TypeId} {fs : Array Field} {k : Nat} {f : Field} {n : Option Nat} {x v : HV} {u : Value} (ht : P.underlying t = some (.struct fs)) (hf : fs[k]? = some f) (hn : aggT P f.type = some n)
    (hx : Rel β x u) (h : hfield n f.offset x = some v) : Out P (Instr.field t u k) β hs w v hs := by
  unfold hfield at h
  split at h
  · simp only [Rel] at hx; obtain ⟨us, rfl, hr⟩ := hx
    obtain ⟨u, h1, h2⟩ := hpart_sound (P := P) (w := w) hn hr h
    refine Out.same E (u := u) ?_ h2
    simp [Instr.field, run_underlying ht, hf, asAgg, h1]
  · simp at h

def hindexAddr (s : Nat) (x i : HV) : Option HV :=
  match x, i with
  | .slice h o len _, .int _ k => if 0 ≤ k ∧ k < len then some (.ptr h ((o + k.toNat) * s)) else none
  | _, _ => none

theorem hindexAddr_sound (E : Emb β hs w) {t e : TypeId} {i : TypeInfo} {x ix v : HV} {u uix : Value} {s : Nat} (ht : P.underlying t = some (.slice e)) (hi : P.info? e = some i) (hs1 : i.size = s)
    (hx : Rel β x u) (hix : Rel β ix uix) (h : hindexAddr s x ix = some v) (hb : ∀ hh o len cap, x = .slice hh o len cap → cap ≠ some 0 → ∀ en, β[hh]? = some en → en.s = s) : Out P (Instr.indexAt t u uix) β hs w v hs := by
  unfold hindexAddr at h
  split at h
  · rename_i hh o len cap kk k
    split at h
    · rename_i hk
      simp at h; subst h
      simp only [Rel] at hx hix; subst hix
      obtain ⟨en, a, c, he, rfl, hlc, hc, ha⟩ := hx
      have ha' := ha (by omega)
      subst ha'
      have hes := hb hh o len cap rfl (fun e => by subst e; simp only at hc; omega) en he
      refine Out.same E (u := .pointer (some ⟨en.blk, en.shift + (o + k.toNat) * s, none⟩)) ?_ ⟨en, he, rfl⟩
      simp [Instr.indexAt, asIntOf, run_underlying ht, hk, sizeOf, typeInfo, hi, hs1, Addr.add_lit, hes, Nat.add_mul, Nat.add_assoc]
    · simp at h
  · simp at h

def hindexArr (n s : Nat) (x i : HV) : Option HV :=
  match x, i with
  | .ptr h o, .int _ k => if 0 ≤ k ∧ k < n then some (.ptr h (o + k.toNat * s)) else none
  | _, _ => none

theorem hindexArr_sound (E : Emb β hs w) {t e : TypeId} {n : Nat} {i : TypeInfo} {x ix v : HV} {u uix : Value} {s : Nat} (ht : P.underlying t = some (.array n e)) (hi : P.info? e = some i) (hs1 : i.size = s)
    (hx : Rel β x u) (hix : Rel β ix uix) (h : hindexArr n s x ix = some v) : Out P (Instr.indexAt t u uix) β hs w v hs := by
  unfold hindexArr at h
  split at h
  · rename_i hh o kk k
    split at h
    · rename_i hk
      simp at h; subst h
      simp only [Rel] at hx hix; subst hix
      obtain ⟨en, he, rfl⟩ := hx
      refine Out.same E (u := .pointer (some ⟨en.blk, en.shift + (o + k.toNat * s), none⟩)) ?_ ⟨en, he, rfl⟩
      simp [Instr.indexAt, asIntOf, run_underlying ht, hk, sizeOf, typeInfo, hi, hs1, Addr.add_lit, Nat.add_assoc, Instr.sureAddr]
    · simp at h
  · simp at h

/-- an element of an array's value. -/
def hindexVal (n : Nat) (s : Nat) (a : Option Nat) (x i : HV) : Option HV :=
  match x, i with
  | .agg cs, .int _ k => if 0 ≤ k ∧ k < n then hpart a (k.toNat * s) cs else none
  | _, _ => none

theorem hindexVal_sound (E : Emb β hs w) {t e : TypeId} {n : Nat} {i : TypeInfo} {x ix v : HV} {u uix : Value} {s : Nat} {a : Option Nat} (ht : P.underlying t = some (.array n e)) (hi : P.info? e = some i) (hs1 : i.size = s) (ha : aggT P e = some a)
    (hx : Rel β x u) (hix : Rel β ix uix) (h : hindexVal n s a x ix = some v) : Out P (Instr.index t u uix) β hs w v hs := by
  unfold hindexVal at h
  split at h
  · rename_i cs kk k
    split at h
    · rename_i hk
      simp only [Rel] at hx hix; subst hix
      obtain ⟨us, rfl, hr⟩ := hx
      obtain ⟨u, h1, h2⟩ := hpart_sound (P := P) (w := w) ha hr h
      refine Out.same E (u := u) ?_ h2
      simp [Instr.index, asIntOf, run_underlying ht, hk, sizeOf, typeInfo, hi, hs1, h1]
    · simp at h
  · simp at h

def hindexStr (x i : HV) : Option HV :=
  match x, i with
  | .str b, .int _ k => if 0 ≤ k then (b[k.toNat]?).map fun c => .int .u8 c.toNat else none
  | _, _ => none

theorem hindexStr_sound (E : Emb β hs w) {t : TypeId} {x ix v : HV} {u uix : Value} (ht : P.underlying t = some .string)
    (hx : Rel β x u) (hix : Rel β ix uix) (h : hindexStr x ix = some v) : Out P (Instr.index t u uix) β hs w v hs := by
  unfold hindexStr at h
  split at h
  · rename_i b kk k
    split at h
    · rename_i hk
      simp only [Rel] at hx hix; subst hix; subst hx
      simp only [Option.map_eq_some_iff] at h
      obtain ⟨c, hc, rfl⟩ := h
      refine Out.same E (u := .int .u8 c.toNat) ?_ rfl
      have hlt := lt_of_get hc
      have : (⟨b.toArray⟩ : ByteArray)[k.toNat]? = some c := by
        have h1 : k.toNat < (⟨b.toArray⟩ : ByteArray).size := by simpa [ByteArray.size] using hlt
        rw [getElem?_pos (⟨b.toArray⟩ : ByteArray) k.toNat h1]
        congr 1
        have : b[k.toNat] = c := by rw [List.getElem?_eq_getElem hlt] at hc; exact Option.some.inj hc
        rw [← this]
        rfl
      simp [Instr.index, asIntOf, run_underlying ht, hk, this]
    · simp at h
  · simp at h

end
end Go.HL
