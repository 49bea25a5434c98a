/-
  HL: the operations on memory.
-/
import Derived.Test.YteedmbmgemiheaaDoorKYHLOps
namespace Go.HL
open Go

section
variable {P : Program} {β : List Ent} {hs : HS} {w : World}

theorem all_one {cs : List HV} (h : cs.all HV.one = true) : ∀ x ∈ cs, x.one = true := fun x hx => List.all_eq_true.1 h x hx

theorem cells_ne_undef {x : HV} (h : x.cells.all HV.one = true) : x ≠ .undef := by
  rintro rfl; simp [HV.cells, HV.one] at h

/-! ### reading -/
def hload (n : Option Nat) (hs : HS) : HV → Option HV
  | .ptr h o =>
    match hs[h]? with
    | some (some (.cells _ cs _ _ _)) =>
      match n with
      | none => cs[o]?
      | some k => if o + k ≤ cs.length then some (.agg ((cs.drop o).take k)) else none
    | _ => none
  | _ => none

/-- how many cells a value of a type is, where it is a struct or an array. -/
def aggT (P : Program) (t : TypeId) : Option (Option Nat) :=
  match P.underlying t with
  | some (.struct _) | some (.array _ _) => (P.info? t).map fun i => some i.size
  | some _ => some none
  | none => none

theorem run_isAgg {t : TypeId} {n : Option Nat} (h : aggT P t = some n) (w : World) : (isAgg t).run P w = .ok n.isSome w := by
  unfold aggT at h
  cases hu : P.underlying t with
  | none => rw [hu] at h; simp at h
  | some d =>
    rw [hu] at h
    cases d <;> simp only [Option.some.injEq, Option.map_eq_some_iff] at h <;> (first | (obtain ⟨i, _, rfl⟩ := h; simp [isAgg, run_underlying hu]) | (subst h; simp [isAgg, run_underlying hu]))

theorem run_sizeOf_agg {t : TypeId} {n : Nat} (h : aggT P t = some (some n)) (w : World) : (sizeOf t).run P w = .ok n w := by
  unfold aggT at h
  cases hu : P.underlying t with
  | none => rw [hu] at h; simp at h
  | some d =>
    rw [hu] at h
    cases d <;> simp at h <;> (obtain ⟨i, h1, h2⟩ := h; simp [sizeOf, typeInfo, h1, h2])

theorem hload_sound (E : Emb β hs w) {n : Option Nat} {t : TypeId} {x v : HV} {u : Value} (ht : aggT P t = some n) (hx : Rel β x u) (h : hload n hs x = some v) :
    Out P (Instr.loadAt t u) β hs w v hs := by
  unfold hload at h
  split at h
  · rename_i i o
    simp only [Rel] at hx
    obtain ⟨e, he, rfl⟩ := hx
    split at h
    · rename_i s cs ro opn olds hb
      have hB := E.blk i e _ he hb
      split at h
      · -- a cell
        obtain ⟨_, cur, tt, fz, hg, _, _, _, hcs⟩ := hB
        obtain ⟨u, hu, hr, _⟩ := hcs _ _ h
        refine Out.same E (u := u) ?_ hr
        simp [Instr.loadAt, Instr.sureAddr, loadVar, run_isAgg ht, World.cell?, hg, hu]
      · rename_i k
        split at h
        · rename_i hle
          simp at h; subst h
          obtain ⟨us, r1, r2, r3, r4⟩ := hB.seg o k hle
          refine Out.same E (u := .agg us.toArray) ?_ ⟨_, rfl, r1⟩
          have hl := run_loadCells_list (P := P) w ⟨e.blk, e.shift + o, none⟩ us (fun j v hj => by rw [Addr.add_lit]; exact r4 j v hj)
          rw [r2] at hl
          simp [Instr.loadAt, Instr.sureAddr, loadVar, run_isAgg ht, run_sizeOf_agg ht, hl]
        · simp at h
    · simp at h
  · simp at h

/-! ### writing -/
def hstore (n : Nat) (hs : HS) (a x : HV) : Option HS :=
  match a with
  | .ptr h o =>
    match hs[h]? with
    | some (some (.cells s cs false opn olds)) =>
      if x.cells.length = n ∧ x.cells.all HV.one = true ∧ o + n ≤ cs.length then some ((killAll olds hs).set h (some (.cells s (overw cs o x.cells) false opn []))) else none
    | _ => none
  | _ => none

def OutU (P : Program) (x : Sem Unit) (β : List Ent) (hs : HS) (w : World) (hs' : HS) : Prop :=
  ∃ w' β', x.run P w = .ok () w' ∧ Step β hs w β' hs' w'

theorem hstore_sound (E : Emb β hs w) {n : Nat} {t : TypeId} {a x : HV} {ua ux : Value} {hs' : HS} (ht : (P.info? t).map (·.size) = some n) (ha : Rel β a ua) (hx : Rel β x ux) (h : hstore n hs a x = some hs') :
    OutU P (Instr.storeAt t ua ux) β hs w hs' := by
  unfold hstore at h
  split at h
  · rename_i i o
    simp only [Rel] at ha
    obtain ⟨e, he, rfl⟩ := ha
    split at h
    · rename_i s cs opn olds hb
      split at h
      · rename_i hc
        obtain ⟨h1, h2, h3⟩ := hc
        simp at h; subst h
        have hcx := hx.cells (cells_ne_undef h2)
        have hlx := hcx.length
        obtain ⟨_, cur, tt, fz, hg, hfz, hfit, hcl, hcs⟩ := E.blk i e _ he hb
        have hone : ∀ v ∈ ux.cells.toList, v.oneCell' = true := by
          intro v hv
          obtain ⟨j, hj⟩ := List.getElem?_of_mem hv
          have hjl := lt_of_get hj
          rw [← hlx] at hjl
          obtain ⟨u, hu, hr⟩ := hcx.get (List.getElem?_eq_getElem hjl)
          rw [hj] at hu; cases hu
          exact hr.one (all_one h2 _ (List.getElem_mem hjl))
        have hst := run_storeCells_cells (P := P) e.blk (e.shift + o) ux.cells.toList 0 w
          (fun j hj => by
            have : e.shift + o + j < cur.size := by omega
            simp [World.cell?, hg, this])
          (fun j hj => by
            have h1 : e.shift + o + j < cur.size := by omega
            have := (hfz rfl).away _ h1
            simp only [World.frozen?, hg, Nat.add_zero]
            simp only [Bool.and_eq_false_iff, decide_eq_false_iff_not]
            omega) hone
        have S := Step.setCells E he hb o x.cells _ hcx (all_one h2) (by omega)
        refine ⟨_, β, ?_, S⟩
        obtain ⟨ti, hti, hts⟩ := Option.map_eq_some_iff.1 ht
        have hsz : ux.cells.size = ti.size := by rw [hts, ← h1, hlx]; simp
        simp only [Nat.add_zero] at hst
        simp [Instr.storeAt, Instr.sureAddr, storeVar, sizeOf, typeInfo, hti, hsz, hst]
      · simp at h
    · simp at h
  · simp at h

/-! ### new variables -/
def hbox (hs : HS) (x : HV) : Option (HV × HS) :=
  if x.cells.all HV.one = true then some (.ptr hs.length 0, hs ++ [some (.cells 1 x.cells false false [])]) else none

theorem new_row (E : Emb β hs w) {cs : List HV} {us : Array Value} (t : TypeId) (s N : Nat) (opn : Bool) (hx : RelL β cs us.toList) (h1 : ∀ x ∈ cs, x.one = true) (hN : cs.length = N * s) :
    Step β hs w (β ++ [⟨w.heap.size, 0, N, s⟩]) (hs ++ [some (.cells s cs false opn [])]) (w.alloc (.cells us t)) := by
  have hl := hx.length
  refine Step.new E _ _ _ rfl ⟨rfl, us, t, (0, 0), heap_alloc_new _ _, fun _ => .inl rfl, by simp at hl; show 0 + N * s ≤ us.size; rw [← hN]; omega, by show cs.length ≤ N * s; omega, fun i x hi => ?_⟩
  obtain ⟨u, hu, hr⟩ := hx.get hi
  refine ⟨u, by simpa using hu, hr.mono (Ext.snoc _ _) _ _, h1 x (List.mem_of_getElem? hi)⟩

theorem hbox_sound (E : Emb β hs w) {t : TypeId} {x v : HV} {u : Value} {hs' : HS} (hx : Rel β x u) (h : hbox hs x = some (v, hs')) : Out P (Instr.box t u) β hs w v hs' := by
  unfold hbox at h
  split at h
  · rename_i h1
    simp at h; obtain ⟨rfl, rfl⟩ := h
    have S := new_row E t 1 x.cells.length false (hx.cells (cells_ne_undef h1)) (all_one h1) (by simp)
    refine ⟨.pointer (some ⟨w.heap.size, 0, none⟩), _, _, ?_, ?_, S⟩
    · simp [Instr.box, newVar, newRow]
    · simp only [Rel]
      exact ⟨_, by rw [← E.len]; exact get_snoc_last _ _, by simp⟩
  · simp at h

theorem halloc_sound (E : Emb β hs w) {t : TypeId} {i : TypeInfo} {x v : HV} {z : Value} {hs' : HS} (hi : P.info? t = some i) (hz : i.zero = some z) (hx : Rel β x z) (h : hbox hs x = some (v, hs')) :
    Out P (Instr.alloc t true (.tuple #[])) β hs w v hs' := by
  obtain ⟨u, w', β', h1, h2, h3⟩ := hbox_sound (P := P) (t := t) E hx h
  refine ⟨u, w', β', ?_, h2, h3⟩
  simp only [Instr.box, Sem.run_bind, Sem.run_pure] at h1
  simp [Instr.alloc, zeroValue, typeInfo, hi, hz, h1]

/-! ### structs and literals -/
def hfill (cs : List HV) : List (Nat × Nat × HV) → Option (List HV)
  | [] => some cs
  | (off, size, x) :: r => if x.cells.all HV.one = true ∧ x.cells.length = size ∧ off + size ≤ cs.length then hfill (overw cs off x.cells) r else none

theorem foldl_set_get (cells : Array Value) (off : Nat) : ∀ (vs : List Value) (k : Nat) (acc : Array Value), acc.size = cells.size →
    ((vs.zipIdx k).foldl (fun cs (c, j) => cs.setIfInBounds (off + j) c) acc).size = cells.size ∧
    ∀ i, ((vs.zipIdx k).foldl (fun cs (c, j) => cs.setIfInBounds (off + j) c) acc)[i]? = if off + k ≤ i ∧ i < off + k + vs.length ∧ i < cells.size then vs[i - (off + k)]? else acc[i]?
  | [], k, acc, ha => ⟨by simpa using ha, fun i => by simp; intro h1 h2; omega⟩
  | v :: vs, k, acc, ha => by
    obtain ⟨h1, h2⟩ := foldl_set_get cells off vs (k + 1) (acc.setIfInBounds (off + k) v) (by simpa using ha)
    simp only [List.zipIdx_cons, List.foldl_cons]
    refine ⟨h1, fun i => ?_⟩
    rw [h2 i]
    simp only [List.length_cons]
    by_cases hi : off + k = i
    · subst hi
      rw [if_neg (by omega)]
      by_cases hs : off + k < cells.size
      · rw [if_pos (by omega)]
        simp [ha, hs]
      · rw [if_neg (by omega)]
        simp [ha, hs]
    · by_cases hc : off + (k + 1) ≤ i ∧ i < off + (k + 1) + vs.length ∧ i < cells.size
      · rw [if_pos hc, if_pos (by omega)]
        obtain ⟨j, rfl⟩ : ∃ j, i = off + (k + 1) + j := ⟨i - (off + (k + 1)), by omega⟩
        rw [show off + (k + 1) + j - (off + (k + 1)) = j by omega, show off + (k + 1) + j - (off + k) = j + 1 by omega]
        simp
      · rw [if_neg hc, if_neg (by omega), Array.getElem?_setIfInBounds_ne hi]

theorem fill_sound {place : Nat → Option (Nat × Nat)} : ∀ (parts : List (Nat × Value)) (hp : List (Nat × Nat × HV)) (cs : List HV) (us : Array Value) (out : List HV),
    hp.length = parts.length → (∀ (j : Nat) i u, parts[j]? = some (i, u) → ∃ off size x, hp[j]? = some (off, size, x) ∧ place i = some (off, size) ∧ Rel β x u) →
    RelL β cs us.toList → (∀ x ∈ cs, x.one = true) → hfill cs hp = some out → ∃ vs, Instr.fill place us parts = some vs ∧ RelL β out vs.toList ∧ (∀ x ∈ out, x.one = true) ∧ out.length = cs.length
  | [], hp, cs, us, out, hl, _, hr, h1, h => by
    cases hp with
    | nil => simp [hfill] at h; subst h; exact ⟨us, by simp [Instr.fill], hr, h1, rfl⟩
    | cons => simp at hl
  | (i, u) :: parts, hp, cs, us, out, hl, hpl, hr, h1, h => by
    cases hp with
    | nil => simp at hl
    | cons p hp =>
      obtain ⟨off, size, x⟩ := p
      obtain ⟨off', size', x', e1, e2, e3⟩ := hpl 0 i u (by simp)
      simp at e1; obtain ⟨rfl, rfl, rfl⟩ := e1
      simp only [hfill] at h
      split at h
      · rename_i hc
        obtain ⟨c1, c2, c3⟩ := hc
        have hxc := e3.cells (cells_ne_undef c1)
        have hxl := hxc.length
        have hul := hr.length
        obtain ⟨f1, f2⟩ := foldl_set_get us off u.cells.toList 0 us rfl
        have hle : off + x.cells.length ≤ cs.length := by omega
        have hl2 : u.cells.toList.length = size := by omega
        obtain ⟨vs, g1, g2, g3, g4⟩ := fill_sound parts hp (overw cs off x.cells) (u.cells.zipIdx.foldl (fun cs (c, j) => cs.setIfInBounds (off + j) c) us) out (by simpa using hl)
          (fun j i' u' hj => by simpa using hpl (j + 1) i' u' (by simpa using hj))
          (by
            have hfold : u.cells.zipIdx.foldl (fun cs (c, j) => cs.setIfInBounds (off + j) c) us = (u.cells.toList.zipIdx 0).foldl (fun cs (c, j) => cs.setIfInBounds (off + j) c) us := by
              rw [← Array.foldl_toList, Array.toList_zipIdx]
            rw [hfold]
            refine RelL.of_get (by rw [overw_length hle, hul]; simp [f1]) fun j y hj => ?_
            rw [overw_get hle] at hj
            have := f2 j
            rw [Array.getElem?_toList, this]
            simp only [Nat.add_zero]
            split at hj
            · rename_i hjo
              rw [if_pos (by simp at hul; omega)]
              exact hxc.get hj
            · rename_i hjo
              rw [if_neg (by omega)]
              simpa using hr.get hj)
          (by
            intro y hy
            unfold overw at hy
            simp only [List.mem_append] at hy
            rcases hy with (hy | hy) | hy
            · exact h1 y (List.mem_of_mem_take hy)
            · exact all_one c1 y hy
            · exact h1 y (List.mem_of_mem_drop hy)) h
        refine ⟨vs, ?_, g2, g3, by rw [g4, overw_length hle]⟩
        simp only [Instr.fill, e2]
        simp at hl2 hul
        rw [if_neg (by simp; omega)]
        exact g1
      · simp at h

end
end Go.HL
