/-
  HL: make, copy, maps, interfaces and the rest.
-/
import Derived.Test.YteedmbmgemiheaaDoorKYHLOps4
namespace Go.HL
open Go

section
variable {P : Program} {β : List Ent} {hs : HS} {w : World}

/-! ### make([]T, len, cap); z: the cells of a zero element -/
def hmakeSlice (hs : HS) (s bytes : Nat) (z : List HV) (l c : HV) : Option (HV × HS) :=
  match l, c with
  | .int _ n, .int _ m =>
    if 0 ≤ n ∧ n ≤ m ∧ bytes * m ≤ 281474976710656 ∧ m ≤ 9223372036854775807 ∧ z.length = s ∧ z.all HV.one = true then
      some (.slice hs.length 0 n.toNat (some m.toNat), hs ++ [some (.cells s (List.replicate m.toNat z).flatten false false [])])
    else none
  | _, _ => none

theorem flatten_replicate_get {α : Type} (z : List α) (s : Nat) (hz : z.length = s) : ∀ (n i : Nat), i < n * s → ((List.replicate n z).flatten)[i]? = z[i % s]?
  | 0, i, h => by simp at h
  | n + 1, i, h => by
    rw [List.replicate_succ, List.flatten_cons]
    by_cases hi : i < s
    · rw [List.getElem?_append_left (by omega), Nat.mod_eq_of_lt hi]
    · rw [List.getElem?_append_right (by omega), hz, flatten_replicate_get z s hz n (i - s) (by rw [Nat.add_mul] at h; omega)]
      rw [← Nat.mod_eq_sub_mod (by omega)]

theorem zeros_rel {z : List HV} {zv : Array Value} {s : Nat} (hz : RelL β z zv.toList) (hs1 : z.length = s) (n : Nat) :
    RelL β (List.replicate n z).flatten ((Array.range (n * s)).map (zv[· % zv.size]!)).toList := by
  have hl := hz.length
  refine RelL.of_get (by simp [hs1]) fun i x hi => ?_
  have hlt := lt_of_get hi
  simp [hs1] at hlt
  rw [flatten_replicate_get z s hs1 n i hlt] at hi
  obtain ⟨u, hu, hr⟩ := hz.get hi
  refine ⟨u, ?_, hr⟩
  have hzs : zv.size = s := by simp at hl; omega
  simp [hlt, hzs]
  simp at hu
  have := lt_of_geta hu
  rw [getElem!_pos zv (i % s) (by omega)]
  rw [Array.getElem?_eq_getElem this] at hu
  exact Option.some.inj hu

theorem hmakeSlice_sound (E : Emb β hs w) {t e : TypeId} {i : TypeInfo} {s bytes : Nat} {z : List HV} {zv : Value} {l c v : HV} {ul uc : Value} {hs' : HS}
    (ht : P.underlying t = some (.slice e)) (hi : P.info? e = some i) (hz : i.zero = some zv) (hs1 : i.size = s) (hby : i.bytes = bytes) (hzr : RelL β z zv.cells.toList) (hl : Rel β l ul) (hc : Rel β c uc)
    (h : hmakeSlice hs s bytes z l c = some (v, hs')) : Out P (Instr.makeSlice t ul uc) β hs w v hs' := by
  unfold hmakeSlice at h
  split at h
  · rename_i k1 n k2 m
    split at h
    · rename_i hcond
      obtain ⟨c1, c2, c3, c4, c5, c6⟩ := hcond
      simp at h; obtain ⟨rfl, rfl⟩ := h
      simp only [Rel] at hl hc; subst hl; subst hc
      have hzl := hzr.length
      have hzr' := zeros_rel (β := β) hzr c5 m.toNat
      have hmem : ∀ x ∈ (List.replicate m.toNat z).flatten, x.one = true := by
        intro x hx
        obtain ⟨y, hy, hxy⟩ := List.mem_flatten.1 hx
        rw [(List.mem_replicate.1 hy).2] at hxy
        exact all_one c6 x hxy
      have S := new_row E e s m.toNat false hzr' hmem (by simp [c5])
      have w1 : IntKind.i64.wrap n = n := by rw [wrap_eq]; simp only [wr]; omega
      have w2 : IntKind.i64.wrap m = m := by rw [wrap_eq]; simp only [wr]; omega
      have q1 : ¬ (((decide (m < 0) || decide ((bytes : Int) * m > 2 ^ 48)) = true ∨ n < 0) ∨ n > m) := by
        simp; omega
      refine ⟨.slice (some ⟨w.heap.size, 0, none⟩) n.toNat m.toNat, _, _, ?_, ?_, S⟩
      · by_cases h0 : m.toNat * s = 0
        · have hr1 : (Array.range 0).map (fun (x : Nat) => zv.cells[x % zv.cells.size]!) = (#[] : Array Value) := by simp
          have hr0 : (Array.range 0).map (fun (x : Nat) => (#[] : Array Value)[x % (#[] : Array Value).size]!) = (#[] : Array Value) := by simp
          simp only [Instr.makeSlice, run_underlying ht, Sem.run_bind, Result.andThen_ok, asInt, asIntOf, Sem.run_pure, typeInfo, run_program, hi, hby, w1, w2]
          rw [if_neg (by simpa using q1)]
          simp only [Sem.run_bind, run_askRoom, Result.andThen_ok, sizeOf, typeInfo, run_program, hi, Sem.run_pure, hs1, h0, if_true, hr0, hr1]
          simp [newRow]
        · simp only [Instr.makeSlice, run_underlying ht, Sem.run_bind, Result.andThen_ok, asInt, asIntOf, Sem.run_pure, typeInfo, run_program, hi, hby, w1, w2]
          rw [if_neg (by simpa using q1)]
          simp only [Sem.run_bind, run_askRoom, Result.andThen_ok, sizeOf, typeInfo, run_program, hi, Sem.run_pure, hs1, if_neg h0, zeroValue, hz]
          simp [newRow]
      · simp only [Rel]
        exact ⟨_, ⟨w.heap.size, 0, none⟩, m.toNat, by rw [← E.len]; exact get_snoc_last _ _, rfl, by omega, ⟨rfl, by simp⟩, fun _ => by simp⟩
    · simp at h
  · simp at h

/-! ### copy -/
/-- the first n elements of a source. -/
def firstN (hs : HS) (s n : Nat) : HV → Option (List HV)
  | .nilSlice => if n = 0 then some [] else none
  | .slice h o _ _ =>
    if n = 0 then some [] else
    match hs[h]? with
    | some (some (.cells s' cs _ _ _)) => if s' = s ∧ (o + n) * s ≤ cs.length then some ((cs.drop (o * s)).take (n * s)) else none
    | _ => none
  | .str b => if s = 1 then some ((b.take n).map fun c => .int .u8 c.toNat) else none
  | _ => none

def hlen : HV → Option Nat
  | .nilSlice => some 0
  | .slice _ _ len _ => some len
  | .str b => some b.length
  | _ => none

theorem firstN_sound (E : Emb β hs w) {s n m : Nat} {y : HV} {u : Value} {news : List HV} (hy : Rel β y u) (h : firstN hs s n y = some news) (hm : hlen y = some m) (hnm : n ≤ m) :
    ∃ us, RelL β news us ∧ us.length = n * s ∧ (∀ x ∈ news, x.one = true) ∧ (Builtin.firstCells s n u).run P w = .ok us.toArray w ∧ (Builtin.lenOf u).run P w = .ok m w := by
  unfold firstN at h
  split at h
  · simp [hlen] at hm; subst hm
    simp only [Rel] at hy; subst hy
    have : n = 0 := by omega
    subst this
    simp at h; subst h
    exact ⟨[], rfl, by simp, by simp, by simp [Builtin.firstCells], rfl⟩
  · rename_i hh o len cap
    simp [hlen] at hm; subst hm
    simp only [Rel] at hy
    obtain ⟨e, a, c, he, rfl, hlc, hc, ha⟩ := hy
    split at h
    · rename_i h0; subst h0
      simp at h; subst h
      exact ⟨[], rfl, by simp, by simp, by simp [Builtin.firstCells, loadCells, loadCellsFrom], rfl⟩
    · rename_i h0
      split at h
      · rename_i s' cs ro opn olds hb
        split at h
        · rename_i hcond
          obtain ⟨rfl, hle⟩ := hcond
          simp at h; subst h
          have hB := E.blk hh e _ he hb
          have hes : e.s = s' := hB.1
          rw [Nat.add_mul] at hle
          obtain ⟨us, r1, r2, r3, r4⟩ := hB.seg (o * s') (n * s') hle
          have ha' := ha (by omega)
          subst ha'
          refine ⟨us, r1, r2, r3, run_firstCells_some w s' n _ _ c us r2 fun j u hj => ?_, rfl⟩
          rw [Addr.add_lit, hes]
          exact r4 j u hj
        · simp at h
      · simp at h
  · rename_i b
    simp [hlen] at hm; subst hm
    split at h
    · rename_i hs1; subst hs1
      rw [Option.some.injEq] at h; subst h
      simp only [Rel] at hy; subst hy
      refine ⟨_, RelL.bytes β (b.take n), by simp; omega, ?_, ?_, by simp [Builtin.lenOf, ByteArray.size]⟩
      · intro x hx; obtain ⟨c, _, rfl⟩ := List.mem_map.1 hx; rfl
      · simp [Builtin.firstCells]
    · simp at h
  · simp at h

def hcopy (hs : HS) (s : Nat) (x y : HV) : Option (HV × HS) :=
  match hlen y, x with
  | some m, .nilSlice => if m = m then some (.int .i64 0, hs) else none
  | some m, .slice h o len _ =>
    if min m len = 0 then some (.int .i64 0, hs) else
    match firstN hs s (min m len) y, hs[h]? with
    | some news, some (some (.cells s' cs false opn olds)) =>
      if s' = s ∧ o * s ≤ cs.length ∧ 0 < s then some (.int .i64 (min m len : Nat), (killAll olds hs).set h (some (.cells s (overw cs (o * s) news) false opn []))) else none
    | _, _ => none
  | _, _ => none

theorem hlen_run {y : HV} {u : Value} {m : Nat} (hy : Rel β y u) (h : hlen y = some m) (w : World) : (Builtin.lenOf u).run P w = .ok m w := by
  unfold hlen at h
  split at h <;> simp at h <;> subst h <;> simp only [Rel] at hy
  · subst hy; rfl
  · obtain ⟨e, a, c, _, rfl, _⟩ := hy; rfl
  · subst hy; simp [Builtin.lenOf, ByteArray.size]

theorem firstCells_zero {y : HV} {u : Value} {m : Nat} (hy : Rel β y u) (h : hlen y = some m) (s : Nat) (w : World) : (Builtin.firstCells s 0 u).run P w = .ok #[] w := by
  unfold hlen at h
  split at h <;> simp at h <;> subst h <;> simp only [Rel] at hy
  · subst hy; simp [Builtin.firstCells]
  · obtain ⟨e, a, c, _, rfl, _⟩ := hy; simp [Builtin.firstCells, loadCells, loadCellsFrom]
  · subst hy; simp [Builtin.firstCells]

theorem hcopy_sound (E : Emb β hs w) {dT sT ty e : TypeId} {i : TypeInfo} {s : Nat} {x y v : HV} {ux uy : Value} {hs' : HS} (ht : P.underlying dT = some (.slice e)) (hi : P.info? e = some i) (hs1 : i.size = s)
    (hx : Rel β x ux) (hy : Rel β y uy) (h : hcopy hs s x y = some (v, hs')) : Out P (Builtin.copy_ #[dT, sT] ty #[ux, uy]) β hs w v hs' := by
  unfold hcopy at h
  split at h
  · rename_i m hm
    simp at h; obtain ⟨rfl, rfl⟩ := h
    simp only [Rel] at hx; subst hx
    refine Out.same E (u := .int .i64 0) ?_ rfl
    simp [Builtin.copy_, run_underlying ht, hlen_run hy hm, sizeOf, typeInfo, hi, firstCells_zero hy hm, goInt]
  · rename_i m hh o len cap hm
    simp only [Rel] at hx
    obtain ⟨en, a, c, he, rfl, hlc, hc, ha⟩ := hx
    split at h
    · rename_i h0
      simp at h; obtain ⟨rfl, rfl⟩ := h
      refine Out.same E (u := .int .i64 0) ?_ rfl
      have h0' : Nat.min m len = 0 := h0
      simp [Builtin.copy_, run_underlying ht, hlen_run hy hm, sizeOf, typeInfo, hi, h0', firstCells_zero hy hm, goInt, storeCells]
    · rename_i h0
      split at h
      · rename_i news s' cs opn olds hn hb
        split at h
        · rename_i hcond
          obtain ⟨rfl, hle, hpos⟩ := hcond
          simp at h; obtain ⟨rfl, rfl⟩ := h
          obtain ⟨us, r1, r2, r3, r4, r5⟩ := firstN_sound (P := P) E hy hn hm (Nat.min_le_left _ _)
          have hul := r1.length
          have ha' := ha (by omega)
          have hes : en.s = s' := (E.blk hh en _ he hb).1
          rw [hes] at ha'
          subst ha'
          obtain ⟨_, cur, tt, fz, hg, hfz, hfit, hcl, hcs⟩ := E.blk hh en _ he hb
          have hoc : o + len ≤ en.N := by
            cases cap with
            | none => have hc : o + c = en.N := hc; omega
            | some k => have := hc.2; have := hc.1; omega
          have hmn : min m len ≤ len := Nat.min_le_right _ _
          have n1 : (o + min m len) * s' = o * s' + min m len * s' := Nat.add_mul _ _ _
          have n2 : (o + min m len) * s' ≤ en.N * s' := Nat.mul_le_mul_right _ (by omega)
          have hone : ∀ v ∈ us, v.oneCell' = true := by
            intro v hv
            obtain ⟨j, hj⟩ := List.getElem?_of_mem hv
            have hjl := lt_of_get hj
            rw [← hul] at hjl
            obtain ⟨u, hu, hr⟩ := r1.get (List.getElem?_eq_getElem hjl)
            rw [hj] at hu; cases hu
            exact hr.one (r3 _ (List.getElem_mem hjl))
          have hst := run_storeCells_cells (P := P) en.blk (en.shift + o * s') us 0 w
            (fun j hj => by
              have : en.shift + o * s' + j < cur.size := by omega
              simp [World.cell?, hg, this])
            (fun j hj => by
              have h1 : en.shift + o * s' + j < cur.size := by omega
              have := (hfz rfl).away _ h1
              simp only [World.frozen?, hg, Nat.add_zero]
              simp only [Bool.and_eq_false_iff, decide_eq_false_iff_not]
              omega) hone
          have S := Step.setCellsW E he hb (o * s') news us r1 r3 hle (by omega)
          refine ⟨.int .i64 (min m len : Nat), _, β, ?_, by simp [Rel], S⟩
          simp only [Nat.add_zero] at hst
          have h4 : (Builtin.firstCells s' (Nat.min m len) uy).run P w = .ok us.toArray w := r4
          simp [Builtin.copy_, run_underlying ht, r5, sizeOf, typeInfo, hi, hs1, h4, goInt, hst]
        · simp at h
      · simp at h
  · simp at h

/-! ### len, cap -/
theorem RelE.length : ∀ {es : List (HV × HV × Nat)} {res : List MapEntry}, RelE β es res → es.length = res.length
  | [], _, r => by simp only [RelE] at r; subst r; rfl
  | (_, _, _) :: es, _, r => by
    simp only [RelE] at r
    obtain ⟨e, es', rfl, _, _, _, h⟩ := r
    simp [RelE.length h]

/-- which kinds 'len' is asked of. -/
inductive LK where | str | slice | map | arr (n : Nat)

def lenK (P : Program) (t : TypeId) : Option LK :=
  match P.underlying t with
  | some .string => some .str
  | some (.slice _) => some .slice
  | some (.map _ _) => some .map
  | some (.array n _) => some (.arr n)
  | _ => none

def hlenK (hs : HS) (k : LK) (x : HV) : Option HV :=
  match k, x with
  | .str, .str b => some (.int .i64 b.length)
  | .slice, .nilSlice => some (.int .i64 0)
  | .slice, .slice _ _ len _ => some (.int .i64 len)
  | .map, .nilMap => some (.int .i64 0)
  | .map, .map h => match hs[h]? with
    | some (some (.map es _)) => some (.int .i64 es.length)
    | _ => none
  | .arr n, _ => some (.int .i64 n)
  | _, _ => none

theorem hlenK_sound (E : Emb β hs w) {t ty : TypeId} {k : LK} {x v : HV} {u : Value} (ht : lenK P t = some k) (hx : Rel β x u) (h : hlenK hs k x = some v) : Out P (Builtin.len_ #[t] ty #[u]) β hs w v hs := by
  unfold lenK at ht
  cases hu : P.underlying t with
  | none => rw [hu] at ht; simp at ht
  | some d =>
    rw [hu] at ht
    unfold hlenK at h
    split at h
    · cases d <;> simp at ht
      simp at h; subst h
      simp only [Rel] at hx; subst hx
      refine Out.same E (u := .int .i64 (_ : Nat)) (by simp [Builtin.len_, run_underlying hu, goInt]; rfl) ?_
      simp [Rel, ByteArray.size]
    · cases d <;> simp at ht
      simp at h; subst h
      simp only [Rel] at hx; subst hx
      exact Out.same E (u := .int .i64 0) (by simp [Builtin.len_, run_underlying hu, goInt]) rfl
    · rename_i len _
      cases d <;> simp at ht
      simp at h; subst h
      simp only [Rel] at hx
      obtain ⟨e, a, c, _, rfl, _⟩ := hx
      exact Out.same E (u := .int .i64 len) (by simp [Builtin.len_, run_underlying hu, goInt]) rfl
    · cases d <;> simp at ht
      simp at h; subst h
      simp only [Rel] at hx; subst hx
      exact Out.same E (u := .int .i64 0) (by simp [Builtin.len_, run_underlying hu, goInt]) rfl
    · rename_i hh
      cases d <;> simp at ht
      split at h
      · rename_i es clock hb
        simp at h; subst h
        simp only [Rel] at hx
        obtain ⟨e, he, rfl⟩ := hx
        obtain ⟨res, h1, h2⟩ := E.blk hh e _ he hb
        refine Out.same E (u := .int .i64 res.size) (by simp [Builtin.len_, run_underlying hu, goInt, getObj, Sem.run, h1]) ?_
        simp [Rel, h2.length]
      · simp at h
    · rename_i n _
      cases d <;> simp at ht
      subst ht
      simp at h; subst h
      exact Out.same E (by simp [Builtin.len_, run_underlying hu, goInt]) rfl
    · simp at h


/-! ### maps: keys that are whole numbers, strings, bools -/
def keq : HV → HV → Option Bool
  | .int j a, .int k b => if j = k then some (a == b) else none
  | .str a, .str b => some (a == b)
  | .bool a, .bool b => some (a == b)
  | _, _ => none

/-- where a key stands, and what with it. -/
def hfind (k : HV) : List (HV × HV × Nat) → Nat → Option (Option (Nat × HV))
  | [], _ => some none
  | (k', v, _) :: es, i =>
    match keq k k' with
    | some true => some (some (i, v))
    | some false => hfind k es (i + 1)
    | none => none

/-- key types that are served. -/
inductive KK where | int | str | bool
  deriving DecidableEq

def keyK (P : Program) (t : TypeId) : Option KK :=
  match P.underlying t with
  | some (.int _) => some .int
  | some .string => some .str
  | some .bool => some .bool
  | _ => none

def KK.fits : KK → HV → Bool
  | .int, .int _ _ => true
  | .str, .str _ => true
  | .bool, .bool _ => true
  | _, _ => false

theorem run_checkKey {t : TypeId} {k : KK} (ht : keyK P t = some k) (b : Bool) (n : Nat) (v : Value) (w : World) : (Instr.checkKey b (n + 1) t v).run P w = .ok () w := by
  unfold keyK at ht
  cases hu : P.underlying t with
  | none => rw [hu] at ht; simp at ht
  | some d =>
    rw [hu] at ht
    cases d <;> simp at ht <;> simp [Instr.checkKey, run_underlying hu]

theorem sameNow_keq {t : TypeId} {kk : KK} {d : TypeDesc} (ht : keyK P t = some kk) (hu : P.underlying t = some d) {x y : HV} {u v : Value} (hx : Rel β x u) (hy : Rel β y v) (hf : kk.fits x = true) {b : Bool} (h : keq x y = some b) : Instr.sameNow d u v = some b := by
  unfold keyK at ht
  rw [hu] at ht
  unfold keq at h
  split at h
  · simp only [Rel] at hx hy; subst hx; subst hy
    split at h
    · rename_i hjk; subst hjk
      simp at h; subst h
      cases d <;> simp at ht <;> subst ht <;> simp [KK.fits] at hf
      simp [Instr.sameNow]
    · simp at h
  · simp only [Rel] at hx hy; subst hx; subst hy
    rename_i a b'
    simp at h; subst h
    cases d <;> simp at ht <;> subst ht <;> simp [KK.fits] at hf
    simp only [Instr.sameNow]
    congr 1
    rw [beq_toListBytes]
    simp
  · simp only [Rel] at hx hy; subst hx; subst hy
    simp at h; subst h
    cases d <;> simp at ht <;> subst ht <;> simp [KK.fits] at hf
    simp [Instr.sameNow]
  · simp at h

theorem findNow_sound {t : TypeId} {kk : KK} {d : TypeDesc} (ht : keyK P t = some kk) (hu : P.underlying t = some d) {k : HV} {u : Value} (hk : Rel β k u) (hf : kk.fits k = true) :
    ∀ {es : List (HV × HV × Nat)} {res : List MapEntry} (i : Nat) {r : Option (Nat × HV)}, RelE β es res → hfind k es i = some r →
      ∃ r', Instr.findNow d u res i = some r' ∧ (match r, r' with | none, none => True | some (j, x), some (j', y) => j = j' ∧ Rel β x y ∧ i ≤ j ∧ j < i + es.length | _, _ => False)
  | [], res, i, r, hr, h => by
    simp only [RelE] at hr; subst hr
    simp [hfind] at h; subst h
    exact ⟨none, rfl, trivial⟩
  | (k', v, n) :: es, res, i, r, hr, h => by
    simp only [RelE] at hr
    obtain ⟨e, es', rfl, h1, h2, h3, h4⟩ := hr
    unfold hfind at h
    split at h
    · rename_i hq
      simp at h; subst h
      have := sameNow_keq ht hu hk h1 hf hq
      exact ⟨some (i, e.val), by simp [Instr.findNow, this], rfl, h2, Nat.le_refl _, by simp⟩
    · rename_i hq
      have := sameNow_keq ht hu hk h1 hf hq
      obtain ⟨r', g1, g2⟩ := findNow_sound ht hu hk hf (i + 1) h4 h
      refine ⟨r', by simp [Instr.findNow, this, g1], ?_⟩
      cases r <;> cases r' <;> simp at g2 ⊢
      exact ⟨g2.1, g2.2.1, by omega, by omega⟩
    · simp at h

theorem run_findKey {t : TypeId} {kk : KK} (ht : keyK P t = some kk) {k : HV} {u : Value} (hk : Rel β k u) (hf : kk.fits k = true) {es : List (HV × HV × Nat)} {res : List MapEntry} {r : Option (Nat × HV)} (hr : RelE β es res) (h : hfind k es 0 = some r) (w : World) :
    ∃ r', (Instr.findKey t u res).run P w = .ok r' w ∧ (match r, r' with | none, none => True | some (j, x), some (j', y) => j = j' ∧ Rel β x y ∧ j < es.length | _, _ => False) := by
  cases hu : P.underlying t with
  | none => unfold keyK at ht; rw [hu] at ht; simp at ht
  | some d =>
    obtain ⟨r', g1, g2⟩ := findNow_sound ht hu hk hf 0 hr h
    refine ⟨r', by simp [Instr.findKey, run_underlying hu, g1], ?_⟩
    cases r <;> cases r' <;> simp at g2 ⊢
    exact ⟨g2.1, g2.2.1, g2.2.2⟩

def hmakeMap (hs : HS) : Option (HV × HS) := some (.map hs.length, hs ++ [some (.map [] 0)])

theorem hmakeMap_sound (E : Emb β hs w) {t : TypeId} {v : HV} {hs' : HS} (h : hmakeMap hs = some (v, hs')) : Out P (Instr.makeMap t none) β hs w v hs' := by
  simp [hmakeMap] at h; obtain ⟨rfl, rfl⟩ := h
  have S := Step.new E (.map #[] 0) ⟨w.heap.size, 0, 0, 0⟩ (.map [] 0) rfl ⟨#[], heap_alloc_new _ _, rfl⟩
  refine ⟨.map (some w.heap.size), _, _, by simp [Instr.makeMap], ?_, S⟩
  simp only [Rel]
  exact ⟨_, by rw [← E.len]; exact get_snoc_last _ _, rfl⟩

/-- m[k], 'v, ok := m[k]'; z: the zero element. -/
def hlookup (hs : HS) (kk : KK) (z : HV) (ok : Bool) (m k : HV) : Option HV :=
  if kk.fits k then
  match (match m with
    | .nilMap => some []
    | .map h => match hs[h]? with
      | some (some (.map es _)) => some es
      | _ => none
    | _ => none) with
  | none => none
  | some es =>
    match hfind k es 0 with
    | none => none
    | some none => some (if ok then .tup [z, .bool false] else z)
    | some (some (_, v)) => some (if ok then .tup [v, .bool true] else v)
  else none

theorem hlookup_sound (E : Emb β hs w) {t kt et : TypeId} {i : TypeInfo} {kk : KK} {z : HV} {zv : Value} {ok : Bool} {m k v : HV} {um uk : Value} (ht : P.underlying t = some (.map kt et)) (hk : keyK P kt = some kk) (hi : P.info? et = some i) (hz : i.zero = some zv) (hzr : Rel β z zv)
    (hm : Rel β m um) (hkr : Rel β k uk) (h : hlookup hs kk z ok m k = some v) : Out P (Instr.lookup t um uk ok) β hs w v hs := by
  unfold hlookup at h
  split at h
  · rename_i hf
    split at h
    · simp at h
    · rename_i es hes
      have core : ∃ (res : Array MapEntry), RelE β es res.toList ∧ ((um = .map none ∧ res = #[]) ∨ ∃ b clock, um = .map (some b) ∧ w.heap[b]? = some (.map res clock)) := by
        split at hes
        · simp at hes; subst hes
          simp only [Rel] at hm; subst hm
          exact ⟨#[], rfl, .inl ⟨rfl, rfl⟩⟩
        · rename_i hh
          split at hes
          · rename_i es' clock hb
            simp at hes; subst hes
            simp only [Rel] at hm
            obtain ⟨e, he, rfl⟩ := hm
            obtain ⟨res, h1, h2⟩ := E.blk hh e _ he hb
            exact ⟨res, h2, .inr ⟨_, _, rfl, h1⟩⟩
          · simp at hes
        · simp at hes
      obtain ⟨res, hre, hrun⟩ := core
      have hck := fun b => run_checkKey (P := P) hk b 9999 uk w
      split at h
      · simp at h
      · rename_i hfd
        simp at h
        obtain ⟨r', g1, g2⟩ := run_findKey (P := P) hk hkr hf hre hfd w
        cases r' with
        | some => simp at g2
        | none =>
          refine Out.same E (u := if ok then .tuple #[zv, .bool false] else zv) ?_ ?_
          · rcases hrun with ⟨rfl, rfl⟩ | ⟨b, clock, rfl, hb⟩
            · simp [Instr.lookup, run_underlying ht, hck, g1, zeroValue, typeInfo, hi, hz]
            · simp [Instr.lookup, run_underlying ht, getObj, Sem.run, hb, hck, g1, zeroValue, typeInfo, hi, hz]
          · subst h
            cases ok
            · exact hzr
            · exact ⟨_, rfl, zv, [.bool false], rfl, hzr, _, [], rfl, rfl, rfl⟩
      · rename_i j x hfd
        simp at h
        obtain ⟨r', g1, g2⟩ := run_findKey (P := P) hk hkr hf hre hfd w
        cases r' with
        | none => simp at g2
        | some p =>
          obtain ⟨j', y⟩ := p
          simp at g2
          refine Out.same E (u := if ok then .tuple #[y, .bool true] else y) ?_ ?_
          · rcases hrun with ⟨rfl, rfl⟩ | ⟨b, clock, rfl, hb⟩
            · simp [Instr.lookup, run_underlying ht, hck, g1]
            · simp [Instr.lookup, run_underlying ht, getObj, Sem.run, hb, hck, g1]
          · subst h
            cases ok
            · exact g2.2.1
            · exact ⟨_, rfl, y, [.bool true], rfl, g2.2.1, _, [], rfl, rfl, rfl⟩
  · simp at h

/-- the whole of a map turns. -/
theorem setMap (E : Emb β hs w) {h : Nat} {e : Ent} {es : List (HV × HV × Nat)} {clock : Nat} (he : β[h]? = some e) (hb : hs[h]? = some (some (.map es clock))) {es' : List (HV × HV × Nat)} {res' : Array MapEntry} (clock' : Nat) (hr : RelE β es' res'.toList) :
    Step β hs w β (hs.set h (some (.map es' clock'))) { w with heap := w.heap.setIfInBounds e.blk (.map res' clock') } := by
  obtain ⟨res, h1, h2⟩ := E.blk h e _ he hb
  have hlt := lt_of_geta h1
  have S := Step.upd (w' := { w with heap := w.heap.setIfInBounds e.blk (.map res' clock') }) E (b := .map es clock) (b' := .map es' clock') he hb rfl rfl (by simp) (fun k hk => by simp [Array.getElem?_setIfInBounds_ne (Ne.symm hk)])
    ⟨res', by simp [hlt], hr⟩ rfl rfl rfl
  simpa [HB.olds, killAll] using S

def hmapSet (es : List (HV × HV × Nat)) (clock : Nat) (k v : HV) : Option (Nat × HV) → List (HV × HV × Nat) × Nat
  | some (i, _) => (es.modify i fun e => (k, v, e.2.2), clock)
  | none => (es ++ [(k, v, clock)], clock + 1)

def hmapUpdate (hs : HS) (kk : KK) (m k v : HV) : Option HS :=
  if kk.fits k then
  match m with
  | .map h =>
    match hs[h]? with
    | some (some (.map es clock)) =>
      match hfind k es 0 with
      | none => none
      | some r => some (hs.set h (some (.map (hmapSet es clock k v r).1 (hmapSet es clock k v r).2)))
    | _ => none
  | _ => none
  else none

theorem RelE.get {es : List (HV × HV × Nat)} {res : List MapEntry} (h : RelE β es res) {i : Nat} {k v : HV} {n : Nat} (hi : es[i]? = some (k, v, n)) : ∃ e, res[i]? = some e ∧ Rel β k e.key ∧ Rel β v e.val ∧ e.born = n := by
  induction es generalizing res i with
  | nil => simp at hi
  | cons x es ih =>
    obtain ⟨k', v', n'⟩ := x
    simp only [RelE] at h
    obtain ⟨e, es', rfl, h1, h2, h3, h4⟩ := h
    cases i with
    | zero => simp at hi; obtain ⟨rfl, rfl, rfl⟩ := hi; exact ⟨e, by simp, h1, h2, h3⟩
    | succ i => simpa using ih h4 (by simpa using hi)

theorem RelE.append {es fs : List (HV × HV × Nat)} {res rfs : List MapEntry} (h : RelE β es res) (h' : RelE β fs rfs) : RelE β (es ++ fs) (res ++ rfs) := by
  induction es generalizing res with
  | nil => simp only [RelE] at h; subst h; simpa using h'
  | cons x es ih =>
    obtain ⟨k', v', n'⟩ := x
    simp only [RelE] at h
    obtain ⟨e, es', rfl, h1, h2, h3, h4⟩ := h
    exact ⟨e, es' ++ rfs, rfl, h1, h2, h3, ih h4⟩

theorem RelE.modify {es : List (HV × HV × Nat)} {res : List MapEntry} (h : RelE β es res) (i : Nat) {k v : HV} {uk uv : Value} (hk : Rel β k uk) (hv : Rel β v uv) :
    RelE β (es.modify i fun e => (k, v, e.2.2)) (res.modify i fun e => { e with key := uk, val := uv }) := by
  induction es generalizing res i with
  | nil => simp only [RelE] at h; subst h; simp [RelE]
  | cons x es ih =>
    obtain ⟨k', v', n'⟩ := x
    simp only [RelE] at h
    obtain ⟨e, es', rfl, h1, h2, h3, h4⟩ := h
    cases i with
    | zero => simp only [List.modify_zero_cons, RelE]; exact ⟨_, es', rfl, hk, hv, h3, h4⟩
    | succ i => simp only [List.modify_succ_cons, RelE]; exact ⟨e, _, rfl, h1, h2, h3, ih h4 i⟩

theorem keyStays {x y : HV} {u v : Value} (hx : Rel β x u) (hy : Rel β y v) (h : keq x y = some true) (w : World) : (Instr.keyThatStays v u).run P w = .ok u w := by
  unfold keq at h
  split at h
  · simp only [Rel] at hx hy; subst hx; subst hy
    split at h
    · rename_i hjk; subst hjk
      simp at h; subst h
      simp [Instr.keyThatStays, Instr.sameBits]
    · simp at h
  · simp only [Rel] at hx hy; subst hx; subst hy
    simp at h; subst h
    simp [Instr.keyThatStays, Instr.sameBits, beq_toListBytes]
  · simp only [Rel] at hx hy; subst hx; subst hy
    simp at h; subst h
    simp [Instr.keyThatStays, Instr.sameBits]
  · simp at h

theorem hfind_key {k : HV} : ∀ {es : List (HV × HV × Nat)} {i j : Nat} {v : HV}, hfind k es i = some (some (j, v)) → ∃ k' n, es[j - i]? = some (k', v, n) ∧ keq k k' = some true ∧ i ≤ j
  | [], i, j, v, h => by simp [hfind] at h
  | (k', v', n) :: es, i, j, v, h => by
    unfold hfind at h
    split at h
    · rename_i hq
      simp at h; obtain ⟨rfl, rfl⟩ := h
      exact ⟨k', n, by simp, hq, Nat.le_refl _⟩
    · obtain ⟨k2, n2, h1, h2, h3⟩ := hfind_key h
      refine ⟨k2, n2, ?_, h2, by omega⟩
      rw [show j - i = (j - (i + 1)) + 1 by omega]
      simpa using h1
    · simp at h

theorem hmapUpdate_sound (E : Emb β hs w) {t kt et : TypeId} {kk : KK} {m k v : HV} {um uk uv : Value} {hs' : HS} (ht : P.underlying t = some (.map kt et)) (hk : keyK P kt = some kk)
    (hm : Rel β m um) (hkr : Rel β k uk) (hvr : Rel β v uv) (h : hmapUpdate hs kk m k v = some hs') : OutU P (Instr.mapUpdate t um uk uv) β hs w hs' := by
  unfold hmapUpdate at h
  split at h
  · rename_i hf
    split at h
    · rename_i hh
      split at h
      · rename_i es clock hb
        split at h
        · simp at h
        · rename_i r hfd
          simp at h; subst h
          simp only [Rel] at hm
          obtain ⟨e, he, rfl⟩ := hm
          obtain ⟨res, h1, h2⟩ := E.blk hh e _ he hb
          obtain ⟨r', g1, g2⟩ := run_findKey (P := P) hk hkr hf h2 hfd w
          have hck := fun b => run_checkKey (P := P) hk b 9999 uk w
          cases r with
          | none =>
            cases r' with
            | some => simp at g2
            | none =>
              have S := setMap E he hb (es' := es ++ [(k, v, clock)]) (res' := res.push { key := uk, val := uv, born := clock }) (clock + 1) (by rw [Array.toList_push]; exact h2.append ⟨_, [], rfl, hkr, hvr, rfl, rfl⟩)
              refine ⟨_, β, ?_, S⟩
              simp [Instr.mapUpdate, run_underlying ht, getObj, Sem.run, h1, hck, g1, setObj]
          | some p =>
            obtain ⟨j, x⟩ := p
            cases r' with
            | none => simp at g2
            | some p' =>
              obtain ⟨j', y⟩ := p'
              simp at g2
              obtain ⟨rfl, g3, g4⟩ := g2
              obtain ⟨k', n, q1, q2, _⟩ := hfind_key hfd
              simp at q1
              obtain ⟨me, q3, q4, q5, q6⟩ := h2.get q1
              simp at q3
              have hks := keyStays (P := P) hkr q4 q2 w
              have S := setMap E he hb (es' := es.modify j fun e => (k, v, e.2.2)) (res' := res.modify j fun e => { e with key := uk, val := uv }) clock (by
                have := h2.modify j hkr hvr
                simpa using this)
              refine ⟨_, β, ?_, S⟩
              simp [Instr.mapUpdate, run_underlying ht, getObj, Sem.run, h1, hck, g1, setObj, q3, hks]
      · simp at h
    · simp at h
  · simp at h

def hdelete (hs : HS) (kk : KK) (m k : HV) : Option HS :=
  if kk.fits k then
  match m with
  | .nilMap => some hs
  | .map h =>
    match hs[h]? with
    | some (some (.map es clock)) =>
      match hfind k es 0 with
      | none => none
      | some (some (i, _)) => some (hs.set h (some (.map (es.eraseIdx i) clock)))
      | some none => some (hs.set h (some (.map es clock)))
    | _ => none
  | _ => none
  else none

theorem RelE.erase {es : List (HV × HV × Nat)} {res : List MapEntry} (h : RelE β es res) (i : Nat) : RelE β (es.eraseIdx i) (res.eraseIdx i) := by
  induction es generalizing res i with
  | nil => simp only [RelE] at h; subst h; simp [RelE]
  | cons x es ih =>
    obtain ⟨k', v', n'⟩ := x
    simp only [RelE] at h
    obtain ⟨e, es', rfl, h1, h2, h3, h4⟩ := h
    cases i with
    | zero => simpa using h4
    | succ i => simp only [List.eraseIdx_cons_succ, RelE]; exact ⟨e, _, rfl, h1, h2, h3, ih h4 i⟩

theorem hdelete_sound (E : Emb β hs w) {t kt et tk ty : TypeId} {kk : KK} {m k : HV} {um uk : Value} {hs' : HS} (ht : P.underlying t = some (.map kt et)) (hk : keyK P kt = some kk)
    (hm : Rel β m um) (hkr : Rel β k uk) (h : hdelete hs kk m k = some hs') : Out P (Builtin.delete_ #[t, tk] ty #[um, uk]) β hs w (.tup []) hs' := by
  unfold hdelete at h
  have hck := fun b => run_checkKey (P := P) hk b 9999 uk w
  split at h
  · rename_i hf
    split at h
    · simp at h; subst h
      simp only [Rel] at hm; subst hm
      refine Out.same E (u := .tuple #[]) ?_ ⟨#[], rfl, rfl⟩
      simp [Builtin.delete_, run_underlying ht, hck]
    · rename_i hh
      split at h
      · rename_i es clock hb
        simp only [Rel] at hm
        obtain ⟨e, he, rfl⟩ := hm
        obtain ⟨res, h1, h2⟩ := E.blk hh e _ he hb
        split at h
        · simp at h
        · rename_i j x hfd
          simp at h; subst h
          obtain ⟨r', g1, g2⟩ := run_findKey (P := P) hk hkr hf h2 hfd w
          cases r' with
          | none => simp at g2
          | some p' =>
            obtain ⟨j', y⟩ := p'
            simp at g2
            obtain ⟨rfl, g3, g4⟩ := g2
            have hl := h2.length
            have S := setMap E he hb (es' := es.eraseIdx j) (res' := res.eraseIdxIfInBounds j) clock (by
              have := h2.erase j
              have hjl : j < res.size := by simp at hl; omega
              simp only [Array.eraseIdxIfInBounds, hjl, dif_pos]
              simpa using this)
            refine ⟨.tuple #[], _, β, ?_, ⟨#[], rfl, rfl⟩, S⟩
            simp [Builtin.delete_, run_underlying ht, getObj, Sem.run, h1, hck, g1, setObj]
        · rename_i hfd
          simp at h; subst h
          obtain ⟨r', g1, g2⟩ := run_findKey (P := P) hk hkr hf h2 hfd w
          cases r' with
          | some => simp at g2
          | none =>
            have S := setMap E he hb (es' := es) (res' := res) clock h2
            refine ⟨.tuple #[], _, β, ?_, ⟨#[], rfl, rfl⟩, S⟩
            simp [Builtin.delete_, run_underlying ht, getObj, Sem.run, h1, hck, g1, setObj]
      · simp at h
    · simp at h
  · simp at h

def hclearMap (hs : HS) (m : HV) : Option HS :=
  match m with
  | .nilMap => some hs
  | .map h =>
    match hs[h]? with
    | some (some (.map _ clock)) => some (hs.set h (some (.map [] clock)))
    | _ => none
  | _ => none

theorem hclearMap_sound (E : Emb β hs w) {t kt et ty : TypeId} {m : HV} {um : Value} {hs' : HS} (ht : P.underlying t = some (.map kt et)) (hm : Rel β m um) (h : hclearMap hs m = some hs') : Out P (Builtin.clear_ #[t] ty #[um]) β hs w (.tup []) hs' := by
  unfold hclearMap at h
  split at h
  · simp at h; subst h
    simp only [Rel] at hm; subst hm
    exact Out.same E (u := .tuple #[]) (by simp [Builtin.clear_, run_underlying ht]) ⟨#[], rfl, rfl⟩
  · rename_i hh
    split at h
    · rename_i es clock hb
      simp at h; subst h
      simp only [Rel] at hm
      obtain ⟨e, he, rfl⟩ := hm
      obtain ⟨res, h1, h2⟩ := E.blk hh e _ he hb
      have S := setMap E he hb (es' := []) (res' := #[]) clock rfl
      refine ⟨.tuple #[], _, β, ?_, ⟨#[], rfl, rfl⟩, S⟩
      simp [Builtin.clear_, run_underlying ht, getObj, Sem.run, h1, setObj]
    · simp at h
  · simp at h

end
end Go.HL
