/-
  HL: append.
-/
import Derived.Test.YteedmbmgemiheaaDoorKYHLMem
import Derived.Deep.DeepAppendWide
namespace Go.HL
open Go

theorem Step.toRo {β : List Ent} {hs : HS} {w : World} (E : Emb β hs w) {h s : Nat} {cs : List HV} {opn : Bool} {olds : List Nat} (hb : hs[h]? = some (some (.cells s cs false opn olds))) :
    Step β hs w β (hs.set h (some (.cells s cs true opn []))) w := by
  have key : ∀ (i : Nat) (c : HB), (hs.set h (some (.cells s cs true opn [])))[i]? = some (some c) → (i = h ∧ c = .cells s cs true opn []) ∨ (i ≠ h ∧ hs[i]? = some (some c)) := by
    intro i c hc
    rw [List.getElem?_set] at hc
    split at hc
    · rename_i hih
      split at hc
      · simp at hc; exact .inl ⟨hih.symm, hc.symm⟩
      · simp at hc
    · rename_i hih
      exact .inr ⟨fun x => hih x.symm, hc⟩
  refine ⟨Ext.refl _, ⟨by simp [E.len], ?_, ?_⟩, Nat.le_refl _, fun _ _ _ => rfl, ?_, rfl, rfl, rfl, fun _ _ hl he => absurd (lt_of_get he) (by omega)⟩
  · intro i e c h1 h2
    rcases key i c h2 with ⟨rfl, rfl⟩ | ⟨_, h3⟩
    · obtain ⟨hes, cur, t, fz, hg, hfz, hr⟩ := E.blk i e _ h1 hb
      exact ⟨hes, cur, t, fz, hg, fun x => by simp at x, hr⟩
    · exact E.blk i e c h1 h3
  · intro g i e1 e2 b1 b2 hne h1 h2 h3 h4 heq hro
    rcases key i b2 h4 with ⟨rfl, rfl⟩ | ⟨l1, l2⟩
    · simp [HB.ro] at hro
    · rcases key g b1 h3 with ⟨rfl, rfl⟩ | ⟨k1, k2⟩
      · have := (E.sep g i e1 e2 _ b2 hne h1 h2 hb l2 heq hro).2.1
        simp [HB.ro] at this
      · exact E.sep g i e1 e2 b1 b2 hne h1 h2 k2 l2 heq hro
  · rintro k hk ⟨i, e, c, h1, h2, h3, h4⟩
    rcases key i c h2 with ⟨rfl, rfl⟩ | ⟨_, h5⟩
    · simp [HB.ro] at h3
    · exact ⟨i, e, c, h1, h5, h3, h4⟩

/-- a handle grows in its own block: the elder handles stand still, or are gone. -/
theorem Step.share {β : List Ent} {hs hs1 : HS} {w : World} (E : Emb β hs w) {h s : Nat} {e : Ent} {cs : List HV} {olds olds' : List Nat} (he : β[h]? = some e) (hb : hs[h]? = some (some (.cells s cs false true olds)))
    (o len m : Nat) (hoN : o + len + m ≤ e.N) (hle : (o + len) * s ≤ cs.length) (news : List HV) (us : List Value) (hx : RelL β news us) (hn : news.length = m * s) (h1 : ∀ x ∈ news, x.one = true)
    (hl : hs1.length = hs.length)
    (hs1h : ∀ (i : Nat) (c : HB), hs1[i]? = some (some c) → (i = h ∧ c = .cells s cs true true [] ∧ (o + len) * s = cs.length ∧ h ∈ olds') ∨ (i ≠ h ∧ hs[i]? = some (some c) ∧ (i ∈ olds → (o + len) * s = cs.length ∧ i ∈ olds'))) :
    Step β hs w (β ++ [⟨e.blk, e.shift + o * s, e.N - o, s⟩]) (hs1 ++ [some (.cells s ((cs.drop (o * s)).take (len * s) ++ news) false true olds')]) (w.setCells e.blk (e.shift + (o + len) * s) us) := by
  obtain ⟨hes, cur, t, fz, hg, hfz, hfit, hcl, hcs⟩ := E.blk h e _ he hb
  simp only at hes hfz
  have hul := hx.length
  obtain ⟨cur', g1, g2, g3, g4⟩ := setCells_heap e.blk us (e.shift + (o + len) * s) w cur t fz hg
  obtain ⟨r1, r2, r3, r4⟩ := setCells_rest e.blk us (e.shift + (o + len) * s) w
  have m1 : (o + len) * s = o * s + len * s := Nat.add_mul _ _ _
  have m2 : (o + len + m) * s = o * s + len * s + m * s := by rw [Nat.add_mul, Nat.add_mul]
  have m3 : (o + len + m) * s ≤ e.N * s := Nat.mul_le_mul_right _ hoN
  have m4 : (e.N - o) * s = e.N * s - o * s := Nat.sub_mul _ _ _
  have m5 : o * s ≤ e.N * s := Nat.mul_le_mul_right _ (by omega)
  have hseg : ((cs.drop (o * s)).take (len * s)).length = len * s := by simp; omega
  -- what the live handles of the new state are
  have key : ∀ (i : Nat) (e' : Ent) (c : HB), (β ++ [⟨e.blk, e.shift + o * s, e.N - o, s⟩])[i]? = some e' → (hs1 ++ [some (.cells s ((cs.drop (o * s)).take (len * s) ++ news) false true olds')])[i]? = some (some c) →
      (β[i]? = some e' ∧ hs1[i]? = some (some c)) ∨ (i = β.length ∧ e' = ⟨e.blk, e.shift + o * s, e.N - o, s⟩ ∧ c = .cells s ((cs.drop (o * s)).take (len * s) ++ news) false true olds') := by
    intro i e' c k1 k2
    rcases get_snoc k1 with k3 | ⟨k3, k3'⟩
    · rcases get_snoc k2 with k4 | ⟨k4, _⟩
      · exact .inl ⟨k3, k4⟩
      · have := lt_of_get k3; rw [E.len] at this; omega
    · rcases get_snoc k2 with k4 | ⟨_, k4⟩
      · have := lt_of_get k4; rw [hl, ← E.len] at this; omega
      · exact .inr ⟨k3, k3', by simpa using k4⟩
  -- the elder handles' cells lie below what is written
  have low : ∀ (i : Nat) (e' : Ent) (c : HB), β[i]? = some e' → hs1[i]? = some (some c) → BlkRel β (w.setCells e.blk (e.shift + (o + len) * s) us) e' c := by
    intro i e' c k1 k2
    have cellsCase : ∀ (s' : Nat) (cs' : List HV) (opn' : Bool) (olds'' : List Nat), BlkRel β w e' (.cells s' cs' true opn' olds'') → e'.blk = e.blk → e'.shift + cs'.length ≤ e.shift + (o + len) * s →
        BlkRel β (w.setCells e.blk (e.shift + (o + len) * s) us) e' (.cells s' cs' true opn' olds'') := by
      intro s' cs' opn' olds'' ⟨q1, cur2, t2, fz2, q2, _, q4, q5, q6⟩ hblk hbd
      rw [hblk, hg] at q2
      cases q2
      refine ⟨q1, cur', t, fz, by rw [hblk]; exact g1, fun x => by simp at x, by rw [g2]; exact q4, q5, fun j x hj => ?_⟩
      obtain ⟨u, hu, hr⟩ := q6 j x hj
      refine ⟨u, ?_, hr⟩
      have := lt_of_get hj
      rw [g3 _ (by omega)]
      exact hu
    rcases hs1h i c k2 with ⟨rfl, rfl, hfr, _⟩ | ⟨k3, k4, k5⟩
    · rw [he] at k1; cases k1
      exact cellsCase s cs true [] ⟨hes, cur, t, fz, hg, fun x => by simp at x, hfit, hcl, hcs⟩ rfl (by omega)
    · by_cases hblk : e'.blk = e.blk
      · have hsep := E.sep i h e' e c _ k3 k1 he k4 hb hblk rfl
        obtain ⟨k6, k7, k8⟩ := hsep
        obtain ⟨hfr, _⟩ := k5 k6
        have hB := E.blk i e' c k1 k4
        cases c with
        | cells s' cs' ro' opn' olds'' =>
          simp only [HB.ro] at k7
          subst k7
          simp only [HB.clen] at k8
          exact cellsCase s' cs' opn' olds'' hB hblk (by omega)
        | map => simp [HB.ro] at k7
        | siter => simp [HB.ro] at k7
        | miter => simp [HB.ro] at k7
        | loop => simp [HB.ro] at k7
        | gint g =>
          obtain ⟨q1, q2, cur2, t2, fz2, m, q3, q4⟩ := hB
          rw [hblk, hg] at q3
          simp at q3; obtain ⟨rfl, rfl, rfl⟩ := q3
          simp only [HB.clen] at k8
          refine ⟨q1, q2, cur', t, fz, m, by rw [hblk]; exact g1, ?_⟩
          rw [g3 0 (by omega)]
          exact q4
        | gpin g h' =>
          obtain ⟨q1, q2, q3, q4⟩ := hB
          exact ⟨q1, q2, ⟨_, by rw [hblk]; exact g1⟩, q4⟩
        | gtab g k zs =>
          obtain ⟨q1, q2, t2, fz2, q3⟩ := hB
          rw [hblk, hg] at q3
          simp at q3; obtain ⟨rfl, rfl, rfl⟩ := q3
          simp only [HB.clen] at k8
          have hcc : cur' = (zs.map (Value.int k)).toArray := by
            apply Array.ext_getElem?
            intro i
            by_cases hi : i < zs.length
            · exact g3 i (by omega)
            · rw [Array.getElem?_eq_none (by rw [g2]; simp; omega), Array.getElem?_eq_none (by simp; omega)]
          exact ⟨q1, q2, t, fz, by rw [hblk, ← hcc]; exact g1⟩
        | kbox h' =>
          obtain ⟨q1, t2, fz2, e2, q3, q4⟩ := hB
          rw [hblk, hg] at q3
          simp at q3; obtain ⟨rfl, rfl, rfl⟩ := q3
          simp only [HB.clen] at k8
          have hcc : cur' = #[.map (some e2.blk)] := by
            apply Array.ext_getElem?
            intro i
            by_cases hi : i < 1
            · exact g3 i (by omega)
            · rw [Array.getElem?_eq_none (by rw [g2]; simp; omega), Array.getElem?_eq_none (by simp; omega)]
          exact ⟨q1, t, fz, e2, by rw [hblk, ← hcc]; exact g1, q4⟩
      · exact (E.blk i e' c k1 k4).world (setCells_far e.blk us _ w _ hblk)
  refine ⟨Ext.snoc _ _, ⟨by simp [E.len, hl], ?_, ?_⟩, by omega, ?_, ?_, r2, r3, r4, fun i e' hl' he' => by
    rcases get_snoc he' with h3 | ⟨_, h3⟩
    · exact absurd (lt_of_get h3) (by omega)
    · subst h3; exact .inr ⟨h, e, _, he, hb, rfl, rfl⟩⟩
  · intro i e' c k1 k2
    rcases key i e' c k1 k2 with ⟨k3, k4⟩ | ⟨_, rfl, rfl⟩
    · exact (low i e' c k3 k4).mono (Ext.snoc _ _)
    · refine ⟨rfl, cur', t, fz, g1, by rw [g2]; exact fun _ => hfz trivial, by rw [g2]; simp only; omega, by simp only [List.length_append, hseg, hn]; omega, fun j x hj => ?_⟩
      simp only
      rw [List.getElem?_append] at hj
      split at hj
      · rename_i hlt
        rw [hseg] at hlt
        rw [List.getElem?_take, if_pos hlt, List.getElem?_drop] at hj
        obtain ⟨u, hu, hr, ho⟩ := hcs _ _ hj
        refine ⟨u, ?_, hr.mono (Ext.snoc _ _) _ _, ho⟩
        rw [g3 _ (by omega), ← hu]
        congr 1
        omega
      · rename_i hge
        rw [hseg] at hj hge
        obtain ⟨u, hu, hr⟩ := hx.get hj
        refine ⟨u, ?_, hr.mono (Ext.snoc _ _) _ _, h1 x (List.mem_of_getElem? hj)⟩
        have hjl := lt_of_get hj
        have := g4 (j - len * s) u hu (by omega)
        rwa [show e.shift + (o + len) * s + (j - len * s) = e.shift + o * s + j by omega] at this
  · intro g i e1 e2 b1 b2 hne k1 k2 k3 k4 heq hro
    rcases key i e2 b2 k2 k4 with ⟨l1, l2⟩ | ⟨l0, rfl, rfl⟩
    · -- an elder handle that may be written: it lies elsewhere
      rcases hs1h i b2 l2 with ⟨_, rfl, _⟩ | ⟨l3, l4, _⟩
      · simp [HB.ro] at hro
      · have notb : e2.blk ≠ e.blk := by
          intro hbb
          have := (E.sep h i e e2 _ b2 (fun x => l3 x.symm) he l1 hb l4 hbb.symm hro).2.1
          simp [HB.ro] at this
        rcases key g e1 b1 k1 k3 with ⟨k5, k6⟩ | ⟨_, rfl, rfl⟩
        · rcases hs1h g b1 k6 with ⟨rfl, _, _⟩ | ⟨_, k8, _⟩
          · rw [he] at k5; cases k5; exact absurd heq.symm notb
          · exact E.sep g i e1 e2 b1 b2 hne k5 l1 k8 l4 heq hro
        · exact absurd heq.symm notb
    · rcases key g e1 b1 k1 k3 with ⟨k5, k6⟩ | ⟨k7, _⟩
      · simp only at heq
        rcases hs1h g b1 k6 with ⟨rfl, rfl, hfr, hin⟩ | ⟨k8, k9, k10⟩
        · rw [he] at k5; cases k5
          refine ⟨hin, rfl, ?_⟩
          simp only [HB.clen, List.length_append, hseg, hn]
          omega
        · obtain ⟨z1, z2, z3⟩ := E.sep g h e1 e b1 _ k8 k5 he k9 hb heq rfl
          obtain ⟨hfr, hin⟩ := k10 z1
          refine ⟨hin, z2, ?_⟩
          simp only [HB.clen, List.length_append, hseg, hn] at z3 ⊢
          omega
      · omega
  · intro k hk hno
    exact setCells_far e.blk us _ w k fun hke => hno ⟨h, e, _, he, hb, rfl, hke.symm⟩
  · rintro k hk ⟨i, e', c, k1, k2, k3, k4⟩
    rcases key i e' c k1 k2 with ⟨l1, l2⟩ | ⟨_, rfl, rfl⟩
    · rcases hs1h i c l2 with ⟨_, rfl, _⟩ | ⟨_, l4, _⟩
      · simp [HB.ro] at k3
      · exact ⟨i, e', c, l1, l4, k3, k4⟩
    · exact ⟨h, e, _, he, hb, rfl, k4⟩

/-- what a value yields to append, to copy. -/
def takeCells (hs : HS) (s : Nat) : HV → Option (Nat × List HV)
  | .nilSlice => some (0, [])
  | .slice h o len _ =>
    if len = 0 then some (0, []) else
    match hs[h]? with
    | some (some (.cells s' cs _ _ _)) => if s' = s ∧ (o + len) * s ≤ cs.length then some (len, (cs.drop (o * s)).take (len * s)) else none
    | _ => none
  | .str b => if s = 1 then some (b.length, b.map fun c => .int .u8 c.toNat) else none
  | _ => none

theorem RelL.bytes (β : List Ent) : ∀ b : List UInt8, RelL β (b.map fun c => HV.int .u8 c.toNat) (b.map fun c => Value.int .u8 c.toNat)
  | [] => rfl
  | c :: b => by simp only [List.map_cons, RelL]; exact ⟨_, _, rfl, rfl, RelL.bytes β b⟩

/-- cells of a live handle, as the world has them. -/
theorem BlkRel.seg {β : List Ent} {w : World} {e : Ent} {s : Nat} {cs : List HV} {ro opn : Bool} {olds : List Nat} (r : BlkRel β w e (.cells s cs ro opn olds)) (o n : Nat) (hle : o + n ≤ cs.length) :
    ∃ us, RelL β ((cs.drop o).take n) us ∧ us.length = n ∧ (∀ x ∈ (cs.drop o).take n, x.one = true) ∧ ∀ (j : Nat) (u : Value), us[j]? = some u → w.cell? ⟨e.blk, e.shift + o + j, none⟩ = some u := by
  obtain ⟨_, cur, t, fz, hg, _, hfit, hcl, hcs⟩ := r
  have hl : ((cs.drop o).take n).length = n := by simp; omega
  refine ⟨(List.range n).map (fun i => cur[e.shift + o + i]?.getD undef), RelL.of_get (by simpa using hl) ?_, by simp, ?_, ?_⟩
  · intro i x hi
    have hi0 := hi
    rw [List.getElem?_take] at hi
    split at hi
    · rename_i hlt
      rw [List.getElem?_drop] at hi
      obtain ⟨u, hu, hr, _⟩ := hcs _ _ hi
      refine ⟨u, ?_, hr⟩
      simp [hlt, Nat.add_assoc, hu]
    · simp at hi
  · intro x hx
    obtain ⟨i, hi⟩ := List.getElem?_of_mem hx
    rw [List.getElem?_take] at hi
    split at hi
    · rw [List.getElem?_drop] at hi
      obtain ⟨u, _, _, h1⟩ := hcs _ _ hi
      exact h1
    · simp at hi
  · intro j u hj
    simp only [List.getElem?_map] at hj
    have hjn : j < n := by
      rcases Nat.lt_or_ge j n with h | h
      · exact h
      · simp [List.getElem?_eq_none (show (List.range n).length ≤ j by simpa using h)] at hj
    have hx : ∃ x, cs[o + j]? = some x := ⟨cs[o + j], by simp⟩
    obtain ⟨x, hx⟩ := hx
    obtain ⟨u', hu', _, _⟩ := hcs _ _ hx
    simp [hjn, Nat.add_assoc, hu'] at hj
    subst hj
    simp [World.cell?, hg, Nat.add_assoc, hu']

theorem takeCells_len {hs : HS} {s : Nat} {y : HV} {m : Nat} {news : List HV} (h : takeCells hs s y = some (m, news)) : news.length = m * s := by
  unfold takeCells at h
  split at h
  · simp at h; obtain ⟨rfl, rfl⟩ := h; simp
  · split at h
    · simp at h; obtain ⟨rfl, rfl⟩ := h; simp
    · split at h
      · split at h
        · rename_i hc
          simp at h; obtain ⟨rfl, rfl⟩ := h
          rw [Nat.add_mul] at hc
          simp; omega
        · simp at h
      · simp at h
  · split at h
    · rename_i hs1
      simp at h; obtain ⟨rfl, rfl⟩ := h; simp [hs1]
    · simp at h
  · simp at h

section
variable {P : Program}

theorem takeCells_src {β : List Ent} {hs : HS} {w : World} (E : Emb β hs w) {s : Nat} {y : HV} {v : Value} {m : Nat} {news : List HV} {tx : TypeId} (hy : Rel β y v) (ht : takeCells hs s y = some (m, news))
    (hk : (∃ e', P.underlying tx = some (.slice e')) ∨ P.underlying tx = some .string) :
    ∃ us, RelL β news us ∧ (∀ x ∈ news, x.one = true) ∧ Src P s tx v m us w := by
  have zero : ∀ (a : Addr) (c : Nat), Src P s tx (.slice (some a) 0 c) 0 [] w := fun a c =>
    ⟨hk, fun _ => rfl, by simp [Builtin.firstCells, loadCells, loadCellsFrom], by simp [Builtin.firstCells, loadCells, loadCellsFrom], by simp, fun _ h => by cases h⟩
  unfold takeCells at ht
  split at ht
  · simp at ht; obtain ⟨rfl, rfl⟩ := ht
    simp only [Rel] at hy; subst hy
    exact ⟨[], rfl, by simp, ⟨hk, fun _ => rfl, run_firstCells_none w s 0 0 0, run_firstCells_none w.drew s 0 0 0, by simp, fun _ h => by cases h⟩⟩
  · rename_i h o len cap
    simp only [Rel] at hy
    obtain ⟨e, a, c, he, rfl, hlc, hc, ha⟩ := hy
    split at ht
    · rename_i h0
      simp at ht; obtain ⟨rfl, rfl⟩ := ht
      subst h0
      exact ⟨[], rfl, by simp, zero a c⟩
    · rename_i h0
      split at ht
      · rename_i s' cs ro opn olds hb
        split at ht
        · rename_i hcond
          obtain ⟨rfl, hle⟩ := hcond
          simp at ht; obtain ⟨rfl, rfl⟩ := ht
          have hB := E.blk h e _ he hb
          have hes : e.s = s' := hB.1
          rw [Nat.add_mul] at hle
          obtain ⟨us, r1, r2, r3, r4⟩ := hB.seg (o * s') (len * s') hle
          have ha' := ha (by omega)
          subst ha'
          refine ⟨us, r1, r3, ⟨hk, fun _ => rfl, ?_, ?_, r2, ?_⟩⟩
          · refine run_firstCells_some w s' len _ len c us r2 fun j u hj => ?_
            rw [Addr.add_lit, hes]
            exact r4 j u hj
          · refine run_firstCells_some w.drew s' len _ len c us r2 fun j u hj => ?_
            rw [Addr.add_lit, hes]
            simpa using r4 j u hj
          · intro u hu
            obtain ⟨i, hi⟩ := List.getElem?_of_mem hu
            have : ∃ x, ((cs.drop (o * s')).take (len * s'))[i]? = some x := by
              have := lt_of_get hi
              rw [← r1.length] at this
              exact ⟨_, List.getElem?_eq_getElem this⟩
            obtain ⟨x, hx⟩ := this
            obtain ⟨u', hu', hr⟩ := r1.get hx
            rw [hi] at hu'; cases hu'
            exact hr.one (r3 x (List.mem_of_getElem? hx))
        · simp at ht
      · simp at ht
  · rename_i b
    split at ht
    · rename_i hs1
      subst hs1
      simp at ht; obtain ⟨rfl, rfl⟩ := ht
      simp only [Rel] at hy; subst hy
      have hsz : (⟨b.toArray⟩ : ByteArray).size = b.length := by simp [ByteArray.size]
      have hbc : byteCells ⟨b.toArray⟩ = b.map fun c => Value.int .u8 c.toNat := by simp [byteCells]
      have f1 := firstCells_string (P := P) ⟨b.toArray⟩ w
      have f2 := firstCells_string (P := P) ⟨b.toArray⟩ w.drew
      rw [hsz, hbc] at f1 f2
      refine ⟨_, RelL.bytes β b, ?_, ⟨hk, fun _ => ?_, f1, f2, by simp, ?_⟩⟩
      · intro x hx; obtain ⟨c, _, rfl⟩ := List.mem_map.1 hx; rfl
      · simp [Builtin.lenOf, hsz]
      · intro x hx; obtain ⟨c, _, rfl⟩ := List.mem_map.1 hx; rfl
    · simp at ht
  · simp at ht

/-- so many elements have room, if their row must be laid anew. -/
def roomFor (n bytes : Nat) : Bool := decide (n * bytes ≤ 140737488355328) || decide ((n + n / 4 + 192) * bytes ≤ 281474976710656)
theorem roomFor_of {n bytes : Nat} (h : n * bytes ≤ 140737488355328) : roomFor n bytes = true := by simp [roomFor, h]
theorem roomFor_wide {n bytes : Nat} (h : (n + n / 4 + 192) * bytes ≤ 281474976710656) : roomFor n bytes = true := by simp [roomFor, h]
theorem growslice_room {need old bytes : Nat} (h : old < need) (hb : roomFor need bytes = true) : Builtin.nextslicecap need old * bytes ≤ 281474976710656 := by
  simp only [roomFor, Bool.or_eq_true, decide_eq_true_eq] at hb
  rcases hb with hb | hb
  · exact growslice_fits h hb
  · exact growslice_fits_wide h hb

/-- append: s cells an element, so many bytes an element. -/
def happend (hs : HS) (s bytes : Nat) (x y : HV) : Option (HV × HS) :=
  match takeCells hs s y with
  | none => none
  | some (m, news) =>
  match x with
  | .nilSlice => if m = 0 then some (x, hs) else
      if roomFor m bytes = true ∧ m ≤ maxLen then some (.slice hs.length 0 m none, hs ++ [some (.cells s news false true [])]) else none
  | .slice h o len (some c) =>
    if m = 0 then some (x, hs) else
    if len + m ≤ c then
      match hs[h]? with
      | some (some (.cells s' cs false opn olds)) =>
        if s' = s ∧ (o + len) * s ≤ cs.length then some (.slice h o (len + m) (some c), (killAll olds hs).set h (some (.cells s (overw cs ((o + len) * s) news) false opn []))) else none
      | _ => none
    else
      match takeCells hs s x with
      | some (_, old) => if roomFor (len + m) bytes = true ∧ len + m ≤ maxLen then some (.slice hs.length 0 (len + m) none, hs ++ [some (.cells s (old ++ news) false true [])]) else none
      | none => none
  | .slice h o len none =>
    if m = 0 then some (x, hs) else
    match hs[h]? with
    | some (some (.cells s' cs false true olds)) =>
      if s' = s ∧ (o + len) * s ≤ cs.length ∧ roomFor (len + m) bytes = true ∧ len + m ≤ maxLen then
        if (o + len) * s = cs.length then
          some (.slice hs.length 0 (len + m) none, hs.set h (some (.cells s cs true true [])) ++ [some (.cells s ((cs.drop (o * s)).take (len * s) ++ news) false true (h :: olds))])
        else
          some (.slice hs.length 0 (len + m) none, (killAll olds hs).set h none ++ [some (.cells s ((cs.drop (o * s)).take (len * s) ++ news) false true [])])
      else none
    | _ => none
  | _ => none

/-- what an operation's run comes to. -/
def Out (P : Program) (x : Sem Value) (β : List Ent) (hs : HS) (w : World) (v : HV) (hs' : HS) : Prop :=
  ∃ u w' β', x.run P w = .ok u w' ∧ Rel β' v u ∧ Step β hs w β' hs' w'

theorem firstCells_take {β : List Ent} {hs : HS} {w : World} (E : Emb β hs w) {s h o len : Nat} {cap : Option Nat} {v : Value} {m : Nat} {news : List HV} (hy : Rel β (.slice h o len cap) v) (ht : takeCells hs s (.slice h o len cap) = some (m, news)) :
    ∃ us, m = len ∧ RelL β news us ∧ (∀ x ∈ news, x.one = true) ∧ (Builtin.firstCells s len v).run P w.drew = .ok us.toArray w.drew := by
  unfold takeCells at ht
  simp only [Rel] at hy
  obtain ⟨e, a, c, he, rfl, hlc, hc, ha⟩ := hy
  simp only at ht
  split at ht
  · rename_i h0
    simp at ht; obtain ⟨rfl, rfl⟩ := ht
    subst h0
    exact ⟨[], rfl, rfl, by simp, by simp [Builtin.firstCells, loadCells, loadCellsFrom]⟩
  · rename_i h0
    split at ht
    · rename_i s' cs ro opn olds hb
      split at ht
      · rename_i hcond
        obtain ⟨rfl, hle⟩ := hcond
        simp at ht; obtain ⟨rfl, rfl⟩ := ht
        have hB := E.blk h e _ he hb
        have hes : e.s = s' := hB.1
        rw [Nat.add_mul] at hle
        obtain ⟨us, r1, r2, r3, r4⟩ := hB.seg (o * s') (len * s') hle
        have ha' := ha (by omega)
        subst ha'
        refine ⟨us, rfl, r1, r3, run_firstCells_some w.drew s' len _ len c us r2 fun j u hj => ?_⟩
        rw [Addr.add_lit, hes]
        simpa using r4 j u hj
      · simp at ht
    · simp at ht

/-- the new row of an append that grows. -/
theorem grown_new {β : List Ent} {hs : HS} {w : World} (E : Emb β hs w) {s : Nat} {e : TypeId} {cs : List HV} {us : List Value} (hx : RelL β cs us) (h1 : ∀ x ∈ cs, x.one = true) (n c : Nat) (hn : cs.length = n * s) (hnc : n ≤ c) (z : Array Value) (hz : z.size = s) (olds : List Nat) :
    Step β hs w (β ++ [⟨w.heap.size, 0, c, s⟩]) (hs ++ [some (.cells s cs false true olds)]) (w.drew.alloc (.cells (us.toArray ++ Builtin.zeroCells z (c - n)) e)) ∧
    Rel (β ++ [⟨w.heap.size, 0, c, s⟩]) (.slice hs.length 0 n none) (.slice (some ⟨w.heap.size, 0, none⟩) n c) := by
  have hul := hx.length
  have hsz : (us.toArray ++ Builtin.zeroCells z (c - n)).size = c * s := by
    simp only [Array.size_append, List.size_toArray, Builtin.zeroCells, Array.size_map, Array.size_range, hz, ← hul, hn, ← Nat.add_mul]
    congr 1; omega
  have S1 : Step β hs w β hs w.drew := Step.drew E _
  have S2 := Step.new S1.emb (.cells (us.toArray ++ Builtin.zeroCells z (c - n)) e) ⟨w.heap.size, 0, c, s⟩ (.cells s cs false true olds) rfl (by
    refine ⟨rfl, _, e, (0, 0), heap_alloc_new _ _, fun _ => .inl rfl, by simp only [hsz]; omega, by simp only [hn]; exact Nat.mul_le_mul_right _ hnc, fun i x hi => ?_⟩
    obtain ⟨u, hu, hr⟩ := hx.get hi
    refine ⟨u, ?_, hr.mono (Ext.snoc _ _) _ _, h1 x (List.mem_of_getElem? hi)⟩
    have hlt := lt_of_get hu
    rw [Array.getElem?_append_left (by simpa using hlt)]
    simpa using hu)
  refine ⟨S1.trans S2, ?_⟩
  simp only [Rel]
  refine ⟨_, ⟨w.heap.size, 0, none⟩, c, by rw [← E.len]; exact get_snoc_last _ _, rfl, hnc, by simp, fun _ => by simp⟩

theorem happend_sound {β : List Ent} {hs : HS} {w : World} (E : Emb β hs w) {s bytes : Nat} {x y : HV} {vx vy : Value} {v : HV} {hs' : HS} {t tx ty e : TypeId} {i : TypeInfo} {z : Value}
    (ht : P.underlying t = some (.slice e)) (hi : P.info? e = some i) (hz : i.zero = some z) (hsize : i.size = s) (hby : i.bytes = bytes) (hzs : z.cells.size = s)
    (hk : (∃ e', P.underlying tx = some (.slice e')) ∨ P.underlying tx = some .string)
    (hx : Rel β x vx) (hy : Rel β y vy) (h : happend hs s bytes x y = some (v, hs')) : Out P (Builtin.append_ #[t, tx] ty #[vx, vy]) β hs w v hs' := by
  subst hsize
  subst hby
  unfold happend at h
  cases htk : takeCells hs i.size y with
  | none => rw [htk] at h; simp at h
  | some mn =>
  obtain ⟨m, news⟩ := mn
  rw [htk] at h
  simp only at h
  have hnl := takeCells_len htk
  obtain ⟨us, q1, q2, hsrc⟩ := takeCells_src (P := P) E hy htk hk
  have hul := q1.length
  split at h
  · -- nil
    simp only [Rel] at hx; subst hx
    split at h
    · rename_i h0
      subst h0
      simp at h; obtain ⟨rfl, rfl⟩ := h
      have : us = [] := by cases us <;> simp_all
      subst this
      exact ⟨_, w, β, run_append_nothing w t tx ty e i ht hi none 0 0 (Nat.le_refl _) vy hsrc, rfl, Step.refl E⟩
    · rename_i h0
      split at h
      · rename_i hb
        simp at h; obtain ⟨rfl, rfl⟩ := h
        obtain ⟨hb1, hb2⟩ := hb
        have hm63 : m ≤ 9223372036854775807 := by simp only [maxLen] at hb2; omega
        have hr := run_append_grow_src w t tx ty e i z ht hi hz none 0 0 [] (run_firstCells_none w.drew i.size 0 0 0) vy m us hsrc (by omega) (by omega) (growslice_room (by omega) (by simpa using hb1))
        simp only [Nat.zero_add, List.nil_append] at hr
        have hge := grownCap_ge w m 0 e
        obtain ⟨S, R⟩ := grown_new (e := e) E q1 q2 m (grownCap w m 0 e) hnl hge z.cells hzs []
        exact ⟨_, _, _, hr, R, S⟩
      · simp at h
  · -- the room is known
    rename_i hh o len c
    have hx0 := hx
    simp only [Rel] at hx
    obtain ⟨en, a, c', he, rfl, hlc, ⟨hc, hcN⟩, ha⟩ := hx
    subst hc
    split at h
    · rename_i h0
      subst h0
      simp at h; obtain ⟨rfl, rfl⟩ := h
      have : us = [] := by cases us <;> simp_all
      subst this
      exact ⟨_, w, β, run_append_nothing w t tx ty e i ht hi (some a) len c' hlc vy hsrc, hx0, Step.refl E⟩
    · rename_i h0
      split at h
      · rename_i hroom
        split at h
        · rename_i s' cs opn olds hb
          split at h
          · rename_i hcond
            obtain ⟨rfl, hle⟩ := hcond
            simp at h; obtain ⟨rfl, rfl⟩ := h
            have hB := E.blk hh en _ he hb
            have hes : en.s = i.size := hB.1
            have ha' := ha (by omega)
            rw [hes] at ha'
            subst ha'
            obtain ⟨_, cur, tt, fz, hg, hfz, hfit, hcl, hcs⟩ := hB
            have m1 : (o + len) * i.size = o * i.size + len * i.size := Nat.add_mul _ _ _
            have m2 : (o + len + m) * i.size = o * i.size + len * i.size + m * i.size := by rw [Nat.add_mul, Nat.add_mul]
            have m3 : (o + len + m) * i.size ≤ en.N * i.size := Nat.mul_le_mul_right _ (by omega)
            have hul9 := q1.length
            have hr := run_append_room_src w t tx ty e i ht hi en.blk (en.shift + o * i.size) len c' vy m us hsrc hroom
              (fun j hj => by
                have : en.shift + o * i.size + len * i.size + j < cur.size := by omega
                simp [World.cell?, hg, this])
              (fun j hj => by
                have h1 : en.shift + o * i.size + len * i.size + j < cur.size := by omega
                have := (hfz rfl).away _ h1
                simp only [World.frozen?, hg]
                simp only [Bool.and_eq_false_iff, decide_eq_false_iff_not]
                omega)
            have S := Step.setCellsW E he hb ((o + len) * i.size) news us q1 q2 hle (by omega)
            rw [show en.shift + (o + len) * i.size = en.shift + o * i.size + len * i.size by omega] at S
            refine ⟨_, _, β, hr, ?_, S⟩
            simp only [Rel]
            exact ⟨en, _, c', he, rfl, hroom, ⟨rfl, hcN⟩, fun _ => by rw [hes]⟩
          · simp at h
        · simp at h
      · rename_i hroom
        split at h
        · rename_i n' old hold
          split at h
          · rename_i hb
            simp at h; obtain ⟨rfl, rfl⟩ := h
            obtain ⟨hb1, hb2⟩ := hb
            obtain ⟨os, rfl, r1, r2, r3⟩ := firstCells_take (P := P) E hx0 hold
            have hm63 : n' + m ≤ 9223372036854775807 := by simp only [maxLen] at hb2; omega
            have hr := run_append_grow_src w t tx ty e i z ht hi hz (some a) n' c' os r3 vy m us hsrc (by omega) (by omega) (growslice_room (by omega) hb1)
            have hge := grownCap_ge w (n' + m) c' e
            have hol := takeCells_len hold
            obtain ⟨S, R⟩ := grown_new (e := e) E (r1.append q1) (fun x hx => by rcases List.mem_append.1 hx with hx | hx; exact r2 x hx; exact q2 x hx) (n' + m) (grownCap w (n' + m) c' e) (by rw [List.length_append, hol, hnl, Nat.add_mul]) hge z.cells hzs []
            exact ⟨_, _, _, hr, R, S⟩
          · simp at h
        · simp at h
  · -- the room is not known
    rename_i hh o len
    have hx0 := hx
    simp only [Rel] at hx
    obtain ⟨en, a, c', he, rfl, hlc, hc, ha⟩ := hx
    have hc : o + c' = en.N := hc
    split at h
    · rename_i h0
      subst h0
      simp at h; obtain ⟨rfl, rfl⟩ := h
      have : us = [] := by cases us <;> simp_all
      subst this
      exact ⟨_, w, β, run_append_nothing w t tx ty e i ht hi (some a) len c' hlc vy hsrc, hx0, Step.refl E⟩
    · rename_i h0
      split at h
      · rename_i s' cs olds hb
        split at h
        · rename_i hcond
          obtain ⟨rfl, hle, hb1, hb2⟩ := hcond
          have hB := E.blk hh en _ he hb
          have hes : en.s = i.size := hB.1
          have hm63 : len + m ≤ 9223372036854775807 := by simp only [maxLen] at hb2; omega
          have m1 : (o + len) * i.size = o * i.size + len * i.size := Nat.add_mul _ _ _
          -- the two ways
          have both : ∀ (hs1 : HS) (olds' : List Nat), hs1.length = hs.length → Step β hs w β hs1 w →
              (∀ (j : Nat) (d : HB), hs1[j]? = some (some d) → (j = hh ∧ d = .cells i.size cs true true [] ∧ (o + len) * i.size = cs.length ∧ hh ∈ olds') ∨ (j ≠ hh ∧ hs[j]? = some (some d) ∧ (j ∈ olds → (o + len) * i.size = cs.length ∧ j ∈ olds'))) →
              Out P (Builtin.append_ #[t, tx] ty #[.slice (some a) len c', vy]) β hs w (.slice hs.length 0 (len + m) none) (hs1 ++ [some (.cells i.size ((cs.drop (o * i.size)).take (len * i.size) ++ news) false true olds')]) := by
            intro hs1 olds' hl S0 hkeep
            by_cases hroom : len + m ≤ c'
            · have ha' := ha (by omega)
              rw [hes] at ha'
              subst ha'
              obtain ⟨_, cur, tt, fz, hg, hfz, hfit, hcl, hcs⟩ := hB
              have m3 : (o + len + m) * i.size ≤ en.N * i.size := Nat.mul_le_mul_right _ (by omega)
              rw [Nat.add_mul, m1] at m3
              have hr := run_append_room_src w t tx ty e i ht hi en.blk (en.shift + o * i.size) len c' vy m us hsrc hroom
                (fun j hj => by
                  have : en.shift + o * i.size + len * i.size + j < cur.size := by omega
                  simp [World.cell?, hg, this])
                (fun j hj => by
                  have h1 : en.shift + o * i.size + len * i.size + j < cur.size := by omega
                  have := (hfz rfl).away _ h1
                  simp only [World.frozen?, hg]
                  simp only [Bool.and_eq_false_iff, decide_eq_false_iff_not]
                  omega)
              have S := Step.share E he hb o len m (by omega) hle news us q1 hnl q2 hl hkeep
              rw [show en.shift + (o + len) * i.size = en.shift + o * i.size + len * i.size by omega] at S
              refine ⟨_, _, _, hr, ?_, S⟩
              simp only [Rel]
              exact ⟨_, _, c', by rw [← hl, ← S0.emb.len]; exact get_snoc_last _ _, rfl, hroom, by simp only; omega, fun _ => by simp⟩
            · have hseg : takeCells hs i.size (.slice hh o len none) = some (len, (cs.drop (o * i.size)).take (len * i.size)) := by
                unfold takeCells
                simp only [hb, true_and, if_pos hle]
                split
                · rename_i h00; subst h00; simp
                · rfl
              obtain ⟨os, _, r1, r2, r3⟩ := firstCells_take (P := P) E hx0 hseg
              have hr := run_append_grow_src w t tx ty e i z ht hi hz (some a) len c' os r3 vy m us hsrc (by omega) (by omega) (growslice_room (by omega) hb1)
              have hge := grownCap_ge w (len + m) c' e
              have hol := takeCells_len hseg
              obtain ⟨S, R⟩ := grown_new (e := e) S0.emb (r1.append q1) (fun x hx => by rcases List.mem_append.1 hx with hx | hx; exact r2 x hx; exact q2 x hx) (len + m) (grownCap w (len + m) c' e) (by rw [List.length_append, hol, hnl, Nat.add_mul]) hge z.cells hzs olds'
              rw [hl] at R
              exact ⟨_, _, _, hr, R, S0.trans S⟩
          split at h
          · rename_i hfr
            simp at h; obtain ⟨rfl, rfl⟩ := h
            refine both _ _ (by simp) (Step.toRo E hb) fun j d hj => ?_
            rw [List.getElem?_set] at hj
            split at hj
            · rename_i hjh
              split at hj
              · simp at hj; exact .inl ⟨hjh.symm, hj.symm, hfr, by simp⟩
              · simp at hj
            · rename_i hjh
              exact .inr ⟨fun x => hjh x.symm, hj, fun hin => ⟨hfr, by simp [hin]⟩⟩
          · simp at h; obtain ⟨rfl, rfl⟩ := h
            have keep : ∀ (j : Nat) (d : HB), ((killAll olds hs).set hh none)[j]? = some (some d) → j ≠ hh ∧ hs[j]? = some (some d) ∧ j ∉ olds := by
              intro j d hj
              rw [List.getElem?_set] at hj
              split at hj
              · split at hj <;> simp at hj
              · rename_i hjh
                obtain ⟨k1, k2⟩ := killAll_get hj
                exact ⟨fun x => hjh x.symm, k1, k2⟩
            refine both _ _ (by simp [killAll_length]) (Step.sub E (by simp [killAll_length]) fun j d hj => (keep j d hj).2.1) fun j d hj => ?_
            obtain ⟨k1, k2, k3⟩ := keep j d hj
            exact .inr ⟨k1, k2, fun hin => absurd hin k3⟩
        · simp at h
      · simp at h
  · simp at h

end
end Go.HL
