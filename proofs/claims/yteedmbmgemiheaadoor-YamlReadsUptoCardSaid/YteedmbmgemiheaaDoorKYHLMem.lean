/-
  HL: what new blocks, stores and appends do to the account of memory.
-/
import Derived.Test.YteedmbmgemiheaaDoorKYHLDefs
import Derived.Deep.AppendSrc
import Derived.Deep.Upon
namespace Go.HL
open Go

def killAll (l : List Nat) (hs : HS) : HS := l.foldl (fun hs g => hs.set g none) hs

theorem killAll_length (l : List Nat) : ∀ hs : HS, (killAll l hs).length = hs.length := by
  induction l with
  | nil => intro hs; rfl
  | cons g l ih => intro hs; simp [killAll, List.foldl_cons] at ih ⊢; rw [ih]; simp

theorem killAll_get {l : List Nat} : ∀ {hs : HS} {h : Nat} {b : HB}, (killAll l hs)[h]? = some (some b) → hs[h]? = some (some b) ∧ h ∉ l := by
  induction l with
  | nil => intro hs h b hb; exact ⟨hb, by simp⟩
  | cons g l ih =>
    intro hs h b hb
    have := ih (hs := hs.set g none) (h := h) (b := b) hb
    obtain ⟨h1, h2⟩ := this
    rw [List.getElem?_set] at h1
    split at h1
    · split at h1 <;> simp at h1
    · rename_i hne
      exact ⟨h1, by simp [h2]; exact fun e => hne e.symm⟩

theorem killAll_ne {l : List Nat} : ∀ {hs : HS} {h : Nat}, h ∉ l → (killAll l hs)[h]? = hs[h]? := by
  induction l with
  | nil => intro hs h _; rfl
  | cons g l ih =>
    intro hs h hn
    simp at hn
    have := ih (hs := hs.set g none) (h := h) hn.2
    simp only [killAll, List.foldl_cons] at this ⊢
    rw [this, List.getElem?_set, if_neg (fun e => hn.1 e.symm)]

/-- some handles are forgotten. -/
theorem Emb.sub {β : List Ent} {hs hs' : HS} {w : World} (E : Emb β hs w) (hl : hs'.length = hs.length) (h : ∀ (i : Nat) (b : HB), hs'[i]? = some (some b) → hs[i]? = some (some b)) : Emb β hs' w :=
  ⟨by rw [hl]; exact E.len, fun i e b h1 h2 => E.blk i e b h1 (h i b h2), fun g i e e' b b' hne h1 h2 h3 h4 => E.sep g i e e' b b' hne h1 h2 (h g b h3) (h i b' h4)⟩

theorem Step.sub {β : List Ent} {hs hs' : HS} {w : World} (E : Emb β hs w) (hl : hs'.length = hs.length) (h : ∀ (i : Nat) (b : HB), hs'[i]? = some (some b) → hs[i]? = some (some b)) : Step β hs w β hs' w :=
  ⟨Ext.refl _, E.sub hl h, Nat.le_refl _, fun _ _ _ => rfl, fun _ _ ⟨i, e, b, h1, h2, h3, h4⟩ => ⟨i, e, b, h1, h i b h2, h3, h4⟩, rfl, rfl, rfl, fun _ _ hl he => absurd (lt_of_get he) (by omega)⟩

theorem Step.kill {β : List Ent} {hs : HS} {w : World} (E : Emb β hs w) (l : List Nat) : Step β hs w β (killAll l hs) w :=
  Step.sub E (killAll_length l hs) fun _ _ h => (killAll_get h).1

theorem get_snoc {α : Type} {l : List α} {x y : α} {i : Nat} (h : (l ++ [x])[i]? = some y) : l[i]? = some y ∨ (i = l.length ∧ y = x) := by
  rcases Nat.lt_or_ge i l.length with hi | hi
  · rw [List.getElem?_append_left hi] at h; exact .inl h
  · rw [List.getElem?_append_right hi] at h
    right
    have h0 := lt_of_get h
    simp at h0
    have : i = l.length := by omega
    subst this
    simp at h
    exact ⟨rfl, h.symm⟩

theorem get_snoc_last {α : Type} (l : List α) (x : α) : (l ++ [x])[l.length]? = some x := by simp

/-- a new block. -/
theorem Step.new {β : List Ent} {hs : HS} {w : World} (E : Emb β hs w) (o : Obj) (e : Ent) (b : HB) (hb : e.blk = w.heap.size) (hr : BlkRel (β ++ [e]) (w.alloc o) e b) :
    Step β hs w (β ++ [e]) (hs ++ [some b]) (w.alloc o) := by
  have hold : ∀ k, k < w.heap.size → (w.alloc o).heap[k]? = w.heap[k]? := fun k hk => by show (w.heap.push o)[k]? = _; rw [Array.getElem?_push_lt hk]; simp [hk]
  have key : ∀ (i : Nat) (e' : Ent) (b' : HB), (β ++ [e])[i]? = some e' → (hs ++ [some b])[i]? = some (some b') →
      (β[i]? = some e' ∧ hs[i]? = some (some b') ∧ e'.blk < w.heap.size) ∨ (i = β.length ∧ e' = e ∧ b' = b) := by
    intro i e' b' h1 h2
    rcases get_snoc h1 with h3 | ⟨h3, h3'⟩
    · rcases get_snoc h2 with h4 | ⟨h4, _⟩
      · exact .inl ⟨h3, h4, (E.blk i e' b' h3 h4).lt⟩
      · have := lt_of_get h3; rw [E.len] at this; omega
    · rcases get_snoc h2 with h4 | ⟨_, h4⟩
      · have := lt_of_get h4; rw [← E.len] at this; omega
      · exact .inr ⟨h3, h3', by simpa using h4⟩
  refine ⟨Ext.snoc _ _, ⟨by simp [E.len], ?_, ?_⟩, by show w.heap.size ≤ (w.heap.push o).size; simp, fun k hk _ => hold k hk, ?_, rfl, rfl, rfl, fun h e' hl he => by
    rcases get_snoc he with h3 | ⟨_, h3⟩
    · exact absurd (lt_of_get h3) (by omega)
    · subst h3; exact .inl (by omega)⟩
  · intro i e' b' h1 h2
    rcases key i e' b' h1 h2 with ⟨h3, h4, h5⟩ | ⟨_, rfl, rfl⟩
    · exact ((E.blk i e' b' h3 h4).world (hold _ h5)).mono (Ext.snoc _ _)
    · exact hr
  · intro g i e1 e2 b1 b2 hne h1 h2 h3 h4 heq hro
    rcases key g e1 b1 h1 h3 with ⟨k1, k2, k3⟩ | ⟨k1, rfl, rfl⟩
    · rcases key i e2 b2 h2 h4 with ⟨l1, l2, l3⟩ | ⟨l1, rfl, rfl⟩
      · exact E.sep g i e1 e2 b1 b2 hne k1 l1 k2 l2 heq hro
      · omega
    · rcases key i e2 b2 h2 h4 with ⟨l1, l2, l3⟩ | ⟨l1, rfl, rfl⟩
      · omega
      · omega
  · rintro k hk ⟨i, e', b', h1, h2, h3, h4⟩
    rcases key i e' b' h1 h2 with ⟨k1, k2, k3⟩ | ⟨_, rfl, rfl⟩
    · exact ⟨i, e', b', k1, k2, h3, h4⟩
    · omega

/-- what lies behind a handle that may be written turns. -/
theorem Step.upd {β : List Ent} {hs : HS} {w w' : World} (E : Emb β hs w) {h : Nat} {e : Ent} {b b' : HB} (he : β[h]? = some e) (hb : hs[h]? = some (some b)) (hro : b.ro = false) (hro' : b'.ro = false)
    (hsz : w'.heap.size = w.heap.size) (hk : ∀ k, k ≠ e.blk → w'.heap[k]? = w.heap[k]?) (hr : BlkRel β w' e b') (ho : w'.os = w.os) (hu : w'.output = w.output) (ht : w'.tape = w.tape) :
    Step β hs w β ((killAll b.olds hs).set h (some b')) w' := by
  have hlt : h < hs.length := lt_of_get hb
  have key : ∀ (i : Nat) (c : HB), ((killAll b.olds hs).set h (some b'))[i]? = some (some c) → (i = h ∧ c = b') ∨ (i ≠ h ∧ hs[i]? = some (some c) ∧ i ∉ b.olds) := by
    intro i c hc
    rw [List.getElem?_set] at hc
    split at hc
    · rename_i hih
      split at hc
      · simp at hc; exact .inl ⟨hih.symm, hc.symm⟩
      · simp at hc
    · rename_i hih
      exact .inr ⟨fun x => hih x.symm, killAll_get hc⟩
  have far : ∀ (i : Nat) (e' : Ent) (c : HB), i ≠ h → β[i]? = some e' → hs[i]? = some (some c) → i ∉ b.olds → e'.blk ≠ e.blk := by
    intro i e' c hne h1 h2 h3 heq
    exact h3 (E.sep i h e' e c b hne h1 he h2 hb heq hro).1
  refine ⟨Ext.refl _, ⟨by simp [killAll_length, E.len], ?_, ?_⟩, by omega, ?_, ?_, ho, hu, ht, fun _ _ hl he => absurd (lt_of_get he) (by omega)⟩
  · intro i e' c h1 h2
    rcases key i c h2 with ⟨rfl, rfl⟩ | ⟨h3, h4, h5⟩
    · rw [he] at h1; cases h1; exact hr
    · exact (E.blk i e' c h1 h4).world (hk _ (far i e' c h3 h1 h4 h5))
  · intro g i e1 e2 b1 b2 hne h1 h2 h3 h4 heq hro2
    rcases key g b1 h3 with ⟨rfl, rfl⟩ | ⟨k1, k2, k3⟩
    · rcases key i b2 h4 with ⟨rfl, rfl⟩ | ⟨l1, l2, l3⟩
      · exact absurd rfl hne
      · rw [he] at h1; cases h1
        exact absurd heq.symm (far i e2 b2 l1 h2 l2 l3)
    · rcases key i b2 h4 with ⟨rfl, rfl⟩ | ⟨l1, l2, l3⟩
      · rw [he] at h2; cases h2
        exact absurd heq (far g e1 b1 k1 h1 k2 k3)
      · exact E.sep g i e1 e2 b1 b2 hne h1 h2 k2 l2 heq hro2
  · intro k hk' hn
    refine hk k fun hke => hn ⟨h, e, b, he, hb, hro, hke.symm⟩
  · rintro k hk' ⟨i, e', c, h1, h2, h3, h4⟩
    rcases key i c h2 with ⟨rfl, rfl⟩ | ⟨l1, l2, l3⟩
    · rw [he] at h1; cases h1; exact ⟨i, e, b, he, hb, hro, h4⟩
    · exact ⟨i, e', c, h1, l2, h3, h4⟩

theorem setCells_heap (g : Nat) : ∀ (vs : List Value) (o : Nat) (w : World) (cur : Array Value) (t : TypeId) (fz : Nat × Nat), w.heap[g]? = some (.cells cur t fz) →
    ∃ cur', (w.setCells g o vs).heap[g]? = some (.cells cur' t fz) ∧ cur'.size = cur.size ∧ (∀ i, i < o ∨ o + vs.length ≤ i → cur'[i]? = cur[i]?) ∧
      (∀ (j : Nat) v, vs[j]? = some v → o + j < cur.size → cur'[o + j]? = some v)
  | [], o, w, cur, t, fz, hg => ⟨cur, hg, rfl, fun _ _ => rfl, fun j v h => by simp at h⟩
  | v :: r, o, w, cur, t, fz, hg => by
    have hlt := lt_of_geta hg
    have h1 : (w.setCell ⟨g, o, none⟩ v).heap[g]? = some (.cells (cur.setIfInBounds o v) t fz) := by
      simp only [World.setCell, Array.getElem?_modify, if_true, hg]
      rfl
    obtain ⟨cur', h2, h3, h4, h5⟩ := setCells_heap g r (o + 1) (w.setCell ⟨g, o, none⟩ v) _ t fz h1
    refine ⟨cur', h2, by simpa using h3, fun i hi => ?_, fun j u hj hlt => ?_⟩
    · rw [h4 i (by simp at hi; omega), Array.getElem?_setIfInBounds_ne (by simp at hi; omega)]
    · cases j with
      | zero =>
        simp at hj; subst hj
        rw [h4 (o + 0) (by omega)]
        simp at hlt ⊢
        simp [hlt]
      | succ j =>
        have := h5 j u (by simpa using hj) (by simp; omega)
        rw [show o + (j + 1) = o + 1 + j by omega]
        exact this

theorem setCells_far (g : Nat) : ∀ (vs : List Value) (o : Nat) (w : World) (k : Nat), k ≠ g → (w.setCells g o vs).heap[k]? = w.heap[k]?
  | [], _, _, _, _ => rfl
  | v :: r, o, w, k, hk => by
    rw [World.setCells, setCells_far g r (o + 1) _ k hk]
    simp only [World.setCell, Array.getElem?_modify]
    rw [if_neg (fun h => hk h.symm)]

theorem setCells_rest (g : Nat) : ∀ (vs : List Value) (o : Nat) (w : World), (w.setCells g o vs).heap.size = w.heap.size ∧ (w.setCells g o vs).os = w.os ∧ (w.setCells g o vs).output = w.output ∧ (w.setCells g o vs).tape = w.tape
  | [], _, _ => ⟨rfl, rfl, rfl, rfl⟩
  | v :: r, o, w => by
    obtain ⟨h1, h2, h3, h4⟩ := setCells_rest g r (o + 1) (w.setCell ⟨g, o, none⟩ v)
    rw [World.setCells]
    exact ⟨by rw [h1]; simp [World.setCell], h2, h3, h4⟩

/-- a list with some of its places written over. -/
def overw (cs : List HV) (o : Nat) (xs : List HV) : List HV := cs.take o ++ xs ++ cs.drop (o + xs.length)

theorem overw_length {cs : List HV} {o : Nat} {xs : List HV} (h : o + xs.length ≤ cs.length) : (overw cs o xs).length = cs.length := by
  simp [overw]; omega

theorem overw_get {cs : List HV} {o : Nat} {xs : List HV} (h : o + xs.length ≤ cs.length) (i : Nat) : (overw cs o xs)[i]? = if o ≤ i ∧ i < o + xs.length then xs[i - o]? else cs[i]? := by
  unfold overw
  rw [List.getElem?_append, List.getElem?_append]
  simp only [List.length_append, List.length_take, List.getElem?_take, List.getElem?_drop]
  have : min o cs.length = o := by omega
  rw [this]
  split
  · split
    · rw [if_neg (by omega)]
    · rw [if_pos (by omega)]
  · rw [if_neg (by omega)]
    congr 1
    omega

/-- cells are written. -/
theorem Step.setCells {β : List Ent} {hs : HS} {w : World} (E : Emb β hs w) {h : Nat} {e : Ent} {s : Nat} {cs : List HV} {opn : Bool} {olds : List Nat} (he : β[h]? = some e) (hb : hs[h]? = some (some (.cells s cs false opn olds)))
    (o : Nat) (xs : List HV) (us : List Value) (hx : RelL β xs us) (h1 : ∀ x ∈ xs, x.one = true) (hle : o + xs.length ≤ cs.length) :
    Step β hs w β ((killAll olds hs).set h (some (.cells s (overw cs o xs) false opn []))) (w.setCells e.blk (e.shift + o) us) := by
  obtain ⟨hes, cur, t, fz, hg, hfz, hfit, hcl, hcs⟩ := E.blk h e _ he hb
  have hul := hx.length
  obtain ⟨cur', g1, g2, g3, g4⟩ := setCells_heap e.blk us (e.shift + o) w cur t fz hg
  obtain ⟨r1, r2, r3, r4⟩ := setCells_rest e.blk us (e.shift + o) w
  refine Step.upd E (b := .cells s cs false opn olds) he hb rfl rfl r1 (fun k hk => setCells_far e.blk us _ w k hk) ?_ r2 r3 r4
  refine ⟨hes, cur', t, fz, g1, by rw [g2]; exact hfz, by rw [g2]; exact hfit, by rw [overw_length hle]; exact hcl, fun i x hi => ?_⟩
  rw [overw_get hle] at hi
  split at hi
  · rename_i hio
    obtain ⟨u, hu, hru⟩ := hx.get hi
    refine ⟨u, ?_, hru, h1 x (List.mem_of_getElem? hi)⟩
    have := g4 (i - o) u hu (by omega)
    rwa [show e.shift + o + (i - o) = e.shift + i by omega] at this
  · obtain ⟨u, hu, hru⟩ := hcs i x hi
    refine ⟨u, ?_, hru⟩
    rw [g3 (e.shift + i) (by omega)]
    exact hu

theorem overw_getW {cs : List HV} {o : Nat} {xs : List HV} (h : o ≤ cs.length) (i : Nat) : (overw cs o xs)[i]? = if o ≤ i ∧ i < o + xs.length then xs[i - o]? else cs[i]? := by
  unfold overw
  rw [List.getElem?_append, List.getElem?_append]
  simp only [List.length_append, List.length_take, List.getElem?_take, List.getElem?_drop]
  rw [Nat.min_eq_left h]
  by_cases h1 : i < o
  · have a : i < o + xs.length := by omega
    have b : ¬ (o ≤ i ∧ i < o + xs.length) := by omega
    rw [if_pos a, if_pos h1, if_pos h1, if_neg b]
  · by_cases h2 : i < o + xs.length
    · rw [if_pos h2, if_neg h1, if_pos ⟨by omega, h2⟩]
    · have b : ¬ (o ≤ i ∧ i < o + xs.length) := by omega
      rw [if_neg h2, if_neg b]
      congr 1; omega
theorem overw_lengthW {cs : List HV} {o : Nat} {xs : List HV} (h : o ≤ cs.length) : (overw cs o xs).length = max cs.length (o + xs.length) := by
  simp [overw]; omega
/-- cells are written, from within what is known on, as far as the row goes. -/
theorem Step.setCellsW {β : List Ent} {hs : HS} {w : World} (E : Emb β hs w) {h : Nat} {e : Ent} {s : Nat} {cs : List HV} {opn : Bool} {olds : List Nat} (he : β[h]? = some e) (hb : hs[h]? = some (some (.cells s cs false opn olds)))
    (o : Nat) (xs : List HV) (us : List Value) (hx : RelL β xs us) (h1 : ∀ x ∈ xs, x.one = true) (hle : o ≤ cs.length) (hN : o + xs.length ≤ e.N * s) :
    Step β hs w β ((killAll olds hs).set h (some (.cells s (overw cs o xs) false opn []))) (w.setCells e.blk (e.shift + o) us) := by
  obtain ⟨hes, cur, t, fz, hg, hfz, hfit, hcl, hcs⟩ := E.blk h e _ he hb
  have hul := hx.length
  obtain ⟨cur', g1, g2, g3, g4⟩ := setCells_heap e.blk us (e.shift + o) w cur t fz hg
  obtain ⟨r1, r2, r3, r4⟩ := setCells_rest e.blk us (e.shift + o) w
  refine Step.upd E (b := .cells s cs false opn olds) he hb rfl rfl r1 (fun k hk => setCells_far e.blk us _ w k hk) ?_ r2 r3 r4
  refine ⟨hes, cur', t, fz, g1, by rw [g2]; exact hfz, by rw [g2]; exact hfit, by rw [overw_lengthW hle]; omega, fun i x hi => ?_⟩
  rw [overw_getW hle] at hi
  split at hi
  · rename_i hio
    obtain ⟨u, hu, hru⟩ := hx.get hi
    refine ⟨u, ?_, hru, h1 x (List.mem_of_getElem? hi)⟩
    have := g4 (i - o) u hu (by omega)
    rwa [show e.shift + o + (i - o) = e.shift + i by omega] at this
  · obtain ⟨u, hu, hru⟩ := hcs i x hi
    refine ⟨u, ?_, hru⟩
    rw [g3 (e.shift + i) (by omega)]
    exact hu

end Go.HL
