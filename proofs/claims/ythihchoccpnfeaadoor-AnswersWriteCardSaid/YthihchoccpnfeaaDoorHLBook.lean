/-
  HL: a book of lists that were handed out, each beside what it must read as; blocks told apart by tags.
-/
import Derived.Test.YthihchoccpnfeaaDoorHLOwn
namespace Go.HL
open Go

/-- the block of a slice. -/
def hd : HV → List Nat
  | .slice h _ _ _ => [h]
  | _ => []

/-- every row of cells reads as it did. -/
def Reads (hs hs' : HS) : Prop := ∀ (h s : Nat) (cs : List HV) (ro opn : Bool) (olds : List Nat), hs[h]? = some (some (HB.cells s cs ro opn olds)) → ∃ (ro' opn' : Bool) (olds' : List Nat), hs'[h]? = some (some (HB.cells s cs ro' opn' olds'))
theorem Reads.refl (hs : HS) : Reads hs hs := fun _ _ _ _ _ _ h => ⟨_, _, _, h⟩
theorem Reads.trans {a b c : HS} (h : Reads a b) (h' : Reads b c) : Reads a c := fun i s cs ro opn olds hi => by
  obtain ⟨r, o, l, h1⟩ := h i s cs ro opn olds hi
  exact h' i s cs r o l h1
theorem Keeps.reads {n : Nat} {a b : HS} (h : Keeps n a b) (hn : a.length ≤ n) : Reads a b := fun i s cs ro opn olds hi =>
  ⟨ro, opn, olds, h.get (Nat.lt_of_lt_of_le (lt_of_get hi) hn) hi⟩
theorem SlAt.reads {hs hs' : HS} {v : HV} {xs : List HV} (h : SlAt hs v xs) (r : Reads hs hs') : SlAt hs' v xs := by
  rcases h with ⟨rfl, rfl⟩ | ⟨h, o, cap, cs, ro, opn, olds, rfl, hb, hc⟩
  · exact .inl ⟨rfl, rfl⟩
  · obtain ⟨r1, o1, l1, h1⟩ := r _ _ _ _ _ _ hb
    exact .inr ⟨h, o, cap, cs, r1, o1, l1, rfl, h1, hc⟩
theorem SlAt.same {hs hs' : HS} {v : HV} {xs : List HV} (h : SlAt hs v xs) (r : ∀ i ∈ hd v, hs'[i]? = hs[i]?) : SlAt hs' v xs := by
  rcases h with ⟨rfl, rfl⟩ | ⟨h, o, cap, cs, ro, opn, olds, rfl, hb, hc⟩
  · exact .inl ⟨rfl, rfl⟩
  · exact .inr ⟨h, o, cap, cs, ro, opn, olds, rfl, by rw [r h (by simp [hd])]; exact hb, hc⟩
theorem SlAt.lt {hs : HS} {v : HV} {xs : List HV} (h : SlAt hs v xs) : ∀ i ∈ hd v, i < hs.length := by
  rcases h with ⟨rfl, rfl⟩ | ⟨h, o, cap, cs, ro, opn, olds, rfl, hb, hc⟩
  · intro i hi; simp [hd] at hi
  · intro i hi; simp [hd] at hi; subst hi; exact lt_of_get hb
theorem OwnSl.same {n : Nat} {hs hs' : HS} {s len : Nat} {v : HV} {xs : List HV} (H : OwnSl n hs s v len xs) (r : ∀ i ∈ hd v, hs'[i]? = hs[i]?) : OwnSl n hs' s v len xs := by
  obtain ⟨hl, ⟨rfl, rfl⟩ | ⟨h, ro, opn, olds, rfl, hb⟩ | ⟨h, olds, rfl, h1, hb, h2⟩⟩ := H
  · exact ⟨hl, .inl ⟨rfl, rfl⟩⟩
  · exact ⟨hl, .inr (.inl ⟨h, ro, opn, olds, rfl, by rw [r h (by simp [hd])]; exact hb⟩)⟩
  · exact ⟨hl, .inr (.inr ⟨h, olds, rfl, h1, by rw [r h (by simp [hd])]; exact hb, h2⟩)⟩
theorem OwnSl.lt {n : Nat} {hs : HS} {s len : Nat} {v : HV} {xs : List HV} (H : OwnSl n hs s v len xs) : ∀ i ∈ hd v, i < hs.length := by
  obtain ⟨hl, ⟨rfl, rfl⟩ | ⟨h, ro, opn, olds, rfl, hb⟩ | ⟨h, olds, rfl, h1, hb, h2⟩⟩ := H
  · intro i hi; simp [hd] at hi
  all_goals intro i hi; simp [hd] at hi; subst hi; exact lt_of_get hb

/-- an append of something: where it comes to lie, and what it leaves as it was. -/
theorem OwnSl.app2W {n : Nat} {hs : HS} {s len m bytes : Nat} {v y : HV} {xs news : List HV} (H : OwnSl n hs s v len xs) (ht : takeCells hs s y = some (m, news)) (hnl : news.length = m * s) (h0 : m ≠ 0)
    (hb : roomFor (len + m) bytes = true) (hm : len + m ≤ maxLen) :
    ∃ hs' olds, happend hs s bytes v y = some (.slice hs.length 0 (len + m) none, hs') ∧ hs'.length = hs.length + 1 ∧ hs'[hs.length]? = some (some (.cells s (xs ++ news) false true olds)) ∧
      (∀ o ∈ olds, n ≤ o ∧ o < hs.length) ∧ Reads hs hs' ∧ ∀ i, i < hs.length → i ∉ hd v → hs'[i]? = hs[i]? := by
  have hk := H.take
  have hl := H.1
  unfold happend
  rw [ht]
  obtain ⟨_, ⟨rfl, rfl⟩ | ⟨h, ro, opn, olds, rfl, hbk⟩ | ⟨h, olds, rfl, hnh, hbk, ho⟩⟩ := H
  · have hxn : xs = [] := List.eq_nil_of_length_eq_zero (by simpa using hl)
    subst hxn
    simp only [Nat.zero_add] at hb hm
    simp only [if_neg h0, if_pos (And.intro hb hm)]
    refine ⟨hs ++ [some (.cells s news false true [])], [], by simp, by simp, by simp, by simp, ?_, fun i hi _ => List.getElem?_append_left hi⟩
    exact (Keeps.app (Nat.le_refl _)).reads (Nat.le_refl _)
  · simp only [if_neg h0, if_neg (show ¬ (len + m ≤ len) by omega), hk, if_pos (And.intro hb hm)]
    refine ⟨_, [], rfl, by simp, by simp, by simp, ?_, fun i hi _ => List.getElem?_append_left hi⟩
    exact (Keeps.app (Nat.le_refl _)).reads (Nat.le_refl _)
  · simp only [if_neg h0, hbk, Nat.zero_add]
    rw [if_pos ⟨trivial, by omega, hb, hm⟩, if_pos hl.symm]
    have hh := lt_of_get hbk
    refine ⟨_, h :: olds, rfl, by simp, ?_, fun o h' => ?_, fun i s' cs ro opn olds' hi => ?_, fun i hi hn => ?_⟩
    · rw [List.getElem?_append_right (by simp)]
      simp only [List.length_set, Nat.sub_self, List.getElem?_cons_zero, Nat.zero_mul, List.drop_zero]
      rw [List.take_of_length_le (by omega)]
    · rcases List.mem_cons.1 h' with rfl | h'
      · exact ⟨hnh, hh⟩
      · have := ho o h'
        exact ⟨this.1, by omega⟩
    · have hil := lt_of_get hi
      rw [List.getElem?_append_left (by simpa using hil), List.getElem?_set]
      by_cases hih : h = i
      · subst hih
        rw [hbk] at hi
        simp at hi
        obtain ⟨rfl, rfl, rfl, rfl, rfl⟩ := hi
        exact ⟨true, true, [], by simp [hh]⟩
      · rw [if_neg hih]; exact ⟨ro, opn, olds', hi⟩
    · simp [hd] at hn
      rw [List.getElem?_append_left (by simpa using hi), List.getElem?_set, if_neg (fun x => hn x.symm)]

theorem OwnSl.app2 {n : Nat} {hs : HS} {s len m bytes : Nat} {v y : HV} {xs news : List HV} (H : OwnSl n hs s v len xs) (ht : takeCells hs s y = some (m, news)) (hnl : news.length = m * s) (h0 : m ≠ 0)
    (hb : (len + m) * bytes ≤ 140737488355328) (hm : len + m ≤ maxLen) :
    ∃ hs' olds, happend hs s bytes v y = some (.slice hs.length 0 (len + m) none, hs') ∧ hs'.length = hs.length + 1 ∧ hs'[hs.length]? = some (some (.cells s (xs ++ news) false true olds)) ∧
      (∀ o ∈ olds, n ≤ o ∧ o < hs.length) ∧ Reads hs hs' ∧ ∀ i, i < hs.length → i ∉ hd v → hs'[i]? = hs[i]? :=
  H.app2W ht hnl h0 (roomFor_of hb) hm

theorem OwnSl.app3W {n : Nat} {hs : HS} {s len m bytes : Nat} {v y : HV} {xs news : List HV} (H : OwnSl n hs s v len xs) (hn : n ≤ hs.length) (ht : takeCells hs s y = some (m, news)) (hnl : news.length = m * s) (h0 : m ≠ 0)
    (hb : roomFor (len + m) bytes = true) (hm : len + m ≤ maxLen) :
    ∃ hs', happend hs s bytes v y = some (.slice hs.length 0 (len + m) none, hs') ∧ hs'.length = hs.length + 1 ∧ OwnSl n hs' s (.slice hs.length 0 (len + m) none) (len + m) (xs ++ news) ∧ Keeps n hs hs' ∧ Reads hs hs' ∧
      ∀ i, i < hs.length → i ∉ hd v → hs'[i]? = hs[i]? := by
  obtain ⟨v1, a1, e1, e2, e3⟩ := H.appW hn ht hnl hb hm
  obtain ⟨a2, olds, f1, f2, f3, f4, f5, f6⟩ := H.app2W ht hnl h0 hb hm
  rw [e1] at f1
  simp at f1
  obtain ⟨rfl, rfl⟩ := f1
  exact ⟨_, e1, f2, e2, e3, f5, f6⟩

theorem OwnSl.app3 {n : Nat} {hs : HS} {s len m bytes : Nat} {v y : HV} {xs news : List HV} (H : OwnSl n hs s v len xs) (hn : n ≤ hs.length) (ht : takeCells hs s y = some (m, news)) (hnl : news.length = m * s) (h0 : m ≠ 0)
    (hb : (len + m) * bytes ≤ 140737488355328) (hm : len + m ≤ maxLen) :
    ∃ hs', happend hs s bytes v y = some (.slice hs.length 0 (len + m) none, hs') ∧ hs'.length = hs.length + 1 ∧ OwnSl n hs' s (.slice hs.length 0 (len + m) none) (len + m) (xs ++ news) ∧ Keeps n hs hs' ∧ Reads hs hs' ∧
      ∀ i, i < hs.length → i ∉ hd v → hs'[i]? = hs[i]? :=
  H.app3W hn ht hnl h0 (roomFor_of hb) hm

/-- one's own list, into which one may write. -/
def Wr (hs : HS) (v : HV) (xs : List HV) : Prop := (v = .nilSlice ∧ xs = []) ∨ ∃ h cap opn, v = .slice h 0 xs.length cap ∧ hs[h]? = some (some (.cells 1 xs false opn []))
theorem Wr.sl {hs : HS} {v : HV} {xs : List HV} (h : Wr hs v xs) : SlAt hs v xs := by
  rcases h with ⟨rfl, rfl⟩ | ⟨h, cap, opn, rfl, hb⟩
  · exact .inl ⟨rfl, rfl⟩
  · exact .inr ⟨h, 0, cap, xs, false, opn, [], rfl, hb, fun i x hx => by simpa using hx⟩
theorem Wr.same {hs hs' : HS} {v : HV} {xs : List HV} (h : Wr hs v xs) (r : ∀ i ∈ hd v, hs'[i]? = hs[i]?) : Wr hs' v xs := by
  rcases h with ⟨rfl, rfl⟩ | ⟨h, cap, opn, rfl, hb⟩
  · exact .inl ⟨rfl, rfl⟩
  · exact .inr ⟨h, cap, opn, rfl, by rw [r h (by simp [hd])]; exact hb⟩
/-- open rows stay open. -/
def Opn (hs hs' : HS) : Prop := ∀ (i : Nat) (cs : List HV) (ro : Bool) (olds : List Nat), hs[i]? = some (some (HB.cells 1 cs ro true olds)) → ∃ cs' ro' olds', hs'[i]? = some (some (HB.cells 1 cs' ro' true olds'))
theorem Opn.trans {a b c : HS} (h : Opn a b) (h' : Opn b c) : Opn a c := fun i cs ro olds hi => by
  obtain ⟨x, y, z, hh⟩ := h i cs ro olds hi
  exact h' i x y z hh
/-- a store into it. -/
theorem Wr.store {hs : HS} {v x : HV} {xs : List HV} (h : Wr hs v xs) {k : Nat} (hk : k < xs.length) (hx : x.cells = [x]) (h1 : x.one = true) (kd : IntKind) :
    ∃ b hs', hindexAddr 1 v (.int kd (k : Nat)) = some (.ptr b k) ∧ sOk hs 1 v = true ∧ hd v = [b] ∧ hstore 1 hs (.ptr b k) x = some hs' ∧ Wr hs' v (xs.set k x) ∧ hs'.length = hs.length ∧ (∀ i, i ≠ b → hs'[i]? = hs[i]?) ∧ Opn hs hs' := by
  rcases h with ⟨rfl, rfl⟩ | ⟨b, cap, opn, rfl, hb⟩
  · simp at hk
  · refine ⟨b, _, by rw [vidx_some hk]; simp, by simp [sOk, hb], rfl, store_at hb hk hx h1, .inr ⟨b, cap, opn, by simp, ?_⟩, by simp, fun i hi => ?_, fun i cs ro olds hi => ?_⟩
    · rw [List.getElem?_set]; simp [lt_of_get hb]
    · rw [List.getElem?_set, if_neg (fun h => hi h.symm)]
    · by_cases e : b = i
      · subst e
        rw [hb] at hi
        simp at hi
        obtain ⟨rfl, rfl, rfl, rfl⟩ := hi
        exact ⟨xs.set k x, false, [], by rw [List.getElem?_set]; simp [lt_of_get hb]⟩
      · exact ⟨cs, ro, olds, by rw [List.getElem?_set, if_neg e]; exact hi⟩

/-- a list that was handed out, what it must read as, and what each has. -/
structure Two where
  out : HV
  want : HV
  co : List HV
  cw : List HV

/-- the book. Q: what each element is like; n: the part of memory below it; from lo up to hi they may be written. -/
structure Bk (Q : HV → Prop) (n : Nat) (hs : HS) (hB : Nat) (C : List Two) (rest : List HV) (lo hi : Nat) (vo vw : HV) : Prop where
  box : hs[hB]? = some (some (.cells 1 (vo :: vw :: rest) false false []))
  out : OwnSl n hs 1 vo C.length (C.map Two.out)
  want : OwnSl n hs 1 vw C.length (C.map Two.want)
  rd : ∀ x ∈ C, SlAt hs x.out x.co ∧ SlAt hs x.want x.cw ∧ (∀ y ∈ x.co, Q y) ∧ ∀ y ∈ x.cw, Q y
  own : ∀ j x, C[j]? = some x → lo ≤ j → j < hi → Wr hs x.out x.co ∧ Wr hs x.want x.cw
  sep : ∃ T : Nat → Nat, T hB = 0 ∧ (∀ h ∈ hd vo, T h = 1) ∧ (∀ h ∈ hd vw, T h = 2) ∧ ∀ j x, C[j]? = some x → (∀ h ∈ hd x.out, T h = 3 + 2 * j) ∧ ∀ h ∈ hd x.want, T h = 4 + 2 * j
  low : n ≤ hB ∧ (∀ h ∈ hd vo, n ≤ h) ∧ (∀ h ∈ hd vw, n ≤ h) ∧ ∀ x ∈ C, (∀ h ∈ hd x.out, n ≤ h) ∧ ∀ h ∈ hd x.want, n ≤ h

variable {Q : HV → Prop} {n : Nat} {hs hs' : HS} {hB : Nat} {C : List Two} {rest : List HV} {lo hi : Nat} {vo vw : HV}

theorem Bk.lens (B : Bk Q n hs hB C rest lo hi vo vw) : hB < hs.length ∧ (∀ h ∈ hd vo, h < hs.length) ∧ (∀ h ∈ hd vw, h < hs.length) ∧ ∀ x ∈ C, (∀ h ∈ hd x.out, h < hs.length) ∧ ∀ h ∈ hd x.want, h < hs.length :=
  ⟨lt_of_get B.box, B.out.lt, B.want.lt, fun x hx => ⟨(B.rd x hx).1.lt, (B.rd x hx).2.1.lt⟩⟩

/-- only growth. -/
theorem Bk.keep (B : Bk Q n hs hB C rest lo hi vo vw) (hk : Keeps hs.length hs hs') : Bk Q n hs' hB C rest lo hi vo vw := by
  obtain ⟨l1, l2, l3, l4⟩ := B.lens
  refine ⟨hk.get l1 B.box, B.out.same fun i h => hk.2 i (l2 i h), B.want.same fun i h => hk.2 i (l3 i h), fun x hx => ?_, fun j x hx h1 h2 => ?_, B.sep, B.low⟩
  · obtain ⟨a, b, c, d⟩ := B.rd x hx
    exact ⟨a.same fun i h => hk.2 i ((l4 x hx).1 i h), b.same fun i h => hk.2 i ((l4 x hx).2 i h), c, d⟩
  · obtain ⟨a, b⟩ := B.own j x hx h1 h2
    have hm := List.mem_of_getElem? hx
    exact ⟨a.same fun i h => hk.2 i ((l4 x hm).1 i h), b.same fun i h => hk.2 i ((l4 x hm).2 i h)⟩

/-- nobody writes any more: what is read stays. -/
theorem Bk.reads (B : Bk Q n hs hB C rest lo hi vo vw) (hr : Reads hs hs') (h0 : hs'[hB]? = hs[hB]?) (h1 : ∀ i ∈ hd vo, hs'[i]? = hs[i]?) (h2 : ∀ i ∈ hd vw, hs'[i]? = hs[i]?) (l : Nat) : Bk Q n hs' hB C rest l l vo vw :=
  ⟨by rw [h0]; exact B.box, B.out.same h1, B.want.same h2, fun x hx => ⟨(B.rd x hx).1.reads hr, (B.rd x hx).2.1.reads hr, (B.rd x hx).2.2⟩, fun j x _ h3 h4 => absurd h3 (by omega), B.sep, B.low⟩

theorem mem_set_two {C : List Two} {i : Nat} {a x : Two} (h : x ∈ C.set i a) : x = a ∨ x ∈ C := by
  rcases List.mem_or_eq_of_mem_set h with h | h
  · exact .inr h
  · exact .inl h

/-- a list that was handed out is written. -/
theorem Bk.setOut (B : Bk Q n hs hB C rest lo hi vo vw) {i k : Nat} {a : Two} (ha : C[i]? = some a) (h1 : lo ≤ i) (h2 : i < hi) (hk : k < a.co.length) {x : HV} (hx : x.cells = [x]) (hx1 : x.one = true) (hq : Q x) (kd : IntKind) :
    ∃ b hs', hindexAddr 1 a.out (.int kd (k : Nat)) = some (.ptr b k) ∧ sOk hs 1 a.out = true ∧ hstore 1 hs (.ptr b k) x = some hs' ∧ hs'.length = hs.length ∧ (∀ j, j < n → hs'[j]? = hs[j]?) ∧
      Bk Q n hs' hB (C.set i ⟨a.out, a.want, a.co.set k x, a.cw⟩) rest lo hi vo vw ∧ Opn hs hs' := by
  obtain ⟨w1, w2⟩ := B.own i a ha h1 h2
  obtain ⟨b, g, e1, e2, e3, e4, e5, e6, e7, e8⟩ := w1.store hk hx hx1 kd
  obtain ⟨T, t0, t1, t2, t3⟩ := B.sep
  have hb : b ∈ hd a.out := by rw [e3]; simp
  have tb : T b = 3 + 2 * i := (t3 i a ha).1 b hb
  have hmem := List.mem_of_getElem? ha
  have hbn : n ≤ b := (B.low.2.2.2 a hmem).1 b hb
  have far : ∀ h, T h ≠ 3 + 2 * i → g[h]? = hs[h]? := fun h hh => e7 h fun e => hh (by rw [e]; exact tb)
  have others : ∀ j x, C[j]? = some x → j ≠ i → (∀ h ∈ hd x.out, g[h]? = hs[h]?) ∧ ∀ h ∈ hd x.want, g[h]? = hs[h]? := fun j x hx hj =>
    ⟨fun h hh => far h (by rw [(t3 j x hx).1 h hh]; omega), fun h hh => far h (by rw [(t3 j x hx).2 h hh]; omega)⟩
  have mine : ∀ h ∈ hd a.want, g[h]? = hs[h]? := fun h hh => far h (by rw [(t3 i a ha).2 h hh]; omega)
  have cases' : ∀ j y, (C.set i ⟨a.out, a.want, a.co.set k x, a.cw⟩)[j]? = some y → (j = i ∧ y = ⟨a.out, a.want, a.co.set k x, a.cw⟩) ∨ (j ≠ i ∧ C[j]? = some y) := by
    intro j y hy
    rw [List.getElem?_set] at hy
    split at hy
    · rename_i h; subst h
      rw [if_pos (lt_of_get ha)] at hy
      simp at hy
      exact .inl ⟨rfl, hy.symm⟩
    · rename_i h
      exact .inr ⟨fun e => h e.symm, hy⟩
  have mout : (C.set i ⟨a.out, a.want, a.co.set k x, a.cw⟩).map Two.out = C.map Two.out := by
    rw [List.map_set]
    apply List.ext_getElem?
    intro j
    rw [List.getElem?_set]
    split
    · rename_i h; subst h
      rw [List.length_map, if_pos (lt_of_get ha), List.getElem?_map, ha]; rfl
    · rfl
  have mwant : (C.set i ⟨a.out, a.want, a.co.set k x, a.cw⟩).map Two.want = C.map Two.want := by
    rw [List.map_set]
    apply List.ext_getElem?
    intro j
    rw [List.getElem?_set]
    split
    · rename_i h; subst h
      rw [List.length_map, if_pos (lt_of_get ha), List.getElem?_map, ha]; rfl
    · rfl
  refine ⟨b, g, e1, e2, e4, e6, fun j hj => e7 j (by omega), ⟨by rw [far hB (by rw [t0]; omega)]; exact B.box, ?_, ?_, fun y hy => ?_, fun j y hy g1 g2 => ?_, ⟨T, t0, t1, t2, fun j y hy => ?_⟩, B.low.1, B.low.2.1, B.low.2.2.1, fun y hy => ?_⟩, e8⟩
  · rw [mout, List.length_set]; exact B.out.same fun h hh => far h (by rw [t1 h hh]; omega)
  · rw [mwant, List.length_set]; exact B.want.same fun h hh => far h (by rw [t2 h hh]; omega)
  · obtain ⟨j, hj⟩ := List.getElem?_of_mem hy
    rcases cases' j y hj with ⟨rfl, rfl⟩ | ⟨hji, hj'⟩
    · obtain ⟨r1, r2, r3, r4⟩ := B.rd a hmem
      refine ⟨e5.sl, r2.same mine, fun z hz => ?_, r4⟩
      rcases List.mem_or_eq_of_mem_set hz with h | h
      · exact r3 z h
      · rw [h]; exact hq
    · obtain ⟨r1, r2, r3, r4⟩ := B.rd y (List.mem_of_getElem? hj')
      obtain ⟨o1, o2⟩ := others j y hj' hji
      exact ⟨r1.same o1, r2.same o2, r3, r4⟩
  · rcases cases' j y hy with ⟨rfl, rfl⟩ | ⟨hji, hj'⟩
    · exact ⟨e5, w2.same mine⟩
    · obtain ⟨o1, o2⟩ := others j y hj' hji
      obtain ⟨r1, r2⟩ := B.own j y hj' g1 g2
      exact ⟨r1.same o1, r2.same o2⟩
  · rcases cases' j y hy with ⟨rfl, rfl⟩ | ⟨hji, hj'⟩
    · exact t3 j a ha
    · exact t3 j y hj'
  · rcases mem_set_two hy with rfl | h
    · exact B.low.2.2.2 a hmem
    · exact B.low.2.2.2 y h
/-- a list that was handed out 's likeness is written. -/
theorem Bk.setWant (B : Bk Q n hs hB C rest lo hi vo vw) {i k : Nat} {a : Two} (ha : C[i]? = some a) (h1 : lo ≤ i) (h2 : i < hi) (hk : k < a.cw.length) {x : HV} (hx : x.cells = [x]) (hx1 : x.one = true) (hq : Q x) (kd : IntKind) :
    ∃ b hs', hindexAddr 1 a.want (.int kd (k : Nat)) = some (.ptr b k) ∧ sOk hs 1 a.want = true ∧ hstore 1 hs (.ptr b k) x = some hs' ∧ hs'.length = hs.length ∧ (∀ j, j < n → hs'[j]? = hs[j]?) ∧
      Bk Q n hs' hB (C.set i ⟨a.out, a.want, a.co, a.cw.set k x⟩) rest lo hi vo vw ∧ Opn hs hs' := by
  obtain ⟨w1, w2⟩ := B.own i a ha h1 h2
  obtain ⟨b, g, e1, e2, e3, e4, e5, e6, e7, e8⟩ := w2.store hk hx hx1 kd
  obtain ⟨T, t0, t1, t2, t3⟩ := B.sep
  have hb : b ∈ hd a.want := by rw [e3]; simp
  have tb : T b = 4 + 2 * i := (t3 i a ha).2 b hb
  have hmem := List.mem_of_getElem? ha
  have hbn : n ≤ b := (B.low.2.2.2 a hmem).2 b hb
  have far : ∀ h, T h ≠ 4 + 2 * i → g[h]? = hs[h]? := fun h hh => e7 h fun e => hh (by rw [e]; exact tb)
  have others : ∀ j x, C[j]? = some x → j ≠ i → (∀ h ∈ hd x.out, g[h]? = hs[h]?) ∧ ∀ h ∈ hd x.want, g[h]? = hs[h]? := fun j x hx hj =>
    ⟨fun h hh => far h (by rw [(t3 j x hx).1 h hh]; omega), fun h hh => far h (by rw [(t3 j x hx).2 h hh]; omega)⟩
  have mine : ∀ h ∈ hd a.out, g[h]? = hs[h]? := fun h hh => far h (by rw [(t3 i a ha).1 h hh]; omega)
  have cases' : ∀ j y, (C.set i ⟨a.out, a.want, a.co, a.cw.set k x⟩)[j]? = some y → (j = i ∧ y = ⟨a.out, a.want, a.co, a.cw.set k x⟩) ∨ (j ≠ i ∧ C[j]? = some y) := by
    intro j y hy
    rw [List.getElem?_set] at hy
    split at hy
    · rename_i h; subst h
      rw [if_pos (lt_of_get ha)] at hy
      simp at hy
      exact .inl ⟨rfl, hy.symm⟩
    · rename_i h
      exact .inr ⟨fun e => h e.symm, hy⟩
  have mout : (C.set i ⟨a.out, a.want, a.co, a.cw.set k x⟩).map Two.out = C.map Two.out := by
    rw [List.map_set]
    apply List.ext_getElem?
    intro j
    rw [List.getElem?_set]
    split
    · rename_i h; subst h
      rw [List.length_map, if_pos (lt_of_get ha), List.getElem?_map, ha]; rfl
    · rfl
  have mwant : (C.set i ⟨a.out, a.want, a.co, a.cw.set k x⟩).map Two.want = C.map Two.want := by
    rw [List.map_set]
    apply List.ext_getElem?
    intro j
    rw [List.getElem?_set]
    split
    · rename_i h; subst h
      rw [List.length_map, if_pos (lt_of_get ha), List.getElem?_map, ha]; rfl
    · rfl
  refine ⟨b, g, e1, e2, e4, e6, fun j hj => e7 j (by omega), ⟨by rw [far hB (by rw [t0]; omega)]; exact B.box, ?_, ?_, fun y hy => ?_, fun j y hy g1 g2 => ?_, ⟨T, t0, t1, t2, fun j y hy => ?_⟩, B.low.1, B.low.2.1, B.low.2.2.1, fun y hy => ?_⟩, e8⟩
  · rw [mout, List.length_set]; exact B.out.same fun h hh => far h (by rw [t1 h hh]; omega)
  · rw [mwant, List.length_set]; exact B.want.same fun h hh => far h (by rw [t2 h hh]; omega)
  · obtain ⟨j, hj⟩ := List.getElem?_of_mem hy
    rcases cases' j y hj with ⟨rfl, rfl⟩ | ⟨hji, hj'⟩
    · obtain ⟨r1, r2, r3, r4⟩ := B.rd a hmem
      refine ⟨r1.same mine, e5.sl, r3, fun z hz => ?_⟩
      rcases List.mem_or_eq_of_mem_set hz with h | h
      · exact r4 z h
      · rw [h]; exact hq
    · obtain ⟨r1, r2, r3, r4⟩ := B.rd y (List.mem_of_getElem? hj')
      obtain ⟨o1, o2⟩ := others j y hj' hji
      exact ⟨r1.same o1, r2.same o2, r3, r4⟩
  · rcases cases' j y hy with ⟨rfl, rfl⟩ | ⟨hji, hj'⟩
    · exact ⟨w1.same mine, e5⟩
    · obtain ⟨o1, o2⟩ := others j y hj' hji
      obtain ⟨r1, r2⟩ := B.own j y hj' g1 g2
      exact ⟨r1.same o1, r2.same o2⟩
  · rcases cases' j y hy with ⟨rfl, rfl⟩ | ⟨hji, hj'⟩
    · exact t3 j a ha
    · exact t3 j y hj'
  · rcases mem_set_two hy with rfl | h
    · exact B.low.2.2.2 a hmem
    · exact B.low.2.2.2 y h
/-- one list more, with its likeness: behind both appends and both stores. g: as it was when the book was looked at; a2: with the new lists in it. -/
theorem Bk.push {g a2 : HS} (B : Bk Q n g hB C rest lo hi vo vw) (hn : n ≤ g.length) (k2 : Keeps g.length g a2) {l m : HV} {cl cm : List HV} (hl : SlAt a2 l cl) (hm : SlAt a2 m cm) (ql : ∀ y ∈ cl, Q y) (qm : ∀ y ∈ cm, Q y)
    (fl : ∀ h ∈ hd l, g.length ≤ h) (fm : ∀ h ∈ hd m, g.length ≤ h) (flm : ∀ h ∈ hd l, h ∉ hd m) (hsz : (C.length + 1) * 24 ≤ 140737488355328) (hi' : Nat) (ow : hi' ≤ C.length → hi' ≤ hi) (ow2 : lo ≤ C.length → C.length < hi' → Wr a2 l cl ∧ Wr a2 m cm) (hhi : hi' ≤ C.length + 1) (hhi2 : C.length < hi' → C.length ≤ hi) :
    ∃ vo' a4 vw' a7, hload none a2 (.ptr hB 0) = some vo ∧
      happend (a2 ++ [some (.cells 1 [l] false false [])]) 1 24 vo (.slice a2.length 0 1 (some 1)) = some (vo', a4) ∧
      hstore 1 a4 (.ptr hB 0) vo' = some (a4.set hB (some (.cells 1 (vo' :: vw :: rest) false false []))) ∧
      hload none (a4.set hB (some (.cells 1 (vo' :: vw :: rest) false false []))) (.ptr hB 1) = some vw ∧
      happend (a4.set hB (some (.cells 1 (vo' :: vw :: rest) false false [])) ++ [some (.cells 1 [m] false false [])]) 1 24 vw (.slice a4.length 0 1 (some 1)) = some (vw', a7) ∧
      hstore 1 a7 (.ptr hB 1) vw' = some (a7.set hB (some (.cells 1 (vo' :: vw' :: rest) false false []))) ∧
      vo'.one = true ∧ vw'.one = true ∧ vo'.cells = [vo'] ∧ vw'.cells = [vw'] ∧
      Keeps n g (a7.set hB (some (.cells 1 (vo' :: vw' :: rest) false false []))) ∧
      Bk Q n (a7.set hB (some (.cells 1 (vo' :: vw' :: rest) false false []))) hB (C ++ [⟨l, m, cl, cm⟩]) rest lo hi' vo' vw' ∧
      a2.length ≤ (a7.set hB (some (.cells 1 (vo' :: vw' :: rest) false false []))).length ∧ (∀ i, i < a2.length → i ≠ hB → i ∉ hd vo → i ∉ hd vw → (a7.set hB (some (.cells 1 (vo' :: vw' :: rest) false false [])))[i]? = a2[i]?) ∧ (∀ h ∈ hd vo', a2.length ≤ h) ∧ ∀ h ∈ hd vw', a2.length ≤ h := by
  have B2 := B.keep k2
  obtain ⟨l1, l2, l3, l4⟩ := B.lens
  obtain ⟨T, t0, t1, t2, t3⟩ := B.sep
  have hmax : maxLen = 9223372036854775807 := rfl
  have hg2 : g.length ≤ a2.length := k2.1
  have kA : Keeps a2.length a2 (a2 ++ [some (.cells 1 [l] false false [])]) := Keeps.app (Nat.le_refl _)
  have oA := B2.out.same (hs' := a2 ++ [some (.cells 1 [l] false false [])]) fun i h => kA.2 i (B2.lens.2.1 i h)
  obtain ⟨a4, olds4, e1, e2, e3, e4, e5, e6⟩ := oA.app2 (bytes := 24) (take_one a2 l) rfl (by omega) (by omega) (by omega)
  have hA : (a2 ++ [some (HB.cells 1 [l] false false [])]).length = a2.length + 1 := by simp
  rw [hA] at e1 e2 e3 e4 e6
  have hbn : ∀ h ∈ hd vo, h ≠ hB := fun h hh e => by have := t1 h hh; rw [e, t0] at this; omega
  have hbn2 : ∀ h ∈ hd vw, h ≠ hB := fun h hh e => by have := t2 h hh; rw [e, t0] at this; omega
  have vov : ∀ h ∈ hd vw, h ∉ hd vo := fun h hh e => by have := t2 h hh; rw [t1 h e] at this; omega
  have same4 : ∀ i, i < a2.length → i ∉ hd vo → a4[i]? = a2[i]? := fun i hi hn => by rw [e6 i (by omega) hn]; exact kA.2 i hi
  have b4 : a4[hB]? = some (some (.cells 1 (vo :: vw :: rest) false false [])) := by
    rw [same4 hB (by omega) (fun h => hbn hB h rfl)]; exact B2.box
  obtain ⟨vo', hvo'⟩ : ∃ v, v = HV.slice (a2.length + 1) 0 (C.length + 1) none := ⟨_, rfl⟩
  rw [← hvo'] at e1
  have st1 := store_at (k := 0) (x := vo') b4 (by simp) (by rw [hvo']; rfl) (by rw [hvo']; rfl)
  simp only [List.set_cons_zero] at st1
  obtain ⟨a5, ha5⟩ : ∃ a, a = a4.set hB (some (HB.cells 1 (vo' :: vw :: rest) false false [])) := ⟨_, rfl⟩
  have hB4 : hB < a4.length := by omega
  have l5 : a5.length = a2.length + 2 := by rw [ha5]; simp; omega
  have b5 : a5[hB]? = some (some (.cells 1 (vo' :: vw :: rest) false false [])) := by rw [ha5, List.getElem?_set]; simp [hB4]
  have same5 : ∀ i, i ≠ hB → a5[i]? = a4[i]? := fun i hi => by rw [ha5, List.getElem?_set, if_neg (fun h => hi h.symm)]
  have kB : Keeps a5.length a5 (a5 ++ [some (.cells 1 [m] false false [])]) := Keeps.app (Nat.le_refl _)
  have oB : OwnSl n (a5 ++ [some (.cells 1 [m] false false [])]) 1 vw C.length (C.map Two.want) := B2.want.same fun i h => by
    have hi := l3 i h
    rw [kB.2 i (by omega), same5 i (hbn2 i h), same4 i (by omega) (vov i h)]
  obtain ⟨a7, olds7, f1, f2, f3, f4, f5, f6⟩ := oB.app2 (bytes := 24) (take_one a5 m) rfl (by omega) (by omega) (by omega)
  have hBl : (a5 ++ [some (HB.cells 1 [m] false false [])]).length = a2.length + 3 := by simp [l5]
  rw [hBl] at f1 f2 f3 f4 f6
  have same7 : ∀ i, i < a5.length → i ∉ hd vw → a7[i]? = a5[i]? := fun i hi hn => by rw [f6 i (by omega) hn]; exact kB.2 i hi
  obtain ⟨vw', hvw'⟩ : ∃ v, v = HV.slice (a2.length + 3) 0 (C.length + 1) none := ⟨_, rfl⟩
  rw [← hvw', l5] at f1
  have b7 : a7[hB]? = some (some (.cells 1 (vo' :: vw :: rest) false false [])) := by
    rw [same7 hB (by omega) (fun h => hbn2 hB h rfl)]; exact b5
  have st2 := store_at (k := 1) (x := vw') b7 (by simp) (by rw [hvw']; rfl) (by rw [hvw']; rfl)
  simp only [List.set_cons_succ, List.set_cons_zero] at st2
  obtain ⟨a8, ha8⟩ : ∃ a, a = a7.set hB (some (HB.cells 1 (vo' :: vw' :: rest) false false [])) := ⟨_, rfl⟩
  have hB7 : hB < a7.length := by omega
  have b8 : a8[hB]? = some (some (.cells 1 (vo' :: vw' :: rest) false false [])) := by rw [ha8, List.getElem?_set]; simp [hB7]
  have same8 : ∀ i, i ≠ hB → a8[i]? = a7[i]? := fun i hi => by rw [ha8, List.getElem?_set, if_neg (fun h => hi h.symm)]
  have all8 : ∀ i, i < a2.length → i ≠ hB → i ∉ hd vo → i ∉ hd vw → a8[i]? = a2[i]? := fun i hi h1 h2 h3 => by
    rw [same8 i h1, same7 i (by omega) h3, same5 i h1, same4 i hi h2]
  have lowB := B.low
  have tl : ∀ (j : Nat) (x : Two), C[j]? = some x → (∀ h ∈ hd x.out, a8[h]? = a2[h]?) ∧ ∀ h ∈ hd x.want, a8[h]? = a2[h]? := fun j x hx => by
    have hmem := List.mem_of_getElem? hx
    refine ⟨fun h hh => ?_, fun h hh => ?_⟩
    · have ht := (t3 j x hx).1 h hh
      have := (l4 x hmem).1 h hh
      exact all8 h (by omega) (fun e => by rw [e, t0] at ht; omega) (fun e => by rw [t1 h e] at ht; omega) (fun e => by rw [t2 h e] at ht; omega)
    · have ht := (t3 j x hx).2 h hh
      have := (l4 x hmem).2 h hh
      exact all8 h (by omega) (fun e => by rw [e, t0] at ht; omega) (fun e => by rw [t1 h e] at ht; omega) (fun e => by rw [t2 h e] at ht; omega)
  have newl : ∀ v : HV, (∀ h ∈ hd v, g.length ≤ h) → (∀ h ∈ hd v, h < a2.length) → ∀ h ∈ hd v, a8[h]? = a2[h]? := fun v h1 h2 h hh => by
    have := h1 h hh
    exact all8 h (h2 h hh) (by omega) (fun e => by have := l2 h e; omega) (fun e => by have := l3 h e; omega)
  have sl := newl l fl hl.lt
  have sm := newl m fm hm.lt
  have hCl : (C ++ [(⟨l, m, cl, cm⟩ : Two)]).length = C.length + 1 := by simp
  refine ⟨vo', a4, vw', a7, by simp only [hload, B2.box]; rfl, e1, st1, by rw [← ha5]; simp only [hload, b5]; rfl, ?_, st2, by rw [hvo']; rfl, by rw [hvw']; rfl, by rw [hvo']; rfl, by rw [hvw']; rfl, ?_, ?_, by
    rw [← ha8]
    exact ⟨by rw [ha8]; simp; omega, fun i hi h1 h2 h3 => all8 i hi h1 h2 h3, fun h hh => by rw [hvo'] at hh; simp [hd] at hh; omega, fun h hh => by rw [hvw'] at hh; simp [hd] at hh; omega⟩⟩
  · have : a4.length = a2.length + 2 := e2
    rw [← ha5, this]; exact f1
  · rw [← ha8]
    refine ⟨by rw [ha8]; simp; omega, fun i hi => ?_⟩
    rw [all8 i (by omega) (by have := lowB.1; omega) (fun e => by have := lowB.2.1 i e; omega) (fun e => by have := lowB.2.2.1 i e; omega)]
    exact k2.2 i (by omega)
  · rw [← ha8]
    refine ⟨b8, ?_, ?_, fun x hx => ?_, fun j x hx h1 h2 => ?_, ?_, ?_⟩
    · rw [hCl, List.map_append]
      refine ⟨by simp, .inr (.inr ⟨a2.length + 1, olds4, hvo', by omega, ?_, e4⟩)⟩
      rw [same8 _ (by omega), same7 _ (by omega) (fun e => by have := l3 _ e; omega), same5 _ (by omega)]
      exact e3
    · rw [hCl, List.map_append]
      refine ⟨by simp, .inr (.inr ⟨a2.length + 3, olds7, hvw', by omega, ?_, f4⟩)⟩
      rw [same8 _ (by omega)]
      exact f3
    · rcases List.mem_append.1 hx with h | h
      · obtain ⟨j, hj⟩ := List.getElem?_of_mem h
        obtain ⟨r1, r2, r3, r4⟩ := B2.rd x h
        exact ⟨r1.same (tl j x hj).1, r2.same (tl j x hj).2, r3, r4⟩
      · simp at h; subst h
        exact ⟨hl.same sl, hm.same sm, ql, qm⟩
    · rcases get_snoc hx with h | ⟨h, h'⟩
      · have hjl := lt_of_get h
        obtain ⟨r1, r2⟩ := B2.own j x h h1 (by
          rcases Nat.lt_or_ge C.length hi' with q | q
          · have := hhi2 q; omega
          · have := ow q; omega)
        exact ⟨r1.same (tl j x h).1, r2.same (tl j x h).2⟩
      · subst h'
        subst h
        obtain ⟨r1, r2⟩ := ow2 h1 h2
        exact ⟨r1.same sl, r2.same sm⟩
    · refine ⟨fun h => if h = a2.length + 1 then 1 else if h = a2.length + 3 then 2 else if h ∈ hd l then 3 + 2 * C.length else if h ∈ hd m then 4 + 2 * C.length else T h, ?_, ?_, ?_, fun j x hx => ?_⟩
      · have q1 : hB ∉ hd l := fun e => by have := fl _ e; omega
        have q2 : hB ∉ hd m := fun e => by have := fm _ e; omega
        simp only
        rw [if_neg (by omega), if_neg (by omega), if_neg q1, if_neg q2]; exact t0
      · intro h hh
        rw [hvo'] at hh; simp [hd] at hh; subst hh; simp
      · intro h hh
        rw [hvw'] at hh; simp [hd] at hh; subst hh; simp
      · rcases get_snoc hx with h | ⟨h, h'⟩
        · have hmem := List.mem_of_getElem? h
          refine ⟨fun z hz => ?_, fun z hz => ?_⟩
          · have := (l4 x hmem).1 z hz
            have q1 : z ∉ hd l := fun e => by have := fl _ e; omega
            have q2 : z ∉ hd m := fun e => by have := fm _ e; omega
            simp only
            rw [if_neg (by omega), if_neg (by omega), if_neg q1, if_neg q2]; exact (t3 j x h).1 z hz
          · have := (l4 x hmem).2 z hz
            have q1 : z ∉ hd l := fun e => by have := fl _ e; omega
            have q2 : z ∉ hd m := fun e => by have := fm _ e; omega
            simp only
            rw [if_neg (by omega), if_neg (by omega), if_neg q1, if_neg q2]; exact (t3 j x h).2 z hz
        · subst h'
          subst h
          refine ⟨fun z hz => ?_, fun z hz => ?_⟩
          · have := hl.lt z hz
            simp only
            rw [if_neg (by omega), if_neg (by omega), if_pos hz]
          · have := hm.lt z hz
            have q1 : z ∉ hd l := fun e => flm z e hz
            simp only
            rw [if_neg (by omega), if_neg (by omega), if_neg q1, if_pos hz]
    · refine ⟨lowB.1, fun h hh => ?_, fun h hh => ?_, fun x hx => ?_⟩
      · rw [hvo'] at hh; simp [hd] at hh; omega
      · rw [hvw'] at hh; simp [hd] at hh; omega
      · rcases List.mem_append.1 hx with h | h
        · exact lowB.2.2.2 x h
        · simp at h; subst h
          exact ⟨fun z hz => by have := fl z hz; omega, fun z hz => by have := fm z hz; omega⟩

/-- from here on they were not written yet. -/
theorem Bk.setFresh {f0 : Nat} (B : Bk Q n hs hB C [.int .i64 (f0 : Nat)] lo hi vo vw) (f l : Nat) :
    ∃ hs', hstore 1 hs (.ptr hB 2) (.int .i64 (f : Nat)) = some hs' ∧ Bk Q n hs' hB C [.int .i64 (f : Nat)] l l vo vw ∧ hs'.length = hs.length ∧ ∀ i, i ≠ hB → hs'[i]? = hs[i]? := by
  have st := store_at (k := 2) (x := .int .i64 (f : Nat)) B.box (by simp) rfl rfl
  simp only [List.set_cons_succ, List.set_cons_zero] at st
  have same : ∀ i, i ≠ hB → (hs.set hB (some (.cells 1 [vo, vw, .int .i64 (f : Nat)] false false [])))[i]? = hs[i]? := fun i hi => by rw [List.getElem?_set, if_neg (fun h => hi h.symm)]
  obtain ⟨T, t0, t1, t2, t3⟩ := B.sep
  refine ⟨_, st, ⟨?_, B.out.same fun i h => same i fun e => ?_, B.want.same fun i h => same i fun e => ?_, fun x hx => ?_, fun j x _ h3 h4 => absurd h3 (by omega), B.sep, B.low⟩, by simp, same⟩
  · rw [List.getElem?_set]; simp [lt_of_get B.box]
  · have := t1 i h; rw [e, t0] at this; omega
  · have := t2 i h; rw [e, t0] at this; omega
  · obtain ⟨j, hj⟩ := List.getElem?_of_mem hx
    obtain ⟨a, b, c, d⟩ := B.rd x hx
    exact ⟨a.same fun i h => same i fun e => by have := (t3 j x hj).1 i h; rw [e, t0] at this; omega, b.same fun i h => same i fun e => by have := (t3 j x hj).2 i h; rw [e, t0] at this; omega, c, d⟩

/-- an end of it, of which none may be written. -/
theorem Bk.less (B : Bk Q n hs hB C rest lo hi vo vw) {lo' hi' : Nat} (h1 : lo ≤ lo') (h2 : hi' ≤ hi) : Bk Q n hs hB C rest lo' hi' vo vw :=
  ⟨B.box, B.out, B.want, B.rd, fun j x hx h3 h4 => B.own j x hx (by omega) (by omega), B.sep, B.low⟩
theorem Reads.cut {a b : HS} {n : Nat} (hn : a.length ≤ n) (h : Reads a b) : Reads a (b.take n) := fun i s cs ro opn olds hi => by
  obtain ⟨r, o, l, h1⟩ := h i s cs ro opn olds hi
  exact ⟨r, o, l, by rw [List.getElem?_take_of_lt (by have := lt_of_get hi; omega)]; exact h1⟩
/-- the list at i was let grow: those behind it are as they were. -/
theorem Bk.after {Q : HV → Prop} {n : Nat} {hs hs' : HS} {hB : Nat} {C : List Two} {rest : List HV} {lo hi : Nat} {vo vw : HV} (B : Bk Q n hs hB C rest lo hi vo vw) {i : Nat} {a : Two} (ha : C[i]? = some a) (hr : Reads hs hs') (h : ∀ j, j < hs.length → j ∉ hd a.out → hs'[j]? = hs[j]?) :
    Bk Q n hs' hB C rest (max lo (i + 1)) hi vo vw := by
  obtain ⟨l1, l2, l3, l4⟩ := B.lens
  obtain ⟨T, t0, t1, t2, t3⟩ := B.sep
  have ta := (t3 i a ha).1
  refine ⟨?_, B.out.same fun j hj => h j (l2 j hj) fun e => ?_, B.want.same fun j hj => h j (l3 j hj) fun e => ?_, fun x hx => ?_, fun j x hx h1 h2 => ?_, B.sep, B.low⟩
  · rw [h hB l1 fun e => ?_]
    · exact B.box
    · have := ta hB e; omega
  · have := ta j e; have := t1 j hj; omega
  · have := ta j e; have := t2 j hj; omega
  · obtain ⟨r1, r2, r3, r4⟩ := B.rd x hx
    exact ⟨r1.reads hr, r2.reads hr, r3, r4⟩
  · obtain ⟨r1, r2⟩ := B.own j x hx (by omega) h2
    have hm := List.mem_of_getElem? hx
    refine ⟨r1.same fun z hz => h z ((l4 x hm).1 z hz) fun e => ?_, r2.same fun z hz => h z ((l4 x hm).2 z hz) fun e => ?_⟩
    · have := ta z e; have := (t3 j x hx).1 z hz; omega
    · have := ta z e; have := (t3 j x hx).2 z hz; omega
end Go.HL
