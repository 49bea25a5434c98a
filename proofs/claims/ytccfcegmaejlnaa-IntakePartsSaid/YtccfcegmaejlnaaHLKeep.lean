/-
  HL: bytes that were handed out: laid by, each with what it must read as.
-/
import Derived.Test.YtccfcegmaejlnaaHLEx
namespace Go.HL
open Go
structure En where
  out : HV
  want : HV
  bs : List UInt8
/-- of one's own, both. -/
def En.newP (e : En) : SA := grp [Ex 1 e.out e.bs.length (bcells e.bs), Ex 1 e.want e.bs.length (bcells e.bs)]
/-- only read. -/
def En.oldP (e : En) : SA := grp [Vw 1 e.out e.bs.length (bcells e.bs), Vw 1 e.want e.bs.length (bcells e.bs)]
/-- the lists, all in order, old ones, new ones. -/
def Bq (vo vw : HV) (L O N : List En) : SA := grp [My 1 vo L.length (L.map En.out), My 1 vw L.length (L.map En.want), each En.oldP O, each En.newP N]
def Bk (vo vw : HV) (E1 E2 : List En) : SA := Bq vo vw (E1 ++ E2) E1 E2
section
variable {hs : HS} {l : List SA} {vo vw : HV} {E1 E2 L O N : List En} {e : En}
theorem bq_open : Sat hs (Bq vo vw L O N :: l) ↔ Sat hs (My 1 vo L.length (L.map En.out) :: My 1 vw L.length (L.map En.want) :: each En.oldP O :: each En.newP N :: l) := Sat.grp_iff
theorem bk_open : Sat hs (Bk vo vw E1 E2 :: l) ↔ Sat hs (My 1 vo (E1 ++ E2).length ((E1 ++ E2).map En.out) :: My 1 vw (E1 ++ E2).length ((E1 ++ E2).map En.want) :: each En.oldP E1 :: each En.newP E2 :: l) := Sat.grp_iff
theorem new_open : Sat hs (e.newP :: l) ↔ Sat hs (Ex 1 e.out e.bs.length (bcells e.bs) :: Ex 1 e.want e.bs.length (bcells e.bs) :: l) := Sat.grp_iff
theorem old_open : Sat hs (e.oldP :: l) ↔ Sat hs (Vw 1 e.out e.bs.length (bcells e.bs) :: Vw 1 e.want e.bs.length (bcells e.bs) :: l) := Sat.grp_iff
theorem bk_nil (H : Sat hs l) : Sat hs (Bk .nilSlice .nilSlice [] [] :: l) :=
  bk_open.2 (Sat.own0 (Sat.own0 (Sat.each_nil.2 (Sat.each_nil.2 H))))
/-- one more is laid by. -/
theorem bk_push (e : En)
    (H : Sat hs (My 1 vo ((E1 ++ E2).length + 1) ((E1 ++ E2).map En.out ++ [e.out]) :: My 1 vw ((E1 ++ E2).length + 1) ((E1 ++ E2).map En.want ++ [e.want]) :: Ex 1 e.out e.bs.length (bcells e.bs) :: Ex 1 e.want e.bs.length (bcells e.bs) :: each En.oldP E1 :: each En.newP E2 :: l)) :
    Sat hs (Bk vo vw E1 (E2 ++ [e]) :: l) := by
  refine bk_open.2 ?_
  rw [← List.append_assoc, List.length_append (bs := [e]), List.length_singleton, List.map_append (l₂ := [e]), List.map_append (f := En.want) (l₂ := [e])]
  have H1 := new_open.2 H.p3.p3
  have H2 := H1.p4
  have H3 := (Sat.each_snoc.2 H2.p1)
  exact H3.p3.p3.p3
/-- all of them may be read. -/
theorem bk_rd (H : Sat hs (Bk vo vw E1 E2 :: l)) {i : Nat} {e : En} (hx : (E1 ++ E2)[i]? = some e) :
    Rd hs 1 e.out e.bs.length (bcells e.bs) ∧ Rd hs 1 e.want e.bs.length (bcells e.bs) := by
  have h2 := bk_open.1 H
  rw [List.getElem?_append] at hx
  split at hx
  · have h3 := old_open.1 (Sat.each_at h2.t.t hx)
    exact ⟨h3.rdV, h3.t.rdV⟩
  · have h3 := new_open.1 (Sat.each_at h2.t.t.t hx)
    exact ⟨h3.rdX, h3.t.rdX⟩
theorem bcells_set {bs : List UInt8} {k : Nat} {c : UInt8} : (bcells bs).set k (.int .u8 c.toNat) = bcells (bs.set k c) := by
  simp [bcells, List.map_set]
/-- both of a new one are written. -/
theorem bk_write (H : Sat hs (Bk vo vw E1 E2 :: l)) {i : Nat} (hi : E2[i]? = some e) {k : Nat} (hk : k < e.bs.length) (c : UInt8) :
    ∃ p q hs1 p' q' hs2, sOk hs 1 vo = true ∧ hindexAddr 1 vo (.int .i64 ((E1.length + i : Nat) : Int)) = some p ∧ hload none hs p = some e.out ∧ sOk hs 1 e.out = true ∧ hindexAddr 1 e.out (.int .i64 (k : Nat)) = some q ∧ hstore 1 hs q (.int .u8 c.toNat) = some hs1 ∧ Sat hs1 l ∧
      sOk hs1 1 vw = true ∧ hindexAddr 1 vw (.int .i64 ((E1.length + i : Nat) : Int)) = some p' ∧ hload none hs1 p' = some e.want ∧ sOk hs1 1 e.want = true ∧ hindexAddr 1 e.want (.int .i64 (k : Nat)) = some q' ∧ hstore 1 hs1 q' (.int .u8 c.toNat) = some hs2 ∧
      Sat hs2 (Bk vo vw E1 (E2.set i ⟨e.out, e.want, e.bs.set k c⟩) :: l) := by
  have h2 := bk_open.1 H
  have hil := lt_of_get hi
  have he : (E1 ++ E2)[E1.length + i]? = some e := by rw [List.getElem?_append_right (by omega)]; simpa using hi
  obtain ⟨p, hp1, hp2⟩ := h2.rd.idx1 (show ((E1 ++ E2).map En.out)[E1.length + i]? = some e.out by rw [List.getElem?_map, he]; rfl) .i64
  have h3 := new_open.1 (Sat.each_at h2.p3 hi)
  obtain ⟨q, hs1, hq1, hq2, h4⟩ := h3.exWrite1 hk .i64 (x := .int .u8 c.toNat) rfl rfl
  -- want, each, vo, vw, old
  have h5 := h4.t.t.t.t
  obtain ⟨p', hp1', hp2'⟩ := h5.rd.idx1 (show ((E1 ++ E2).map En.want)[E1.length + i]? = some e.want by rw [List.getElem?_map, he]; rfl) .i64
  have h6 := h4.p1
  obtain ⟨q', hs2, hq1', hq2', h7⟩ := h6.exWrite1 hk .i64 (x := .int .u8 c.toNat) rfl rfl
  refine ⟨p, q, hs1, p', q', hs2, h2.rd.sOk, hp1, hp2, h3.rdX.sOk, hq1, hq2, h4.t.t.t.t.t.t, h5.rd.sOk, hp1', hp2', h6.rdX.sOk, hq1', hq2', ?_⟩
  refine bk_open.2 ?_
  have em : ∀ f : En → HV, (f e = f ⟨e.out, e.want, e.bs.set k c⟩) → (E1 ++ E2.set i ⟨e.out, e.want, e.bs.set k c⟩).map f = (E1 ++ E2).map f := by
    intro f hf
    rw [List.map_append, List.map_append, List.map_set]
    congr 1
    apply List.ext_getElem?
    intro j
    rw [List.getElem?_set]
    split
    · rename_i e1; subst e1
      rw [List.getElem?_map, hi]
      simp [hil, hf]
    · rfl
  rw [em En.out rfl, em En.want rfl, show (E1 ++ E2.set i ⟨e.out, e.want, e.bs.set k c⟩).length = (E1 ++ E2).length by simp]
  have h8 := h7.p1
  have h9 : Sat hs2 (En.newP ⟨e.out, e.want, e.bs.set k c⟩ :: each En.newP (E2.eraseIdx i) :: My 1 vo (E1 ++ E2).length ((E1 ++ E2).map En.out) :: My 1 vw (E1 ++ E2).length ((E1 ++ E2).map En.want) :: each En.oldP E1 :: l) := by
    refine new_open.2 ?_
    simp only [List.length_set]
    rw [← bcells_set]
    exact h8
  exact (Sat.each_put hil h9).p3.p3.p3
end

theorem grow_perm {α : Type} (A T N : List α) (e g : α) : List.Perm (e :: g :: (A ++ T ++ N)) (A ++ (T ++ [e]) ++ (N ++ [g])) := by
  have h1 : List.Perm (A ++ T ++ (N ++ [g])) (g :: (A ++ T ++ N)) := by
    rw [← List.append_assoc]; exact List.perm_append_comm (l₂ := [g])
  have h2 : A ++ (T ++ [e]) ++ (N ++ [g]) = (A ++ T) ++ e :: (N ++ [g]) := by simp
  rw [h2]
  exact ((List.perm_middle.trans (.cons e h1))).symm
/-- grown k times, or not yet. -/
def GrK (k : Nat) (out v : HV) (xs ys : List UInt8) : SA := fun r => (k = 0 ∧ v = out ∧ ys = xs ∧ Ex 1 out xs.length (bcells xs) r) ∨ Gr out xs.length (bcells xs) v ys.length (bcells ys) r
section
variable {hs : HS} {l : List SA} {k : Nat} {out v : HV} {xs ys : List UInt8} {C : HV → HS → Prop}
theorem grk_start (H : Sat hs (Ex 1 out xs.length (bcells xs) :: l)) : Sat hs (GrK 0 out out xs xs :: l) := H.imp fun _ h => .inl ⟨rfl, rfl, rfl, h⟩
theorem sl_grow {y : HV} {c : UInt8} (H : Sat hs (GrK k out v xs ys :: l)) (T : takeCells hs 1 y = some (1, [.int .u8 c.toNat])) (hm : ys.length < 1099511627776)
    (next : ∀ v' hs', Sat hs' (GrK (k + 1) out v' xs (ys ++ [c]) :: l) → C v' hs') : opC (happend hs 1 1 v y) C := by
  obtain ⟨a, hc, hB⟩ := H.open1
  have e : ∀ zs : List UInt8, bcells (zs ++ [c]) = bcells zs ++ [.int .u8 c.toNat] := fun zs => by rw [bcells_app]; rfl
  rcases hc with ⟨rfl, rfl, rfl, hx⟩ | hx
  · obtain ⟨v', hs', e1, e2⟩ := (hB _ hx).gr_start T (by omega)
    refine ⟨v', hs', e1, next _ _ (e2.imp fun r hr => .inr ?_)⟩
    rw [e, List.length_append, List.length_singleton]; exact hr
  · obtain ⟨v', hs', e1, e2⟩ := (hB _ hx).gr_app T (by omega)
    refine ⟨v', hs', e1, next _ _ (e2.imp fun r hr => .inr ?_)⟩
    rw [e, List.length_append, List.length_singleton]; exact hr
theorem grk_freeze (h0 : k ≠ 0) (H : Sat hs (GrK k out v xs ys :: l)) : ∃ hs2, Weak hs hs2 ∧ Sat hs2 (Vw 1 out xs.length (bcells xs) :: Vw 1 v ys.length (bcells ys) :: l) := by
  obtain ⟨a, hc, hB⟩ := H.open1
  rcases hc with ⟨rfl, _⟩ | hx
  · exact absurd rfl h0
  · exact (hB _ hx).gr_freeze
theorem grk_one (H : Sat hs (GrK k out v xs ys :: l)) : v.one = true ∧ v.cells = [v] := by
  obtain ⟨a, hc, hB⟩ := H.open1
  rcases hc with ⟨rfl, rfl, rfl, hx⟩ | hx
  · exact ⟨(hB _ hx).rdX.one, (hB _ hx).rdX.cells⟩
  · obtain ⟨hs2, _, h2⟩ := (hB _ hx).gr_freeze
    exact ⟨h2.t.rdV.one, h2.t.rdV.cells⟩
end
end Go.HL
