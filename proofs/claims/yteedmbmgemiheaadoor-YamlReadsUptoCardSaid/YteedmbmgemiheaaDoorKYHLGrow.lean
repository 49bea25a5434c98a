/-
  HL: a slice and the same, grown, elements of any width: both may be read.
-/
import Derived.Test.YteedmbmgemiheaaDoorKYHLKeep
namespace Go.HL
open Go
/-- a slice that was handed out, and the same, grown: both may be read, the grown one grows. -/
def GrS (s : Nat) (out : HV) (n : Nat) (xs : List HV) (v : HV) (m : Nat) (ys : List HV) : SA := fun r =>
  grp [Vw s out n xs, Ex s v m ys] r ∨ ∃ h h' olds, out = .slice h 0 n none ∧ v = .slice h' 0 m none ∧ xs.length = n * s ∧ ys.length = m * s ∧ pt h' (.cells s ys false true olds) r ∧ h ∈ olds ∧ r h = some (some (.cells s xs true true []))
namespace Sat
variable {hs : HS} {l : List SA} {out v : HV} {s n m : Nat} {xs ys : List HV}
theorem vwS0 (H : Sat hs l) : Sat hs (Vw s .nilSlice 0 [] :: l) := H.own0.vw
theorem gs_two (H : Sat hs (Vw s out n xs :: Ex s v m ys :: l)) : Sat hs (GrS s out n xs v m ys :: l) := by
  have := (Sat.grp_iff (l1 := [Vw s out n xs, Ex s v m ys])).2 H
  exact this.imp fun _ => .inl
theorem gs_app {bytes : Nat} {y : HV} {ns : List HV} (H : Sat hs (GrS s out n xs v m ys :: l)) (T : takeCells hs s y = some (1, ns)) (hr : roomFor (m + 1) bytes = true) (hm : m < 1099511627776) :
    ∃ v' hs', happend hs s bytes v y = some (v', hs') ∧ Sat hs' (GrS s out n xs v' (m + 1) (ys ++ ns) :: l) := by
  have hmax : maxLen = 9223372036854775807 := rfl
  have hnl : ns.length = s := by have := takeCells_len T; omega
  obtain ⟨a, hc, hB⟩ := H.open1
  rcases hc with hc | ⟨h, h', olds, rfl, rfl, hx, hy, hp, hin, hold⟩
  · have P : Sat hs (Ex s v m ys :: Vw s out n xs :: l) := (Sat.grp_iff.1 (hB (grp [Vw s out n xs, Ex s v m ys]) hc)).p1
    obtain ⟨v', hs', e1, e2⟩ := P.exAppend (bytes := bytes) T hr (by omega)
    exact ⟨v', hs', e1, gs_two e2.p1⟩
  · have P := hB _ hp
    have hget := P.get
    have hlt := P.lt
    have hh : h ≠ h' := (hp.2 h hin).1
    have hgo := (hB (fun r => r h = some (some (.cells s xs true true []))) hold).at_
    have hlo := lt_of_get hgo
    refine ⟨.slice hs.length 0 (m + 1) none, hs.set h' (some (.cells s ys true true [])) ++ [some (.cells s (ys ++ ns) false true (h' :: olds))], ?_, ?_⟩
    · unfold happend
      rw [T]
      simp only [hget, Nat.zero_add, Nat.zero_mul]
      rw [if_neg (by omega), if_pos ⟨trivial, by omega, hr, by omega⟩, if_pos (by omega), List.drop_zero, List.take_of_length_le (by omega)]
    · have ltO : ∀ o ∈ olds, o < hs.length := fun o ho => by
        obtain ⟨r, h1, a', _, _, h3, _, h5, _⟩ := P
        obtain ⟨_, y, hy⟩ := h5.2 o ho
        exact (h1 o _ (h3 o _ hy)).1
      have S := P.turnZ (hs' := hs.set h' (some (.cells s ys true true [])) ++ [some (.cells s (ys ++ ns) false true (h' :: olds))]) (k := hs.length) (b' := .cells s (ys ++ ns) false true (h' :: olds)) (fun i => if i = h then some (.cells s xs true true []) else none)
        (by simp) (fun i hi h1 h2 => by rw [List.getElem?_append_left (by simpa using hi), List.getElem?_set_ne (by omega)]) (by rw [List.getElem?_append_right (by simp)]; simp) (.inr (Nat.le_refl _))
        (by
          intro o' ho'
          rcases List.mem_cons.1 ho' with rfl | ho'
          · exact ⟨by omega, .inl rfl⟩
          · exact ⟨by have := ltO o' ho'; omega, .inr ho'⟩)
        (by
          intro i c _ _ hc
          split at hc
          · rename_i e; subst e; cases hc
            rw [List.getElem?_append_left (by simpa using hlo), List.getElem?_set_ne (fun e => hh e.symm)]; exact hgo
          · cases hc)
      refine S.imp fun r hr => .inr ⟨h, hs.length, h' :: olds, rfl, rfl, hx, by rw [List.length_append, hy, hnl, Nat.add_mul, Nat.one_mul], hr.1, by simp [hin], ?_⟩
      have := hr.2 h (by omega) (.inr hin)
      simpa using this
theorem vwS_at {h k : Nat} {zs : List HV} {ro opn : Bool} (hk : zs.length = k * s) (H : Sat hs (pt h (.cells s zs ro opn []) :: l)) : Sat hs (Vw s (.slice h 0 k none) k zs :: l) :=
  H.imp fun r hr => ⟨hk, .inr (.inr ⟨h, 0, none, zs, ro, opn, [], rfl, hr, by rw [Nat.zero_add]; omega, by rw [Nat.zero_mul, List.drop_zero, List.take_of_length_le (Nat.le_of_eq hk)], fun c e => by cases e⟩)⟩
theorem gs_freeze (H : Sat hs (GrS s out n xs v m ys :: l)) : ∃ hs2, Weak hs hs2 ∧ Sat hs2 (Vw s out n xs :: Vw s v m ys :: l) := by
  obtain ⟨a, hc, hB⟩ := H.open1
  rcases hc with hc | ⟨h, h', olds, rfl, rfl, hx, hy, hp, hin, hold⟩
  · have P : Sat hs (Ex s v m ys :: Vw s out n xs :: l) := (Sat.grp_iff.1 (hB (grp [Vw s out n xs, Ex s v m ys]) hc)).p1
    exact ⟨hs, Weak.refl hs, P.my.vw.p1⟩
  · have P := hB _ hp
    have hget := P.get
    have hlt := P.lt
    have hh : h ≠ h' := (hp.2 h hin).1
    have hgo := (hB (fun r => r h = some (some (.cells s xs true true []))) hold).at_
    refine ⟨_, weak_ro hget, ?_⟩
    have S := P.turnZ (hs' := hs.set h' (some (.cells s ys true true []))) (k := h') (b' := .cells s ys true true []) (fun i => if i = h then some (.cells s xs true true []) else none)
      (by simp) (fun i hi h1 h2 => by rw [List.getElem?_set_ne (by omega)]) (by rw [List.getElem?_set_self hlt]) (.inl rfl) (by simp [HB.olds])
      (by
        intro i c _ _ hc
        split at hc
        · rename_i e; subst e; cases hc
          rw [List.getElem?_set_ne (fun e => hh e.symm)]; exact hgo
        · cases hc)
    have S2 : Sat (hs.set h' (some (.cells s ys true true []))) ((fun r => pt h' (.cells s ys true true []) r ∧ r h = some (some (.cells s xs true true []))) :: l) :=
      S.imp fun r hr => ⟨hr.1, by have := hr.2 h hh (.inr hin); simpa using this⟩
    exact vwS_at hx (vwS_at hy (split2 rfl rfl hh S2)).p1
theorem gs_start {bytes : Nat} {y : HV} {ns : List HV} (H : Sat hs (Ex s out n xs :: l)) (T : takeCells hs s y = some (1, ns)) (hr : roomFor (n + 1) bytes = true) (hm : n < 1099511627776) :
    ∃ v' hs', happend hs s bytes out y = some (v', hs') ∧ Sat hs' (GrS s out n xs v' (n + 1) (xs ++ ns) :: l) := by
  have hmax : maxLen = 9223372036854775807 := rfl
  have hnl : ns.length = s := by have := takeCells_len T; omega
  have hk := H.rdX.take
  obtain ⟨a, ⟨h0, hc⟩, hB⟩ := H.open1
  rcases hc with ⟨rfl, rfl⟩ | ⟨h, o, rfl, rfl⟩ | ⟨h, olds, rfl, hp⟩ | ⟨h, opn, olds, rfl, hp⟩
  · obtain rfl : xs = [] := List.eq_nil_of_length_eq_zero (by simpa using h0)
    obtain ⟨v', hs', e1, e2⟩ := H.exAppend (bytes := bytes) T hr (by omega)
    exact ⟨v', hs', e1, gs_two (vwS0 e2)⟩
  · obtain rfl : xs = [] := List.eq_nil_of_length_eq_zero (by simpa using h0)
    obtain ⟨v', hs', e1, e2⟩ := H.exAppend (bytes := bytes) T hr (by omega)
    exact ⟨v', hs', e1, gs_two (ownZ e2 h o).vw⟩
  · have P := hB _ hp
    have hget := P.get
    have hlt := P.lt
    refine ⟨.slice hs.length 0 (n + 1) none, hs.set h (some (.cells s xs true true [])) ++ [some (.cells s (xs ++ ns) false true (h :: olds))], ?_, ?_⟩
    · unfold happend
      rw [T]
      simp only [hget, Nat.zero_add, Nat.zero_mul]
      rw [if_neg (by omega), if_pos ⟨trivial, by omega, hr, by omega⟩, if_pos (by omega), List.drop_zero, List.take_of_length_le (by omega)]
    · have ltO : ∀ o ∈ olds, o < hs.length := fun o ho => by
        obtain ⟨r, h1, a', _, _, h3, _, h5, _⟩ := P
        obtain ⟨_, y, hy⟩ := h5.2 o ho
        exact (h1 o _ (h3 o _ hy)).1
      have S := P.turnZ (hs' := hs.set h (some (.cells s xs true true [])) ++ [some (.cells s (xs ++ ns) false true (h :: olds))]) (k := hs.length) (b' := .cells s (xs ++ ns) false true (h :: olds)) (fun i => if i = h then some (.cells s xs true true []) else none)
        (by simp) (fun i hi h1 h2 => by rw [List.getElem?_append_left (by simpa using hi), List.getElem?_set_ne (by omega)]) (by rw [List.getElem?_append_right (by simp)]; simp) (.inr (Nat.le_refl _))
        (by
          intro o' ho'
          rcases List.mem_cons.1 ho' with rfl | ho'
          · exact ⟨by omega, .inl rfl⟩
          · exact ⟨by have := ltO o' ho'; omega, .inr ho'⟩)
        (by
          intro i c _ _ hc
          split at hc
          · rename_i e; subst e; cases hc
            rw [List.getElem?_append_left (by simpa using hlt), List.getElem?_set_self hlt]
          · cases hc)
      refine S.imp fun r hr => .inr ⟨h, hs.length, h :: olds, rfl, rfl, h0, by rw [List.length_append, h0, hnl, Nat.add_mul, Nat.one_mul], hr.1, by simp, ?_⟩
      have := hr.2 h (by omega) (.inl rfl)
      simpa using this
  · have P := hB _ hp
    simp only [happend, T, hk]
    rw [if_neg (by omega), if_neg (by omega), if_pos ⟨hr, by omega⟩]
    refine ⟨_, _, rfl, gs_two ?_⟩
    exact p1 (exN (((exC P h0).my.vw).push rfl) (by rw [List.length_append, h0, hnl, Nat.add_mul, Nat.one_mul]))
end Sat
/-- grown k times, or not yet. -/
def GsK (s k : Nat) (out v : HV) (n m : Nat) (xs ys : List HV) : SA := fun r => (k = 0 ∧ v = out ∧ m = n ∧ ys = xs ∧ Ex s out n xs r) ∨ GrS s out n xs v m ys r
section
variable {hs : HS} {l : List SA} {s k n m : Nat} {out v : HV} {xs ys : List HV} {C : HV → HS → Prop}
theorem gsk_start (H : Sat hs (Ex s out n xs :: l)) : Sat hs (GsK s 0 out out n n xs xs :: l) := H.imp fun _ h => .inl ⟨rfl, rfl, rfl, rfl, h⟩
theorem gsk_app {bytes : Nat} {y : HV} {ns : List HV} (H : Sat hs (GsK s k out v n m xs ys :: l)) (T : takeCells hs s y = some (1, ns)) (hr : roomFor (m + 1) bytes = true) (hm : m < 1099511627776) :
    ∃ v' hs', happend hs s bytes v y = some (v', hs') ∧ Sat hs' (GsK s (k + 1) out v' n (m + 1) xs (ys ++ ns) :: l) := by
  obtain ⟨a, hc, hB⟩ := H.open1
  rcases hc with ⟨rfl, rfl, rfl, rfl, hx⟩ | hx
  · obtain ⟨v', hs', e1, e2⟩ := (hB _ hx).gs_start T hr (by omega)
    exact ⟨v', hs', e1, e2.imp fun r hr => .inr hr⟩
  · obtain ⟨v', hs', e1, e2⟩ := (hB _ hx).gs_app T hr (by omega)
    exact ⟨v', hs', e1, e2.imp fun r hr => .inr hr⟩
theorem sl_growS {bytes : Nat} {y : HV} {ns : List HV} (H : Sat hs (GsK s k out v n m xs ys :: l)) (T : takeCells hs s y = some (1, ns)) (hr : roomFor (m + 1) bytes = true) (hm : m < 1099511627776)
    (next : ∀ v' hs', Sat hs' (GsK s (k + 1) out v' n (m + 1) xs (ys ++ ns) :: l) → C v' hs') : opC (happend hs s bytes v y) C := by
  obtain ⟨v', hs', e1, e2⟩ := gsk_app H T hr hm
  exact ⟨v', hs', e1, next _ _ e2⟩
theorem gsk_freeze (h0 : k ≠ 0) (H : Sat hs (GsK s k out v n m xs ys :: l)) : ∃ hs2, Weak hs hs2 ∧ Sat hs2 (Vw s out n xs :: Vw s v m ys :: l) := by
  obtain ⟨a, hc, hB⟩ := H.open1
  rcases hc with ⟨rfl, _⟩ | hx
  · exact absurd rfl h0
  · exact (hB _ hx).gs_freeze
theorem gsk_one (H : Sat hs (GsK s k out v n m xs ys :: l)) : v.one = true ∧ v.cells = [v] := by
  obtain ⟨a, hc, hB⟩ := H.open1
  rcases hc with ⟨rfl, rfl, rfl, rfl, hx⟩ | hx
  · exact ⟨(hB _ hx).rdX.one, (hB _ hx).rdX.cells⟩
  · obtain ⟨hs2, _, h2⟩ := (hB _ hx).gs_freeze
    exact ⟨h2.t.rdV.one, h2.t.rdV.cells⟩
end
end Go.HL
