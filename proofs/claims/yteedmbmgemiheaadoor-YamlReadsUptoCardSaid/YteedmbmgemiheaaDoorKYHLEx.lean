/-
  HL: rows of one's own that hold just what their slice tells.
-/
import Derived.Test.YteedmbmgemiheaaDoorKYHLVs
namespace Go.HL
open Go
/-- a slice of one's own that tells all of its row. -/
def Ex (s : Nat) (v : HV) (n : Nat) (xs : List HV) : SA := fun r => xs.length = n * s ∧
  ((v = .nilSlice ∧ n = 0) ∨ (∃ h o, v = .slice h o 0 (some 0) ∧ n = 0) ∨
   (∃ h olds, v = .slice h 0 n none ∧ pt h (.cells s xs false true olds) r) ∨
    ∃ h opn olds, v = .slice h 0 n (some n) ∧ pt h (.cells s xs false opn olds) r)
theorem Ex.my {s n : Nat} {v : HV} {xs : List HV} {r : Res} (H : Ex s v n xs r) : My s v n xs r := by
  obtain ⟨h0, h | h | ⟨h, olds, h1, h2⟩ | ⟨h, opn, olds, h1, h2⟩⟩ := H
  · exact ⟨h0, .inl h⟩
  · exact ⟨h0, .inr (.inl h)⟩
  · exact ⟨h0, .inr (.inr (.inl ⟨h, 0, xs, olds, h1, h2, by rw [Nat.zero_add]; omega, by rw [Nat.zero_mul, List.drop_zero, List.take_of_length_le (by omega)]⟩))⟩
  · exact ⟨h0, .inr (.inr (.inr ⟨h, 0, n, xs, opn, olds, h1, Nat.le_refl _, h2, by rw [Nat.zero_add]; omega, by rw [Nat.zero_mul, List.drop_zero, List.take_of_length_le (by omega)]⟩))⟩
namespace Sat
variable {hs : HS} {l : List SA} {s n : Nat} {v : HV} {xs : List HV}
theorem my (H : Sat hs (Ex s v n xs :: l)) : Sat hs (My s v n xs :: l) := H.imp fun _ => Ex.my
theorem rdX (H : Sat hs (Ex s v n xs :: l)) : Rd hs s v n xs := H.my.rd
theorem fxX (H : Sat hs (Ex s v n xs :: l)) : hlenK hs .slice v = some (.int .i64 (n : Nat)) ∧ takeCells hs s v = some (n, xs) ∧ HL.sOk hs s v = true ∧ v.one = true ∧ v.cells = [v] := H.my.fx
instance : PF (Ex s v n xs) fun hs => hlenK hs .slice v = some (.int .i64 (n : Nat)) ∧ takeCells hs s v = some (n, xs) ∧ HL.sOk hs s v = true ∧ v.one = true ∧ v.cells = [v] := ⟨fun H => H.fxX⟩
theorem ex0 (H : Sat hs l) : Sat hs (Ex s .nilSlice 0 [] :: l) := by
  obtain ⟨r, h1, h2⟩ := H
  exact ⟨r, h1, nores, r, nores_dj r, nores_sub r, Sub.refl r, ⟨by simp, .inl ⟨rfl, rfl⟩⟩, h2⟩
theorem exN {h : Nat} {cs : List HV} {olds : List Nat} (H : Sat hs (pt h (.cells s cs false true olds) :: l)) (hn : cs.length = n * s) : Sat hs (Ex s (.slice h 0 n none) n cs :: l) :=
  H.imp fun r hr => ⟨hn, .inr (.inr (.inl ⟨h, olds, rfl, hr⟩))⟩
theorem exC {h : Nat} {cs : List HV} {opn : Bool} {olds : List Nat} (H : Sat hs (pt h (.cells s cs false opn olds) :: l)) (hn : cs.length = n * s) : Sat hs (Ex s (.slice h 0 n (some n)) n cs :: l) :=
  H.imp fun r hr => ⟨hn, .inr (.inr (.inr ⟨h, opn, olds, rfl, hr⟩))⟩
/-- a row grows at its end. -/
theorem grow {h m : Nat} {cs ns : List HV} {olds : List Nat} (P : Sat hs (pt h (.cells s cs false true olds) :: l)) (hl : (cs ++ ns).length = m * s) :
    Sat (hs.set h (some (.cells s cs true true [])) ++ [some (.cells s (cs ++ ns) false true (h :: olds))]) (Ex s (.slice hs.length 0 m none) m (cs ++ ns) :: l) := by
  have hlt := P.lt
  refine exN (h := hs.length) (olds := h :: olds) (P.turn (by simp) (fun i hi h1 h2 => ?_) ?_ (.inr (Nat.le_refl _)) ?_) hl
  · rw [List.getElem?_append_left (by simpa using hi), List.getElem?_set_ne (by omega)]
  · rw [List.getElem?_append_right (by simp)]; simp
  · intro o' ho'
    rcases List.mem_cons.1 ho' with rfl | ho'
    · exact ⟨by omega, .inl rfl⟩
    · refine ⟨?_, .inr ho'⟩
      obtain ⟨r, h1, a', _, _, h3, _, h5, _⟩ := P
      obtain ⟨_, y, hy⟩ := h5.2 o' ho'
      have := (h1 o' _ (h3 o' _ hy)).1
      omega
theorem exAppend {bytes m : Nat} {y : HV} {ns : List HV} (H : Sat hs (Ex s v n xs :: l)) (T : takeCells hs s y = some (m, ns)) (hr : roomFor (n + m) bytes = true) (hm : n + m ≤ maxLen) :
    ∃ v' hs', happend hs s bytes v y = some (v', hs') ∧ Sat hs' (Ex s v' (n + m) (xs ++ ns) :: l) := by
  have hk := H.rdX.take
  have hnl := takeCells_len T
  obtain ⟨a, ⟨h0, hc⟩, hB⟩ := H.open1
  by_cases hm0 : m = 0
  · subst hm0
    obtain rfl : ns = [] := List.eq_nil_of_length_eq_zero (by simpa using hnl)
    refine ⟨v, hs, ?_, by simpa using H⟩
    unfold happend
    rw [T]
    rcases hc with ⟨rfl, _⟩ | ⟨h, o, rfl, _⟩ | ⟨h, olds, rfl, _⟩ | ⟨h, opn, olds, rfl, _⟩ <;> simp
  have hlen : (xs ++ ns).length = (n + m) * s := by rw [List.length_append, h0, hnl, Nat.add_mul]
  unfold happend
  rw [T]
  rcases hc with ⟨rfl, rfl⟩ | ⟨h, o, rfl, rfl⟩ | ⟨h, olds, rfl, hp⟩ | ⟨h, opn, olds, rfl, hp⟩
  · obtain rfl : xs = [] := List.eq_nil_of_length_eq_zero (by simpa using h0)
    simp only [Nat.zero_add] at hr hm
    simp only [if_neg hm0, if_pos (And.intro hr hm)]
    refine ⟨_, _, rfl, ?_⟩
    rw [List.nil_append, Nat.zero_add]
    exact exN (H.t.push rfl) hnl
  · obtain rfl : xs = [] := List.eq_nil_of_length_eq_zero (by simpa using h0)
    simp only [Nat.zero_add] at hr hm
    simp only [if_neg hm0, Nat.zero_add, if_neg (show ¬ m ≤ 0 by omega), hk, if_pos (And.intro hr hm)]
    exact ⟨_, _, rfl, exN (H.t.push rfl) (by simpa using hnl)⟩
  · have P := hB _ hp
    have hget := P.get
    simp only [if_neg hm0, hget, Nat.zero_add]
    rw [if_pos ⟨trivial, by omega, hr, hm⟩, if_pos h0.symm]
    refine ⟨_, _, rfl, ?_⟩
    rw [Nat.zero_mul, List.drop_zero, List.take_of_length_le (by omega)]
    exact P.grow hlen
  · simp only [if_neg hm0, if_neg (show ¬ (n + m ≤ n) by omega), hk, if_pos (And.intro hr hm)]
    exact ⟨_, _, rfl, exN (H.t.push rfl) hlen⟩
/-- an element is written. -/
theorem exWrite (H : Sat hs (Ex s v n xs :: l)) {i j : Nat} (hi : i < n) (hj : j < s) (k : IntKind) {x : HV} (hc : x.cells = [x]) (h1 : x.one = true) :
    ∃ h o hs', hindexAddr s v (.int k (i : Nat)) = some (.ptr h o) ∧ hstore 1 hs (.ptr h (o + j)) x = some hs' ∧ Sat hs' (Ex s v n (xs.set (i * s + j) x) :: l) := by
  obtain ⟨a, ⟨h0, hcc⟩, hB⟩ := H.open1
  have e2 : i * s + s ≤ n * s := by rw [← Nat.succ_mul]; exact Nat.mul_le_mul_right s (by omega)
  rcases hcc with ⟨rfl, rfl⟩ | ⟨h, o, rfl, rfl⟩ | ⟨h, olds, rfl, hp⟩ | ⟨h, opn, olds, rfl, hp⟩
  · omega
  · omega
  · have P := hB _ hp
    refine ⟨h, i * s, _, by rw [vidx_some hi, Nat.zero_add], by rw [va_store, P.get]; exact va_st1 hc h1 (by omega), ?_⟩
    exact exN (P.put (cs' := xs.set (i * s + j) x) (ro' := false) (opn' := true)) (by simpa using h0)
  · have P := hB _ hp
    refine ⟨h, i * s, _, by rw [vidx_some hi, Nat.zero_add], by rw [va_store, P.get]; exact va_st1 hc h1 (by omega), ?_⟩
    exact exC (P.put (cs' := xs.set (i * s + j) x) (ro' := false) (opn' := opn)) (by simpa using h0)
theorem exWrite1 (H : Sat hs (Ex 1 v n xs :: l)) {i : Nat} (hi : i < n) (k : IntKind) {x : HV} (hc : x.cells = [x]) (h1 : x.one = true) :
    ∃ p hs', hindexAddr 1 v (.int k (i : Nat)) = some p ∧ hstore 1 hs p x = some hs' ∧ Sat hs' (Ex 1 v n (xs.set i x) :: l) := by
  obtain ⟨h, o, hs', e1, e2, e3⟩ := H.exWrite hi (show 0 < 1 by omega) k hc h1
  exact ⟨_, hs', e1, e2, by simpa using e3⟩
end Sat
section
variable {hs : HS} {C : HV → HS → Prop} {l : List SA} {s n : Nat}
theorem sl_appendX {bytes m : Nat} {v y : HV} {xs ns : List HV} (H : Sat hs (Ex s v n xs :: l)) (T : takeCells hs s y = some (m, ns)) (hr : roomFor (n + m) bytes = true) (hm : n + m ≤ maxLen)
    (next : ∀ v' hs', Sat hs' (Ex s v' (n + m) (xs ++ ns) :: l) → C v' hs') : opC (happend hs s bytes v y) C := by
  obtain ⟨v', hs', h1, h2⟩ := H.exAppend T hr hm
  exact ⟨v', hs', h1, next v' hs' h2⟩
/-- a new row of what is there. -/
theorem sl_append0X {bytes m : Nat} {y : HV} {ns : List HV} (H : Sat hs l) (T : takeCells hs s y = some (m, ns)) (hr : roomFor m bytes = true) (hm : m ≤ maxLen)
    (next : ∀ v' hs', Sat hs' (Ex s v' m ns :: l) → C v' hs') : opC (happend hs s bytes .nilSlice y) C := by
  obtain ⟨v', hs', h1, h2⟩ := (H.ex0 (s := s)).exAppend T (by rw [Nat.zero_add]; exact hr) (by rw [Nat.zero_add]; exact hm)
  rw [Nat.zero_add, List.nil_append] at h2
  exact ⟨v', hs', h1, next v' hs' h2⟩
end

/-- a slice that was handed out, and the same, grown: both may be read, the grown one grows. -/
def Gr (out : HV) (n : Nat) (xs : List HV) (v : HV) (m : Nat) (ys : List HV) : SA := fun r =>
  grp [Vw 1 out n xs, Ex 1 v m ys] r ∨ ∃ h h' olds, out = .slice h 0 n none ∧ v = .slice h' 0 m none ∧ xs.length = n ∧ ys.length = m ∧ pt h' (.cells 1 ys false true olds) r ∧ h ∈ olds ∧ r h = some (some (.cells 1 xs true true []))
namespace Sat
variable {hs : HS} {l : List SA} {out v : HV} {n m : Nat} {xs ys : List HV}
theorem at_ {h : Nat} {b : HB} (H : Sat hs ((fun r => r h = some (some b)) :: l)) : hs[h]? = some (some b) := by
  obtain ⟨r, h1, a, c, _, h3, _, h5, _⟩ := H
  exact (h1 h _ (h3 h _ h5)).2 b rfl
/-- two handles apart. -/
theorem split2 {h k : Nat} {b c : HB} (hb : b.olds = []) (hc : c.olds = []) (hne : k ≠ h) (H : Sat hs ((fun r => pt h b r ∧ r k = some (some c)) :: l)) : Sat hs (pt h b :: pt k c :: l) := by
  obtain ⟨r, h1, a, d, dj, h3, h4, ⟨⟨h5, _⟩, h6⟩, h7⟩ := H
  have s1 : Sub (fun i => if i = h then a i else none) a := fun i x e => by simp only at e; split at e; exact e; cases e
  have s2 : Sub (fun i => if i = k then a i else none) a := fun i x e => by simp only at e; split at e; exact e; cases e
  have dd : Dj (fun i => if i = k then a i else none) d := (dj.symm.sub s2).symm
  have s3 : Sub (fun i => if i = h then a i else none) r := s1.trans h3
  refine ⟨r, h1, fun i => if i = h then a i else none, ru (fun i => if i = k then a i else none) d, ?_, s3, un_sub (s2.trans h3) h4, ⟨by simpa using h5, by rw [hb]; simp⟩, fun i => if i = k then a i else none, d, dd, sub_unl _ _, sub_unr dd, ⟨by simpa using h6, by rw [hc]; simp⟩, h7⟩
  refine Dj.un (fun i => ?_) (dj.symm.sub s1).symm
  split
  · rename_i e; subst e; right; rw [if_neg (fun e => hne e.symm)]
  · exact .inl rfl
end Sat
end Go.HL
