/-
  HL: slices that are read, slices of one's own that may grow, whatever they are like.
-/
import Derived.Test.YteedmbmgemiheaaDoorKYHLSep
import Derived.Test.YteedmbmgemiheaaDoorKYHLVc
import Derived.Test.YteedmbmgemiheaaDoorKYHLOwn
namespace Go.HL
open Go

def capOk (cap : Option Nat) (n : Nat) : Prop := ∀ c, cap = some c → n ≤ c
/-- v is a slice with these cells, s an element. -/
def Rd (hs : HS) (s : Nat) (v : HV) (n : Nat) (xs : List HV) : Prop :=
  xs.length = n * s ∧ ((v = .nilSlice ∧ n = 0) ∨ (∃ h o, v = .slice h o 0 (some 0) ∧ n = 0) ∨
    ∃ h o cap cs ro opn olds, v = .slice h o n cap ∧ hs[h]? = some (some (.cells s cs ro opn olds)) ∧ (o + n) * s ≤ cs.length ∧ (cs.drop (o * s)).take (n * s) = xs ∧ capOk cap n)
/-- the bounds of a part. -/
def Lo (lo : Nat) : Option HV → Prop
  | none => lo = 0
  | some v => ∃ k, v = .int k (lo : Nat)
def Hi (hi n : Nat) : Option HV → Prop
  | none => hi = n
  | some v => ∃ k, v = .int k (hi : Nat)
theorem Lo.none : Lo 0 none := rfl
theorem Lo.some {lo : Nat} {k : IntKind} : Lo lo (some (.int k (lo : Nat))) := ⟨k, rfl⟩
theorem Lo.lit {lo : Nat} {k : IntKind} : Lo (OfNat.ofNat lo) (Option.some (.int k (OfNat.ofNat lo : Int))) := ⟨k, rfl⟩
theorem Hi.none {n : Nat} : Hi n n none := rfl
theorem Hi.some {hi n : Nat} {k : IntKind} : Hi hi n (some (.int k (hi : Nat))) := ⟨k, rfl⟩
theorem bounds_of {len cap lo hi : Nat} {vlo vhi : Option HV} (a : Lo lo vlo) (b : Hi hi len vhi) (h1 : lo ≤ hi) (h2 : hi ≤ len) (h3 : len ≤ cap) : bounds len cap vlo vhi none = some (lo, hi, cap) := by
  have e0 : bnd (Option.none : Option HV) cap cap = some cap := rfl
  have e1 : bnd vhi len cap = some hi := by
    cases vhi with
    | none => simp only [Hi] at b; subst b; rfl
    | some v => obtain ⟨k, rfl⟩ := b; simp only [bnd]; rw [if_pos (by omega), Int.toNat_natCast]
  have e2 : bnd vlo 0 hi = some lo := by
    cases vlo with
    | none => simp only [Lo] at a; subst a; rfl
    | some v => obtain ⟨k, rfl⟩ := a; simp only [bnd]; rw [if_pos (by omega), Int.toNat_natCast]
  unfold bounds
  rw [e0]
  cases vhi <;> simp only [e1, e2] <;> rw [if_pos (by omega)]
theorem part_len {xs : List HV} {n s lo hi : Nat} (h0 : xs.length = n * s) (h1 : lo ≤ hi) (h2 : hi ≤ n) : ((xs.drop (lo * s)).take ((hi - lo) * s)).length = (hi - lo) * s := by
  have e2 : lo * s + (hi - lo) * s ≤ n * s := by rw [← Nat.add_mul]; exact Nat.mul_le_mul_right s (by omega)
  rw [List.length_take, List.length_drop]; omega
theorem part_part {cs xs : List HV} {n s lo hi o : Nat} (hx : (cs.drop (o * s)).take (n * s) = xs) (h1 : lo ≤ hi) (h2 : hi ≤ n) : (cs.drop ((o + lo) * s)).take ((hi - lo) * s) = (xs.drop (lo * s)).take ((hi - lo) * s) := by
  have e2 : lo * s + (hi - lo) * s ≤ n * s := by rw [← Nat.add_mul]; exact Nat.mul_le_mul_right s (by omega)
  rw [← hx, List.drop_take, List.drop_drop, List.take_take, Nat.min_eq_left (by omega), ← Nat.add_mul]
namespace Rd
variable {hs : HS} {s n : Nat} {v : HV} {xs : List HV}
theorem nil : Rd hs s .nilSlice 0 [] := ⟨by simp, .inl ⟨rfl, rfl⟩⟩
theorem len (H : Rd hs s v n xs) : ∀ g, hlenK g .slice v = some (.int .i64 (n : Nat)) := by
  intro g
  obtain ⟨_, ⟨rfl, rfl⟩ | ⟨h, o, rfl, rfl⟩ | ⟨h, o, cap, cs, ro, opn, olds, rfl, _⟩⟩ := H <;> rfl
theorem one (H : Rd hs s v n xs) : v.one = true := by
  obtain ⟨_, ⟨rfl, rfl⟩ | ⟨h, o, rfl, rfl⟩ | ⟨h, o, cap, cs, ro, opn, olds, rfl, _⟩⟩ := H <;> rfl
theorem cells (H : Rd hs s v n xs) : v.cells = [v] := by
  obtain ⟨_, ⟨rfl, rfl⟩ | ⟨h, o, rfl, rfl⟩ | ⟨h, o, cap, cs, ro, opn, olds, rfl, _⟩⟩ := H <;> rfl
theorem notStr (H : Rd hs s v n xs) (c : List UInt8) : v ≠ .str c := by
  obtain ⟨_, ⟨rfl, rfl⟩ | ⟨h, o, rfl, rfl⟩ | ⟨h, o, cap, cs, ro, opn, olds, rfl, _⟩⟩ := H <;> simp
theorem sOk (H : Rd hs s v n xs) : HL.sOk hs s v = true := by
  obtain ⟨_, ⟨rfl, rfl⟩ | ⟨h, o, rfl, rfl⟩ | ⟨h, o, cap, cs, ro, opn, olds, rfl, hb, _⟩⟩ := H
  · rfl
  · rfl
  · simp [HL.sOk, hb]
theorem take (H : Rd hs s v n xs) : takeCells hs s v = some (n, xs) := by
  have h0 := H.1
  obtain ⟨_, ⟨rfl, rfl⟩ | ⟨h, o, rfl, rfl⟩ | ⟨h, o, cap, cs, ro, opn, olds, rfl, hb, hl, hx, _⟩⟩ := H
  · rw [show xs = [] from List.eq_nil_of_length_eq_zero (by simpa using h0)]; rfl
  · rw [show xs = [] from List.eq_nil_of_length_eq_zero (by simpa using h0)]; rfl
  · unfold takeCells
    simp only
    split
    · rename_i hn; subst hn
      rw [show xs = [] from List.eq_nil_of_length_eq_zero (by simpa using h0)]
    · rw [hb]; simp only; rw [if_pos ⟨trivial, hl⟩, hx]
theorem same {hs' : HS} (H : Rd hs s v n xs) (h : ∀ i, i < hs.length → hs'[i]? = hs[i]?) : Rd hs' s v n xs := by
  refine ⟨H.1, ?_⟩
  obtain ⟨_, h1 | h1 | ⟨q, o, cap, cs, ro, opn, olds, rfl, hb, hl, hx⟩⟩ := H
  · exact .inl h1
  · exact .inr (.inl h1)
  · exact .inr (.inr ⟨q, o, cap, cs, ro, opn, olds, rfl, by rw [h q (lt_of_get hb)]; exact hb, hl, hx⟩)
theorem more {g : HS} (H : Rd hs s v n xs) : Rd (hs ++ g) s v n xs := H.same fun _ hi => List.getElem?_append_left hi
/-- an element's place. -/
theorem idx (H : Rd hs s v n xs) {i : Nat} (hi : i < n) (k : IntKind) : ∃ h o, hindexAddr s v (.int k (i : Nat)) = some (.ptr h o) ∧ (∀ j, j < s → hload none hs (.ptr h (o + j)) = xs[i * s + j]?) ∧
    hload (some s) hs (.ptr h o) = some (.agg ((xs.drop (i * s)).take s)) := by
  have h0 := H.1
  obtain ⟨_, ⟨rfl, rfl⟩ | ⟨h, o, rfl, rfl⟩ | ⟨h, o, cap, cs, ro, opn, olds, rfl, hb, hl, hx, _⟩⟩ := H
  · omega
  · omega
  · have e1 : (o + i) * s + s ≤ (o + n) * s := by rw [← Nat.succ_mul]; exact Nat.mul_le_mul_right s (by omega)
    have e2 : i * s + s ≤ n * s := by rw [← Nat.succ_mul]; exact Nat.mul_le_mul_right s (by omega)
    refine ⟨h, (o + i) * s, by rw [vidx_some hi], fun j hj => ?_, ?_⟩
    · simp only [hload, hb]
      rw [← hx, List.getElem?_take_of_lt (by omega), List.getElem?_drop, ← Nat.add_assoc, ← Nat.add_mul]
    · simp only [hload, hb]
      have e3 : o * s + i * s = (o + i) * s := (Nat.add_mul o i s).symm
      rw [if_pos (by omega), ← hx, List.drop_take, List.drop_drop, e3, List.take_take, Nat.min_eq_left (by omega)]
theorem idx1 (H : Rd hs 1 v n xs) {i : Nat} {x : HV} (hx : xs[i]? = some x) (k : IntKind) : ∃ p, hindexAddr 1 v (.int k (i : Nat)) = some p ∧ hload none hs p = some x := by
  have hi : i < n := by have := H.1; have := lt_of_get hx; omega
  obtain ⟨h, o, h1, h2, _⟩ := H.idx hi k
  refine ⟨_, h1, ?_⟩
  have := h2 0 (by omega)
  simp only [Nat.add_zero, Nat.mul_one] at this
  rw [this, hx]
theorem ld1 (H : Rd hs 1 v n xs) {i : Nat} {x p : HV} {k : IntKind} (hp : hindexAddr 1 v (.int k (i : Nat)) = some p) (hx : xs[i]? = some x) : hload none hs p = some x := by
  obtain ⟨q, h1, h2⟩ := H.idx1 hx k
  rw [hp] at h1; cases h1; exact h2
theorem fresh (hs : HS) (s n : Nat) (xs : List HV) (ro opn : Bool) (hn : xs.length = n * s) (cap : Option Nat) (hc : capOk cap n) : Rd (hs ++ [some (.cells s xs ro opn [])]) s (.slice hs.length 0 n cap) n xs :=
  ⟨hn, .inr (.inr ⟨hs.length, 0, cap, xs, ro, opn, [], rfl, by simp, by rw [Nat.zero_add]; omega, by simp [List.take_of_length_le (Nat.le_of_eq hn)], hc⟩)⟩
/-- a part of a slice. -/
theorem cut (H : Rd hs s v n xs) {lo hi : Nat} {vlo vhi : Option HV} (a : Lo lo vlo) (b : Hi hi n vhi) (h1 : lo ≤ hi) (h2 : hi ≤ n) : ∃ v', hslice v vlo vhi none = some v' ∧ Rd hs s v' (hi - lo) ((xs.drop (lo * s)).take ((hi - lo) * s)) := by
  have h0 := H.1
  have hl := part_len (s := s) h0 h1 h2
  obtain ⟨_, ⟨rfl, rfl⟩ | ⟨h, o, rfl, rfl⟩ | ⟨h, o, cap, cs, ro, opn, olds, rfl, hb, hle, hx, hc⟩⟩ := H
  · refine ⟨.nilSlice, ?_, hl, .inl ⟨rfl, by omega⟩⟩
    simp only [hslice, bounds_of a b h1 h2 (Nat.le_refl _)]; rfl
  · refine ⟨.slice h (o + lo) (hi - lo) (some (0 - lo)), ?_, hl, .inr (.inl ⟨h, o + lo, by rw [show hi - lo = 0 by omega, show 0 - lo = 0 by omega], by omega⟩)⟩
    simp only [hslice, bounds_of a b h1 h2 (Nat.le_refl _)]; rfl
  · have e1 : (o + lo + (hi - lo)) * s ≤ (o + n) * s := Nat.mul_le_mul_right s (by omega)
    cases cap with
    | none =>
      refine ⟨.slice h (o + lo) (hi - lo) none, ?_, hl, .inr (.inr ⟨h, o + lo, none, cs, ro, opn, olds, rfl, hb, by omega, part_part hx h1 h2, fun c e => by cases e⟩)⟩
      simp only [hslice, bounds_of a b h1 h2 (Nat.le_refl _)]; rfl
    | some c =>
      have hc' := hc c rfl
      refine ⟨.slice h (o + lo) (hi - lo) (some (c - lo)), ?_, hl, .inr (.inr ⟨h, o + lo, _, cs, ro, opn, olds, rfl, hb, by omega, part_part hx h1 h2, fun c' e => by cases e; omega⟩)⟩
      simp only [hslice, bounds_of a b h1 h2 hc']; rfl
end Rd
/-- bytes to a string. -/
theorem rd_b2s {fr : List HV} {hs : HS} {x : HX} {v : HV} {n : Nat} {b : List UInt8} (hx : x.ev fr = v) (H : Rd hs 1 v n (bcells b)) : hop (.b2s x) fr hs = some (.str b, hs) := vb2s (by rw [hx]; exact H.notStr) hx H.take

/-- a slice of one's own: none, one without room, one whose room is not known, one whose room is. -/
def My (s : Nat) (v : HV) (n : Nat) (xs : List HV) : SA := fun r => xs.length = n * s ∧
  ((v = .nilSlice ∧ n = 0) ∨ (∃ h o, v = .slice h o 0 (some 0) ∧ n = 0) ∨
   (∃ h o cs olds, v = .slice h o n none ∧ pt h (.cells s cs false true olds) r ∧ (o + n) * s ≤ cs.length ∧ (cs.drop (o * s)).take (n * s) = xs) ∨
    ∃ h o c cs opn olds, v = .slice h o n (some c) ∧ n ≤ c ∧ pt h (.cells s cs false opn olds) r ∧ (o + n) * s ≤ cs.length ∧ (cs.drop (o * s)).take (n * s) = xs)
/-- a slice that may be read. -/
def Vw (s : Nat) (v : HV) (n : Nat) (xs : List HV) : SA := fun r => xs.length = n * s ∧
  ((v = .nilSlice ∧ n = 0) ∨ (∃ h o, v = .slice h o 0 (some 0) ∧ n = 0) ∨
   ∃ h o cap cs ro opn olds, v = .slice h o n cap ∧ pt h (.cells s cs ro opn olds) r ∧ (o + n) * s ≤ cs.length ∧ (cs.drop (o * s)).take (n * s) = xs ∧ capOk cap n)
theorem My.vw {s n : Nat} {v : HV} {xs : List HV} {r : Res} (H : My s v n xs r) : Vw s v n xs r := by
  obtain ⟨h0, h | h | ⟨h, o, cs, olds, h1, h2, h3, h4⟩ | ⟨h, o, c, cs, opn, olds, h1, h5, h2, h3, h4⟩⟩ := H
  · exact ⟨h0, .inl h⟩
  · exact ⟨h0, .inr (.inl h)⟩
  · exact ⟨h0, .inr (.inr ⟨h, o, none, cs, false, true, olds, h1, h2, h3, h4, fun c e => by cases e⟩)⟩
  · exact ⟨h0, .inr (.inr ⟨h, o, some c, cs, false, opn, olds, h1, h2, h3, h4, fun c' e => by cases e; exact h5⟩)⟩
namespace Sat
variable {hs : HS} {l : List SA} {s n : Nat} {v : HV} {xs : List HV}
theorem open1 {A : SA} (H : Sat hs (A :: l)) : ∃ a, A a ∧ ∀ B : SA, B a → Sat hs (B :: l) := by
  obtain ⟨r, h1, a, b, d, h3, h4, h5, h6⟩ := H
  exact ⟨a, h5, fun B hB => ⟨r, h1, a, b, d, h3, h4, hB, h6⟩⟩
theorem vw (H : Sat hs (My s v n xs :: l)) : Sat hs (Vw s v n xs :: l) := H.imp fun _ => My.vw
theorem rdV (H : Sat hs (Vw s v n xs :: l)) : Rd hs s v n xs := by
  obtain ⟨a, ⟨h0, h | h | ⟨h, o, cap, cs, ro, opn, olds, rfl, h2, h3, h4, h5⟩⟩, hB⟩ := H.open1
  · exact ⟨h0, .inl h⟩
  · exact ⟨h0, .inr (.inl h)⟩
  · exact ⟨h0, .inr (.inr ⟨h, o, cap, cs, ro, opn, olds, rfl, (hB _ h2).get, h3, h4, h5⟩)⟩
theorem rd (H : Sat hs (My s v n xs :: l)) : Rd hs s v n xs := H.vw.rdV
theorem own0 (H : Sat hs l) : Sat hs (My s .nilSlice 0 [] :: l) := by
  obtain ⟨r, h1, h2⟩ := H
  exact ⟨r, h1, nores, r, nores_dj r, nores_sub r, Sub.refl r, ⟨by simp, .inl ⟨rfl, rfl⟩⟩, h2⟩
theorem ownZ (H : Sat hs l) (h o : Nat) : Sat hs (My s (.slice h o 0 (some 0)) 0 [] :: l) := by
  obtain ⟨r, h1, h2⟩ := H
  exact ⟨r, h1, nores, r, nores_dj r, nores_sub r, Sub.refl r, ⟨by simp, .inr (.inl ⟨h, o, rfl, rfl⟩)⟩, h2⟩
theorem ownN {h : Nat} {cs : List HV} {olds : List Nat} (H : Sat hs (pt h (.cells s cs false true olds) :: l)) (hn : cs.length = n * s) : Sat hs (My s (.slice h 0 n none) n cs :: l) :=
  H.imp fun r hr => ⟨hn, .inr (.inr (.inl ⟨h, 0, cs, olds, rfl, hr, by rw [Nat.zero_add]; omega, by rw [Nat.zero_mul, List.drop_zero, List.take_of_length_le (by omega)]⟩))⟩
theorem ownC {h c : Nat} {cs xs : List HV} {opn : Bool} {olds : List Nat} (H : Sat hs (pt h (.cells s cs false opn olds) :: l)) (hn : n ≤ c) (hc : n * s ≤ cs.length) (hx : cs.take (n * s) = xs) : Sat hs (My s (.slice h 0 n (some c)) n xs :: l) :=
  H.imp fun r hr => ⟨by rw [← hx, List.length_take]; omega, .inr (.inr (.inr ⟨h, 0, c, cs, opn, olds, rfl, hn, hr, by rw [Nat.zero_add]; omega, by rw [Nat.zero_mul, List.drop_zero]; exact hx⟩))⟩
theorem drop_app_len {a b : List HV} {k : Nat} (h : k ≤ a.length) : (a ++ b).drop k = a.drop k ++ b := by
  rw [List.drop_append]
  rw [show k - a.length = 0 by omega, List.drop_zero]

/-- one's own slice grows. -/
theorem append {bytes m : Nat} {y : HV} {ns : List HV} (H : Sat hs (My s v n xs :: l)) (T : takeCells hs s y = some (m, ns)) (hr : roomFor (n + m) bytes = true) (hm : n + m ≤ maxLen) :
    ∃ v' hs', happend hs s bytes v y = some (v', hs') ∧ Sat hs' (My s v' (n + m) (xs ++ ns) :: l) := by
  have hk := H.rd.take
  have hnl := takeCells_len T
  obtain ⟨a, ⟨h0, hc⟩, hB⟩ := H.open1
  by_cases hm0 : m = 0
  · subst hm0
    obtain rfl : ns = [] := List.eq_nil_of_length_eq_zero (by simpa using hnl)
    refine ⟨v, hs, ?_, by simpa using H⟩
    unfold happend
    rw [T]
    rcases hc with ⟨rfl, _⟩ | ⟨h, o, rfl, _⟩ | ⟨h, o, cs, olds, rfl, _⟩ | ⟨h, o, c, cs, opn, olds, rfl, _⟩ <;> simp
  have hlen : (xs ++ ns).length = (n + m) * s := by rw [List.length_append, h0, hnl, Nat.add_mul]
  unfold happend
  rw [T]
  rcases hc with ⟨rfl, rfl⟩ | ⟨h, o, rfl, rfl⟩ | ⟨h, o, cs, olds, rfl, hp, hle, hx⟩ | ⟨h, o, c, cs, opn, olds, rfl, hnc, hp, hle, hx⟩
  · obtain rfl : xs = [] := List.eq_nil_of_length_eq_zero (by simpa using h0)
    simp only [Nat.zero_add] at hr hm
    simp only [if_neg hm0, if_pos (And.intro hr hm)]
    refine ⟨_, _, rfl, ?_⟩
    rw [List.nil_append, Nat.zero_add]
    exact ownN (H.t.push rfl) hnl
  · obtain rfl : xs = [] := List.eq_nil_of_length_eq_zero (by simpa using h0)
    simp only [Nat.zero_add] at hr hm
    simp only [if_neg hm0, Nat.zero_add, if_neg (show ¬ m ≤ 0 by omega), hk, if_pos (And.intro hr hm)]
    exact ⟨_, _, rfl, ownN (H.t.push rfl) (by simpa using hnl)⟩
  · have P := hB _ hp
    have hget := P.get
    have hlt := P.lt
    simp only [if_neg hm0, hget]
    rw [if_pos ⟨trivial, hle, hr, hm⟩]
    split
    · rename_i hend
      refine ⟨_, _, rfl, ?_⟩
      rw [hx]
      refine ownN (h := hs.length) (olds := h :: olds) (P.turn (by simp) (fun i hi h1 h2 => ?_) ?_ (.inr (Nat.le_refl _)) ?_) hlen
      · rw [List.getElem?_append_left (by simpa using hi), List.getElem?_set_ne (by omega)]
      · rw [List.getElem?_append_right (by simp)]; simp
      · intro o' ho'
        rcases List.mem_cons.1 ho' with rfl | ho'
        · exact ⟨by omega, .inl rfl⟩
        · refine ⟨?_, .inr ho'⟩
          obtain ⟨r, h1, a', _, _, h3, _, h5, _⟩ := P
          obtain ⟨_, y, hy⟩ := h5.2 o' ho'
          have := (h1 o' _ (h3 o' _ hy)).1
          omega
    · refine ⟨_, _, rfl, ?_⟩
      rw [hx]
      refine ownN (h := hs.length) (olds := []) (P.turn (by simp [killAll_length]) (fun i hi h1 h2 => ?_) ?_ (.inr (Nat.le_refl _)) (by simp [HB.olds])) hlen
      · rw [List.getElem?_append_left (by simpa [killAll_length] using hi), List.getElem?_set_ne (by omega)]; exact killAll_ne h2
      · rw [List.getElem?_append_right (by simp [killAll_length])]; simp [killAll_length]
  · have P := hB _ hp
    have hget := P.get
    have hlt := P.lt
    simp only [if_neg hm0]
    split
    · rename_i hroom
      simp only [hget]
      rw [if_pos ⟨trivial, hle⟩]
      refine ⟨_, _, rfl, ?_⟩
      have P2 := P.put (cs' := overw cs ((o + n) * s) ns) (ro' := false) (opn' := opn)
      refine P2.imp fun r hr => ⟨hlen, .inr (.inr (.inr ⟨h, o, c, _, opn, [], rfl, hroom, hr, ?_, ?_⟩))⟩
      · rw [overw_lengthW hle, hnl]; have : (o + (n + m)) * s = (o + n) * s + m * s := by rw [← Nat.add_assoc, Nat.add_mul]
        omega
      · have e1 : o * s ≤ (o + n) * s := Nat.mul_le_mul_right s (by omega)
        unfold overw
        rw [List.append_assoc, drop_app_len (by rw [List.length_take]; omega), List.drop_take, show (o + n) * s - o * s = n * s by rw [Nat.add_mul]; omega, hx, ← List.append_assoc]
        rw [List.take_append, List.take_of_length_le (by omega), show (n + m) * s - (xs ++ ns).length = 0 by omega]; simp
    · simp only [hk, if_pos (And.intro hr hm)]
      exact ⟨_, _, rfl, ownN (h := hs.length) (olds := []) (H.t.push rfl) hlen⟩
/-- one's own slice is cut: the part is one's own. -/
theorem cut (H : Sat hs (My s v n xs :: l)) {lo hi : Nat} {vlo vhi : Option HV} (a : Lo lo vlo) (b : Hi hi n vhi) (h1 : lo ≤ hi) (h2 : hi ≤ n) {v' : HV} (hv : hslice v vlo vhi none = some v') :
    Sat hs (My s v' (hi - lo) ((xs.drop (lo * s)).take ((hi - lo) * s)) :: l) := by
  refine H.imp ?_
  rintro r ⟨h0, hc⟩
  have hl := part_len (s := s) h0 h1 h2
  refine ⟨hl, ?_⟩
  rcases hc with ⟨rfl, rfl⟩ | ⟨h, o, rfl, rfl⟩ | ⟨h, o, cs, olds, rfl, hp, hle, hx⟩ | ⟨h, o, c, cs, opn, olds, rfl, hnc, hp, hle, hx⟩
  · simp only [hslice, bounds_of a b h1 h2 (Nat.le_refl _)] at hv
    cases hv
    exact .inl ⟨rfl, by omega⟩
  · simp only [hslice, bounds_of a b h1 h2 (Nat.le_refl _)] at hv
    cases hv
    obtain rfl : hi = 0 := by omega
    obtain rfl : lo = 0 := by omega
    exact .inr (.inl ⟨h, o, rfl, rfl⟩)
  · have e1 : (o + lo + (hi - lo)) * s ≤ (o + n) * s := Nat.mul_le_mul_right s (by omega)
    simp only [hslice, bounds_of a b h1 h2 (Nat.le_refl _)] at hv
    cases hv
    exact .inr (.inr (.inl ⟨h, o + lo, cs, olds, rfl, hp, by omega, part_part hx h1 h2⟩))
  · have e1 : (o + lo + (hi - lo)) * s ≤ (o + n) * s := Nat.mul_le_mul_right s (by omega)
    simp only [hslice, bounds_of a b h1 h2 hnc] at hv
    cases hv
    exact .inr (.inr (.inr ⟨h, o + lo, c - lo, cs, opn, olds, rfl, by omega, hp, by omega, part_part hx h1 h2⟩))
/-- an element of one's own slice is written. -/
theorem write (H : Sat hs (My s v n xs :: l)) {i j : Nat} (hi : i < n) (hj : j < s) (k : IntKind) {x : HV} (hc : x.cells = [x]) (h1 : x.one = true) :
    ∃ h o hs', hindexAddr s v (.int k (i : Nat)) = some (.ptr h o) ∧ hstore 1 hs (.ptr h (o + j)) x = some hs' ∧ Sat hs' (My s v n (xs.set (i * s + j) x) :: l) := by
  obtain ⟨a, ⟨h0, hcc⟩, hB⟩ := H.open1
  have e2 : i * s + s ≤ n * s := by rw [← Nat.succ_mul]; exact Nat.mul_le_mul_right s (by omega)
  have key : ∀ (o : Nat) (cs : List HV), (o + n) * s ≤ cs.length → (cs.drop (o * s)).take (n * s) = xs → (o + i) * s + j < cs.length ∧ ((cs.set ((o + i) * s + j) x).drop (o * s)).take (n * s) = xs.set (i * s + j) x := by
    intro o cs hle hx
    have e1 : (o + i) * s = o * s + i * s := Nat.add_mul o i s
    have e3 : (o + n) * s = o * s + n * s := Nat.add_mul o n s
    refine ⟨by omega, ?_⟩
    rw [List.drop_set, if_neg (by omega), List.take_set, show (o + i) * s + j - o * s = i * s + j by omega, hx]
  rcases hcc with ⟨rfl, rfl⟩ | ⟨h, o, rfl, rfl⟩ | ⟨h, o, cs, olds, rfl, hp, hle, hx⟩ | ⟨h, o, c, cs, opn, olds, rfl, hnc, hp, hle, hx⟩
  · omega
  · omega
  · have P := hB _ hp
    obtain ⟨g1, g2⟩ := key o cs hle hx
    refine ⟨h, (o + i) * s, _, by rw [vidx_some hi], by rw [va_store, P.get]; exact va_st1 hc h1 g1, ?_⟩
    refine (P.put (cs' := cs.set ((o + i) * s + j) x) (ro' := false) (opn' := true)).imp fun r hr => ⟨by simpa using h0, .inr (.inr (.inl ⟨h, o, _, [], rfl, hr, by simpa using hle, g2⟩))⟩
  · have P := hB _ hp
    obtain ⟨g1, g2⟩ := key o cs hle hx
    refine ⟨h, (o + i) * s, _, by rw [vidx_some hi], by rw [va_store, P.get]; exact va_st1 hc h1 g1, ?_⟩
    refine (P.put (cs' := cs.set ((o + i) * s + j) x) (ro' := false) (opn' := opn)).imp fun r hr => ⟨by simpa using h0, .inr (.inr (.inr ⟨h, o, c, _, opn, [], rfl, hnc, hr, by simpa using hle, g2⟩))⟩
end Sat
end Go.HL
