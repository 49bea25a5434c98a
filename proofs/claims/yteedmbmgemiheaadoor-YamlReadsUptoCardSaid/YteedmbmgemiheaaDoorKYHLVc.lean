/-
  HL: memories laid out as lists: what operations come to, for rewriting.
-/
import Derived.Test.YteedmbmgemiheaaDoorKYHLAt
namespace Go.HL
open Go

section
variable {P : Program} {ro' : Option Nat} {Q : HExit → List HV → HS → Prop} {fr : List HV} {hs hs' : HS} {K : List HV → HS → Prop} {r : List HOper} {dst : Option Nat} {s h k n : Nat} {cs : List HV} {ro opn : Bool} {olds : List Nat} {x : HV}

/-- a condition, both ways. -/
theorem condK_cases {b : Bool} {y z : HCode} (h1 : b = true → hwp P ro' y Q fr hs) (h2 : b = false → hwp P ro' z Q fr hs) : condK P ro' (.bool b) y z Q fr hs := by
  cases b
  · exact (by rw [vcnd_ff]; exact h2 rfl)
  · exact (by rw [vcnd_tt]; exact h1 rfl)
theorem guardK_cases {b want : Bool} {act : HAct} (h1 : b = true → guardK P (some (.bool true)) want act dst r fr hs K) (h2 : b = false → guardK P (some (.bool false)) want act dst r fr hs K) : guardK P (some (.bool b)) want act dst r fr hs K := by
  cases b
  · exact h2 rfl
  · exact h1 rfl

/-! reading -/
def ldK (o : Option (Option HB)) (k : Nat) : Option HV := match o with
  | some (some (.cells _ cs _ _ _)) => cs[k]?
  | _ => none
theorem va_load : hload none hs (.ptr h k) = ldK hs[h]? k := by
  unfold hload ldK
  simp only
  cases hs[h]? with
  | none => rfl
  | some o => cases o with
    | none => rfl
    | some b => cases b <;> rfl
theorem va_ld : ldK (some (some (.cells s cs ro opn olds))) k = cs[k]? := rfl
def ldA (n k : Nat) (o : Option (Option HB)) : Option HV := match o with
  | some (some (.cells _ cs _ _ _)) => if k + n ≤ cs.length then some (.agg ((cs.drop k).take n)) else none
  | _ => none
theorem va_loadA : hload (some n) hs (.ptr h k) = ldA n k hs[h]? := by
  unfold hload ldA
  simp only
  cases hs[h]? with
  | none => rfl
  | some o => cases o with
    | none => rfl
    | some b => cases b <;> rfl
theorem va_ldA (hk : k + n ≤ cs.length) : ldA n k (some (some (.cells s cs ro opn olds))) = some (.agg ((cs.drop k).take n)) := by
  simp only [ldA]; rw [if_pos hk]

/-! writing -/
def stK (n : Nat) (x : HV) (hs : HS) (h k : Nat) (o : Option (Option HB)) : Option HS := match o with
  | some (some (.cells s cs false opn olds)) => if x.cells.length = n ∧ x.cells.all HV.one = true ∧ k + n ≤ cs.length then some ((killAll olds hs).set h (some (.cells s (overw cs k x.cells) false opn []))) else none
  | _ => none
theorem va_store : hstore n hs (.ptr h k) x = stK n x hs h k hs[h]? := by
  unfold hstore stK
  simp only
  cases hs[h]? with
  | none => rfl
  | some o => cases o with
    | none => rfl
    | some b => cases b <;> rfl
theorem va_st1 (hc : x.cells = [x]) (h1 : x.one = true) (hk : k < cs.length) : stK 1 x hs h k (some (some (.cells s cs false opn olds))) = some ((killAll olds hs).set h (some (.cells s (cs.set k x) false opn []))) := by
  simp only [stK, hc]
  rw [if_pos ⟨rfl, by simp [h1], by omega⟩]
  congr 4
  apply List.ext_getElem?
  intro i
  rw [overw_get (by simp; omega), List.getElem?_set]
  by_cases h : k = i
  · subst h; simp [hk]
  · rw [if_neg (by simp; omega), if_neg h]
theorem va_stn {l : List HV} (hc : l.length = n) (h1 : l.all HV.one = true) (hk : k + n ≤ cs.length) : stK n (.agg l) hs h k (some (some (.cells s cs false opn olds))) = some ((killAll olds hs).set h (some (.cells s (overw cs k l) false opn []))) := by
  have hc' : (HV.agg l).cells = l := rfl
  unfold stK
  simp only
  rw [if_pos (by rw [hc']; exact ⟨hc, h1, hk⟩)]
  rfl
theorem va_boxA {l : List HV} (h1 : l.all HV.one = true) : hbox hs (.agg l) = some (.ptr hs.length 0, hs ++ [some (.cells 1 l false false [])]) := by
  unfold hbox; rw [if_pos (show (HV.agg l).cells.all HV.one = true from h1)]; rfl

/-! slices -/
theorem va_slLo {o len a : Nat} {kd : IntKind} (hl : a ≤ len) : hslice (.slice h o len none) (some (.int kd (a : Nat))) none none = some (.slice h (o + a) (len - a) none) := by
  have h1 : bnd (some (.int kd ((a : Nat) : Int))) 0 len = some a := by
    simp only [bnd]; rw [if_pos (by omega), Int.toNat_natCast]
  simp only [hslice, bounds, h1, show bnd none len len = some len from rfl]
  rw [if_pos (by omega)]
  rfl
theorem va_slHi {o len a : Nat} {kd : IntKind} (hl : a ≤ len) : hslice (.slice h o len none) none (some (.int kd (a : Nat))) none = some (.slice h o a none) := by
  have h1 : bnd (some (.int kd ((a : Nat) : Int))) len len = some a := by
    simp only [bnd]; rw [if_pos (by omega), Int.toNat_natCast]
  simp only [hslice, bounds, h1, show bnd none len len = some len from rfl, show bnd none 0 a = some 0 from rfl]
  rw [if_pos (by omega)]
  simp
theorem va_slBoth {o len a b : Nat} {kd kd' : IntKind} (hl : a ≤ b ∧ b ≤ len) : hslice (.slice h o len none) (some (.int kd (a : Nat))) (some (.int kd' (b : Nat))) none = some (.slice h (o + a) (b - a) none) := by
  have h1 : bnd (some (.int kd' ((b : Nat) : Int))) len len = some b := by
    simp only [bnd]; rw [if_pos (by omega), Int.toNat_natCast]
  have h2 : bnd (some (.int kd ((a : Nat) : Int))) 0 b = some a := by
    simp only [bnd]; rw [if_pos (by omega), Int.toNat_natCast]
  simp only [hslice, bounds, h1, show bnd none len len = some len from rfl, h2]
  rw [if_pos (by omega)]
  simp
theorem va_slLoC {o len a c : Nat} {kd : IntKind} (hl : a ≤ len) (hc : len ≤ c) : hslice (.slice h o len (some c)) (some (.int kd (a : Nat))) none none = some (.slice h (o + a) (len - a) (some (c - a))) := by
  have h1 : bnd (some (.int kd ((a : Nat) : Int))) 0 len = some a := by
    simp only [bnd]; rw [if_pos (by omega), Int.toNat_natCast]
  simp only [hslice, bounds, h1, show bnd none c c = some c from rfl, show bnd none len c = some len from by simp [bnd]]
  rw [if_pos (by omega)]
  rfl
theorem va_slHiC {o len a c : Nat} {kd : IntKind} (hl : a ≤ c) : hslice (.slice h o len (some c)) none (some (.int kd (a : Nat))) none = some (.slice h o a (some c)) := by
  have h1 : bnd (some (.int kd ((a : Nat) : Int))) len c = some a := by
    simp only [bnd]; rw [if_pos (by omega), Int.toNat_natCast]
  simp only [hslice, bounds, h1, show bnd none c c = some c from rfl, show bnd none 0 a = some 0 from rfl]
  rw [if_pos (by omega)]
  simp
theorem va_slBothC {o len a b c : Nat} {kd kd' : IntKind} (hl : a ≤ b ∧ b ≤ c) : hslice (.slice h o len (some c)) (some (.int kd (a : Nat))) (some (.int kd' (b : Nat))) none = some (.slice h (o + a) (b - a) (some (c - a))) := by
  have h1 : bnd (some (.int kd' ((b : Nat) : Int))) len c = some b := by
    simp only [bnd]; rw [if_pos (by omega), Int.toNat_natCast]
  have h2 : bnd (some (.int kd ((a : Nat) : Int))) 0 b = some a := by
    simp only [bnd]; rw [if_pos (by omega), Int.toNat_natCast]
  simp only [hslice, bounds, h1, show bnd none c c = some c from rfl, h2]
  rw [if_pos (by omega)]
  simp
theorem va_nilHi {kd : IntKind} {a : Nat} (hl : a = 0) : hslice .nilSlice none (some (.int kd (a : Nat))) none = some .nilSlice := by
  subst hl; rfl
theorem va_nilLo {kd : IntKind} {a : Nat} (hl : a = 0) : hslice .nilSlice (some (.int kd (a : Nat))) none none = some .nilSlice := by
  subst hl; rfl
theorem va_nilNone : hslice .nilSlice none none none = some .nilSlice := rfl
def sOkK (o : Option (Option HB)) (s : Nat) : Bool := match o with
  | some (some (.cells s' _ _ _ _)) => s' == s
  | _ => false
theorem va_sOk {o len : Nat} {cap : Option Nat} (hz : capZ cap = false) : sOk hs s (.slice h o len cap) = sOkK hs[h]? s := by
  unfold sOk sOkK
  simp only [hz, Bool.false_or]
  cases hs[h]? with
  | none => rfl
  | some o => cases o with
    | none => rfl
    | some b => cases b <;> rfl
theorem va_sOkN : sOk hs s .nilSlice = true := rfl
theorem va_sOk1 {s' : Nat} : sOkK (some (some (.cells s' cs ro opn olds))) s = (s' == s) := rfl

/-! taking, appending, copying -/
end

/-! numbers -/
theorem vo_minmax {fr : List HV} {hs : HS} {lt : Bool} {xs : List HX} : hop (.minmax lt xs) fr hs = same hs (hmin lt (xs.map (HX.ev fr))) := rfl
theorem va_min2 {k k' : IntKind} {a b : Nat} : hmin true [.int k (a : Nat), .int k' (b : Nat)] = some (.int k ((min a b : Nat) : Int)) := by
  simp only [hmin, if_true]
  congr 2
  split <;> omega
theorem va_max2 {k k' : IntKind} {a b : Nat} : hmin false [.int k (a : Nat), .int k' (b : Nat)] = some (.int k ((max a b : Nat) : Int)) := by
  simp only [hmin, Bool.false_eq_true, if_false]
  congr 2
  split <;> omega
theorem va_minl {k k' : IntKind} {a b : Nat} : hmin true [.int k (no_index (OfNat.ofNat a : Int)), .int k' (b : Nat)] = some (.int k ((min a b : Nat) : Int)) := va_min2
end Go.HL
