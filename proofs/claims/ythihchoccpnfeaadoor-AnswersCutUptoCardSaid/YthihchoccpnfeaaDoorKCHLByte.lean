/-
  HL: rows of bytes, for rewriting.
-/
import Derived.Test.YthihchoccpnfeaaDoorKCHLTail
import Derived.Test.YthihchoccpnfeaaDoorKCHLOwn
namespace Go.HL
open Go
section
variable {hs : HS} {h len m o bytes : Nat} {w b : List UInt8} {olds : List Nat} {ro opn : Bool} {y : HV}
theorem va_s2b (hl : b.length ≤ 9223372036854775807) : hs2b hs (.str b) = some (.slice hs.length 0 b.length none, hs ++ [some (.cells 1 (bcells b) false true [])]) := by
  simp only [hs2b]
  rw [if_pos (show b.length ≤ maxLen from hl)]
  rfl
theorem va_takeS : takeCells hs 1 (.str b) = some (b.length, bcells b) := rfl
theorem va_takeN {s : Nat} : takeCells hs s .nilSlice = some (0, []) := rfl
/-- an append to a row of bytes. -/
def apY (bytes : Nat) (hs : HS) (h o len : Nat) (t : Option (Nat × List HV)) (b : Option (Option HB)) : Option (HV × HS) := match t with
  | none => none
  | some (m, ns) => if m = 0 then some (.slice h o len none, hs) else match b with
    | some (some (.cells s' cs false true olds)) =>
      if s' = 1 ∧ (o + len) * 1 ≤ cs.length ∧ roomFor (len + m) bytes = true ∧ len + m ≤ maxLen then
        if (o + len) * 1 = cs.length then
          some (.slice hs.length 0 (len + m) none, hs.set h (some (.cells 1 cs true true [])) ++ [some (.cells 1 ((cs.drop (o * 1)).take (len * 1) ++ ns) false true (h :: olds))])
        else
          some (.slice hs.length 0 (len + m) none, (killAll olds hs).set h none ++ [some (.cells 1 ((cs.drop (o * 1)).take (len * 1) ++ ns) false true [])])
      else none
    | _ => none
theorem va_app : happend hs 1 bytes (.slice h o len none) y = apY bytes hs h o len (takeCells hs 1 y) hs[h]? := by
  unfold happend apY
  cases takeCells hs 1 y with
  | none => rfl
  | some p =>
    obtain ⟨m, ns⟩ := p
    simp only
    by_cases h0 : m = 0
    · rw [if_pos h0, if_pos h0]
    · rw [if_neg h0, if_neg h0]
      cases hs[h]? with
      | none => rfl
      | some q => cases q with
        | none => rfl
        | some c => cases c with
          | cells s cs ro opn olds =>
            cases ro <;> cases opn <;> simp only
          | _ => rfl
theorem va_apB (hm : m = b.length) (h0 : m ≠ 0) (hl : o + len = w.length) (hb : (len + m) * bytes ≤ 140737488355328) (hx : len + m ≤ 9223372036854775807) :
    apY bytes hs h o len (some (m, bcells b)) (some (some (.cells 1 (bcells w) false true olds))) = some (.slice hs.length 0 (len + m) none, hs.set h (some (.cells 1 (bcells w) true true [])) ++ [some (.cells 1 (bcells (w.drop o ++ b)) false true (h :: olds))]) := by
  have hwl := bcells_length w
  simp only [apY, if_neg h0]
  rw [if_pos ⟨trivial, by omega, roomFor_of hb, hx⟩, if_pos (by omega), Nat.mul_one, Nat.mul_one]
  congr 5
  rw [bcells_app]
  congr 1
  unfold bcells
  rw [← List.map_drop, List.take_of_length_le (by simp; omega)]
theorem va_ap0 {t : List HV} {q : Option (Option HB)} : apY bytes hs h o len (some (0, t)) q = some (.slice h o len none, hs) := by simp [apY]
theorem renL_flat {ρ : Nat → Option Nat} : ∀ {xs : List HV}, xs.all HV.flat = true → renL ρ xs = some xs
  | [], _ => rfl
  | x :: r, h => by
    simp only [List.all_cons, Bool.and_eq_true] at h
    have hx : renV ρ x = some x := by cases x <;> simp [HV.flat] at h <;> rfl
    simp only [renL, hx, renL_flat h.2]
theorem bcells_flat (w : List UInt8) : (bcells w).all HV.flat = true := by
  rw [List.all_eq_true]; intro x hx
  obtain ⟨c, _, rfl⟩ := List.mem_map.1 hx
  rfl
theorem renL_bcells {ρ : Nat → Option Nat} : renL ρ (bcells w) = some (bcells w) := renL_flat (bcells_flat w)
theorem relRho_off {n j : Nat} {offs : List Nat} : relRho n offs (n + j) = (posIn offs j 0).map (n + ·) := by
  unfold relRho; rw [if_neg (by omega), Nat.add_sub_cancel_left]
/-- a row of bytes is what is kept. -/
theorem tailB {L : HS} {j : Nat} (hL : L[j]? = some (some (.cells 1 (bcells w) false true olds))) (ho : ∀ q ∈ olds, ∃ i, q = hs.length + i ∧ i ≠ j) :
    okOffs L.length [j] = true ∧ rv (relRho hs.length [j]) (.slice (hs.length + j) 0 len none) = .slice hs.length 0 len none ∧ pickT hs.length [j] L = [some (.cells 1 (bcells w) false true [])] := by
  have hj := lt_of_get hL
  have hp : relRho hs.length [j] (hs.length + j) = some hs.length := by rw [relRho_off]; simp [posIn]
  refine ⟨by simp [okOffs, hasN, hj], ?_, ?_⟩
  · simp [rv, renV, hp]
  · have hf : olds.filterMap (relRho hs.length [j]) = [] := by
      rw [List.filterMap_eq_nil_iff]
      intro q hq
      obtain ⟨i, rfl, hi⟩ := ho q hq
      rw [relRho_off]
      have : Nat.beq j i = false := by
        cases hb : Nat.beq j i with
        | false => rfl
        | true => exact absurd (Nat.eq_of_beq_eq_true hb).symm hi
      simp [posIn, this]
    simp [pickT, hL, rbo, HB.ro, renB, renL_bcells, hf]
end
end Go.HL
