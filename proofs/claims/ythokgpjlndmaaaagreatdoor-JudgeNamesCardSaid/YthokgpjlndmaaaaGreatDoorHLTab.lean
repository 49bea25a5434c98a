/-
  HL: runs in parts: a table of calls whose ends are known.
-/
import Derived.Test.YthokgpjlndmaaaaGreatDoorHLNon
namespace Go.HL
open Go

abbrev TabE := FuncId × List HV × HS × HV × HS
def tabT : List TabE → FuncId → List HV → HS → Option (HV × HS)
  | [], _, _, _ => none
  | (f', A, H, v, R) :: r, f, args, hs => if Nat.beq f f' && HV.eqbL args A && hsEqb hs H then some (v, R) else tabT r f args hs

theorem tOk_nil {P : Program} : TOk P (tabT []) := fun f args hs v hs' h => by simp [tabT] at h

theorem tOk_cons {P : Program} {l : List TabE} {f : FuncId} {A : List HV} {H R : HS} {v : HV} (hl : TOk P (tabT l)) (h : HCall P f A H fun v1 hs1 => v1 = v ∧ hs1 = R) : TOk P (tabT ((f, A, H, v, R) :: l)) := by
  intro f' args hs v' hs' hh
  unfold tabT at hh
  split at hh
  · rename_i hc
    simp only [Bool.and_eq_true] at hc
    have e1 := Nat.eq_of_beq_eq_true hc.1.1
    have e2 := HV.eqbL_eq _ _ hc.1.2
    have e3 := hsEqb_eq _ _ hc.2
    simp at hh; obtain ⟨rfl, rfl⟩ := hh
    subst e1 e2 e3
    exact h
  · exact hl f' args hs v' hs' hh

end Go.HL
