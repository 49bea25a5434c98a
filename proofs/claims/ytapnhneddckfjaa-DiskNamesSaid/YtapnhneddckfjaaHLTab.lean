/-
  HL: runs in parts: a table of calls whose ends are known.
-/
import Derived.Test.YtapnhneddckfjaaHLNon
namespace Go.HL
open Go

abbrev TabE := FuncId × List HV × HS × HV × HS
def tabT : List TabE → FuncId → List HV → HS → Option (HV × HS)
  | [], _, _, _ => none
  | (f', A, H, v, R) :: r, f, args, hs => if Nat.beq f f' && HV.eqbL args A && hsEqb hs H then some (v, R) else tabT r f args hs

def TOk (P : Program) (T : FuncId → List HV → HS → Option (HV × HS)) : Prop := ∀ f args hs v hs', T f args hs = some (v, hs') → HCall P f args hs fun v1 hs1 => v1 = v ∧ hs1 = hs'

theorem tOk_nil {P : Program} : TOk P (tabT []) := fun f args hs v hs' h => by simp [tabT] at h

theorem tOk_cons {P : Program} {l : List TabE} {f : FuncId} {A : List HV} {H R : HS} {v : HV} (hl : TOk P (tabT l)) (h : HCall P f A H fun v1 hs1 => v1 = v ∧ hs1 = R) : TOk P (tabT ((f, A, H, v, R) :: l)) := by
  intro f' args hs v' hs' hh
  unfold tabT at hh
  split at hh
  · rename_i hc
    simp only [Bool.and_eq_true] at hc
    have e1 := Nat.eq_of_beq_eq_true hc.1.1
    have e2 := HV.eqbL_eq _ _ hc.1.2
    have e3 := hsEqb_eq _ _ hc.2
    simp at hh; obtain ⟨rfl, rfl⟩ := hh
    subst e1 e2 e3
    exact h
  · exact hl f' args hs v' hs' hh

def hcallM (F : FuncId → Option HFn) (X : FuncId → Option (List HV → HS → Option (HV × HS))) (T : FuncId → List HV → HS → Option (HV × HS)) : Nat → CallN
  | 0, _, _, _ => none
  | n + 1, f, args, hs =>
    match T f args hs with
    | some r => some [r]
    | none => match X f with
      | some g => (g args hs).map fun r => [r]
      | none => match F f with
        | none => none
        | some hf => match hxN (hcallM F X T n) n hf.body (frame0 hf.ntmps args) hs with
          | none => none
          | some l => (bindL l fun p => if p.1.ended then (hres hf.res p.2.1 p.2.2).map fun v => [(v, p.2.2)] else none).map (fewer hs)

section
variable {P : Program} {F : FuncId → Option HFn} {X : FuncId → Option (List HV → HS → Option (HV × HS))} {T : FuncId → List HV → HS → Option (HV × HS)}

theorem hcallM_sound (hm : P.follows .mixedOrders = true) (hF : FOk P F) (hX : XOk P X) (hT : TOk P T) : ∀ n, CallsOkN P (hcallM F X T n)
  | 0 => fun f args hs l h => by simp [hcallM] at h
  | n + 1 => fun f args hs l h => by
    simp only [hcallM] at h
    split at h
    · rename_i r hr
      simp at h; subst h
      refine (hT f args hs r.1 r.2 hr).mono ?_
      rintro v hs' ⟨rfl, rfl⟩
      simp
    · split at h
      · rename_i g hg
        simp only [Option.map_eq_some_iff] at h
        obtain ⟨r, h1, rfl⟩ := h
        refine (hX f g hg args hs r.1 r.2 h1).mono ?_
        rintro v hs' ⟨rfl, rfl⟩
        simp
      · split at h
        · simp at h
        · rename_i hf hff
          split at h
          · simp at h
          · rename_i l' hh
            simp only [Option.map_eq_some_iff] at h
            obtain ⟨r, hr, rfl⟩ := h
            obtain ⟨ok, hc⟩ := hcallN_HC hm hF (hcallM_sound hm hF hX hT n) hff hh hr
            exact .inl ⟨ok, hc.gcs⟩

/-- one call's end. -/
theorem hcallM_lit (hm : P.follows .mixedOrders = true) (hF : FOk P F) (hX : XOk P X) (hT : TOk P T) {n : Nat} {f : FuncId} {A : List HV} {H R : HS} {v : HV}
    (h : ((hcallM F X T n f A H).map fun l => l.all fun x => veEqb x (v, R)) = some true) : HCall P f A H fun v1 hs1 => v1 = v ∧ hs1 = R := by
  cases hr : hcallM F X T n f A H with
  | none => rw [hr] at h; simp at h
  | some l =>
    rw [hr] at h
    simp only [Option.map_some, Option.some.injEq, List.all_eq_true] at h
    refine (hcallM_sound hm hF hX hT n f A H l hr).mono fun v1 hs1 hm => ?_
    have := veEqb_eq _ _ (h _ hm)
    simp at this
    exact this

theorem hcallM_bool (hm : P.follows .mixedOrders = true) (hF : FOk P F) (hX : XOk P X) (hT : TOk P T) {n : Nat} {f : FuncId} {args : List HV} {hs : HS} {b : Bool} (hx0 : X f = none) (ht0 : T f args hs = none)
    (h : ((hcallM F X T n f args hs).map fun l => l.all fun x => HV.eqb x.1 (.bool b)) = some true) : HC P f args hs fun v _ => v = .bool b := by
  cases hr : hcallM F X T n f args hs with
  | none => rw [hr] at h; simp at h
  | some l =>
    rw [hr] at h
    simp only [Option.map_some, Option.some.injEq, List.all_eq_true] at h
    cases n with
    | zero => simp [hcallM] at hr
    | succ n =>
      simp only [hcallM, hx0, ht0] at hr
      split at hr
      · simp at hr
      · rename_i hf hff
        split at hr
        · simp at hr
        · rename_i l' hh
          simp only [Option.map_eq_some_iff] at hr
          obtain ⟨r, hr, rfl⟩ := hr
          obtain ⟨ok, hc⟩ := hcallN_HC hm hF (hcallM_sound hm hF hX hT n) hff hh hr
          exact hc.gcs.mono fun v hs' hm => HV.eqb_eq _ _ (h _ hm)
end
end Go.HL
