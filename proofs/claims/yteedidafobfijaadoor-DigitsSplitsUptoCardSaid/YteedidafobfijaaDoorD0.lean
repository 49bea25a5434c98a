/-
  The document's examples hold, in a heap of which a part is known.
-/
import Derived.Test.YteedidafobfijaaDoorB
import Derived.Test.YteedidafobfijaaDoorL
namespace Go.Proofs.YteedidafobfijaaDoor
open Go Go.HL
namespace B
set_option maxRecDepth 100000
set_option maxHeartbeats 4000000
def pow0 : HB := .cells 1 (W.pow.map (HV.int .u64)) true false []
def hsW : HS := [some pow0, some (.gpin 0 0), none, none]
theorem run10W : ((hcall F W.X 300 10 [] hsW).map fun x => HV.eqb x.1 (.bool true)) = some true := by kernel_rfl
theorem shownW : HC Tryd.prog 10 [] hsW fun v _ => v = .bool true := hcall_bool mixed F_ok W.X_ok rfl run10W
/-- the heap at the beginning: the table, its pin, an int, the words. -/
def hsA (b : Option HB) : HS := [some pow0, some (.gpin 0 0), some (.gint 1), b]
theorem pow_ro : pow0.ro = true := rfl
theorem sub (b : Option HB) (i : Nat) (c : HB) (h : hsW[i]? = some (some c)) : (hsA b)[i]? = some (some c) ∧ c.ro = true := by
  rcases i with _ | _ | i
  · have h' : some (some pow0) = some (some c) := h
    obtain rfl := Option.some.inj (Option.some.inj h')
    exact ⟨rfl, pow_ro⟩
  · have h' : some (some (HB.gpin 0 0)) = some (some c) := h
    obtain rfl := Option.some.inj (Option.some.inj h')
    exact ⟨rfl, rfl⟩
  · rcases i with _ | _ | i
    · have h' : some none = some (some c) := h
      simp at h'
    · have h' : some none = some (some c) := h
      simp at h'
    · have h' : none = some (some c) := h
      simp at h'
theorem lenA (b : Option HB) : hsW.length = (hsA b).length := by unfold hsW hsA; simp only [List.length_cons, List.length_nil]
theorem flatT (v : HV) (h : v = .bool true) : v.flat = true := by subst h; rfl
theorem shownA (b : Option HB) : HC Tryd.prog 10 [] (hsA b) fun v hs' => v = .bool true ∧ hs' = hsA b :=
  HC.frameLess (hsW := hsW) (R := fun v => v = .bool true) (lenA b) (sub b) flatT shownW

end B
end Go.Proofs.YteedidafobfijaaDoor
