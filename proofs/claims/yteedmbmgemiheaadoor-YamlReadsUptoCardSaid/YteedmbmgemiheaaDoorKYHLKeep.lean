/-
  HL: bytes that were handed out: laid by, each with what it must read as.
-/
import Derived.Test.YteedmbmgemiheaaDoorKYHLEx
namespace Go.HL
open Go
structure En where
  out : HV
  want : HV
  bs : List UInt8
section
variable {hs : HS} {l : List SA} {vo vw : HV} {E1 E2 L O N : List En} {e : En}
end

/-- grown k times, or not yet. -/
def GrK (k : Nat) (out v : HV) (xs ys : List UInt8) : SA := fun r => (k = 0 ∧ v = out ∧ ys = xs ∧ Ex 1 out xs.length (bcells xs) r) ∨ Gr out xs.length (bcells xs) v ys.length (bcells ys) r
section
variable {hs : HS} {l : List SA} {k : Nat} {out v : HV} {xs ys : List UInt8} {C : HV → HS → Prop}
end
end Go.HL
