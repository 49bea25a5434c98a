/-
  HL: a loop of a few rounds, round by round.
-/
import Derived.Test.YthihchoccpnfeaaDoorKCHLOpen
namespace Go.HL
open Go
section
variable {P : Program} {ro : Option Nat} {Q : HExit → List HV → HS → Prop} {fr : List HV} {hs : HS}
end
end Go.HL
