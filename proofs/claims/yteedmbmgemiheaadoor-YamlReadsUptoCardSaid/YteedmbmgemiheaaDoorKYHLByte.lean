/-
  HL: rows of bytes, for rewriting.
-/
import Derived.Test.YteedmbmgemiheaaDoorKYHLTail
import Derived.Test.YteedmbmgemiheaaDoorKYHLOwn
namespace Go.HL
open Go
section
variable {hs : HS} {h len m o bytes : Nat} {w b : List UInt8} {olds : List Nat} {ro opn : Bool} {y : HV}
theorem va_takeS : takeCells hs 1 (.str b) = some (b.length, bcells b) := rfl
theorem va_takeN {s : Nat} : takeCells hs s .nilSlice = some (0, []) := rfl
end
end Go.HL
