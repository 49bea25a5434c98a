/-
  HL: functions of the library that have no body: by what the model says of them.
-/
import Derived.Test.YteedmbmgemiheaaDoorKYHLFun
import Derived.Laws.StandIn
namespace Go.HL
open Go

end Go.HL
