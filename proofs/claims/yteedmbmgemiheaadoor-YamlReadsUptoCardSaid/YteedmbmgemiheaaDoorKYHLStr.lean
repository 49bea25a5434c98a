/-
  HL: functions of the library on strings, by what the kit says of them.
-/
import Derived.Test.YteedmbmgemiheaaDoorKYHLExt
import Derived.Lib.Bytealg
import Derived.Lib.Join
import Derived.Below
namespace Go.HL
open Go Go.RowKit

theorem Step.below {β : List Ent} {hs : HS} {w w' : World} (E : Emb β hs w) (h : Below w.heap.size w w') : Step β hs w β hs w' := by
  refine ⟨Ext.refl _, ⟨E.len, fun i e b h1 h2 => ?_, E.sep⟩, h.size, fun k hk _ => h.block k hk, fun _ _ h => h, h.os, h.output, h.tape, fun _ _ hl he => absurd (lt_of_get he) (by omega)⟩
  have hB := E.blk i e b h1 h2
  exact hB.world (h.block _ hB.lt)

end Go.HL
