/-
  internal/stringslite.Index, laid off the shelf at this dump; what the evaluator takes of it.
-/
import Derived.Test.YteedmbmgemiheaaDoorHLIdxS
import Derived.Test.YteedmbmgemiheaaDoorProg
import Derived.Ground.NamesProg
import Derived.Shelf.Lay
import Derived.Shelf.LaysM
import Derived.Shelf.Strings.Search2
import Derived.KernelRfl
namespace Go.Proofs
open Go.Shelf
shelf_lay LaysM.n219 Nm 219 at Tryd as Tryd.laysM219
end Go.Proofs
namespace Go.Proofs.YteedmbmgemiheaaDoor
open Go Go.HL Go.Shelf

def X : FuncId → Option (List HV → HS → Option (HV × HS))
  | 55 => some (xIndexStr 1)
  | _ => none

theorem ok55 : okF Tryd.prog 55 := ⟨_, Tryd.func55, by kernel_rfl, by kernel_rfl⟩

theorem X_ok : XOk Tryd.prog X := by
  intro f g h
  unfold X at h
  split at h
  · simp at h; subst h
    exact fun args hs v hs' h => xIndexStr_sound ok55 (fun s sub m w h1 h2 => Any.stringslite_Index { Tryd.laysM219 with } s sub m w h1 h2) h
  · simp at h
end Go.Proofs.YteedmbmgemiheaaDoor
