/-
  bytes.Index, laid off the shelf at this dump; what the evaluator takes of it.
-/
import Derived.Test.YtccfcegmaejlnaaHLIndex
import Derived.Test.YtccfcegmaejlnaaProg
import Derived.Ground.NamesProg
import Derived.Shelf.Lay
import Derived.Shelf.Bytes.SlIndexWhole
import Derived.KernelRfl
namespace Go.Proofs
open Go.Shelf
shelf_lay LaysM.n185 Nm 185 at Try as Try.laysM185
end Go.Proofs
namespace Go.Proofs.Ytccfcegmaejlnaa
open Go Go.HL Go.Shelf

def X : FuncId → Option (List HV → HS → Option (HV × HS))
  | 38 => some (xIndex 0)
  | _ => none

theorem ok38 : okF Try.prog 38 := ⟨_, Try.func38, by kernel_rfl, by kernel_rfl⟩

theorem index38 {args : List HV} {hs : HS} {v : HV} {hs' : HS} (h : xIndex 0 args hs = some (v, hs')) : HCall Try.prog 38 args hs fun v1 hs1 => v1 = v ∧ hs1 = hs' :=
  xIndex_sound ok38
    (fun a1 a2 n c1 k c2 xs ys m w hx hy hr1 hr2 hc1 hc2 hcap hs hk hm => Any.bytes_Index_at { Try.laysM185 with } a1 a2 n c1 k c2 xs ys m w hx hy hr1 hr2 hc1 hc2 hcap hs hk hm)
    (fun a2 k c2 w h2 hk => by
      have h := Any.bytes_Index_nil (P := Try.prog) { Try.laysM185 with } (some a2) k c2 w hk (fun h => absurd h (by omega))
      rw [if_neg (by omega)] at h
      exact h)
    h

theorem X_ok : XOk Try.prog X := by
  intro f g h
  unfold X at h
  split at h
  · simp at h; subst h; exact fun args hs v hs' h => index38 h
  · simp at h
end Go.Proofs.Ytccfcegmaejlnaa
