/-
  bytes.Index, internal/stringslite.Index, internal/bytealg.CountString at this dump; what the evaluator takes of them.
-/
import Derived.Test.YthokgpjlndmaaaaGreatDoorHLIdxS
import Derived.Test.YthokgpjlndmaaaaGreatDoorHLStr
import Derived.Test.YthokgpjlndmaaaaGreatDoorProg
import Derived.Ground.NamesProg
import Derived.Shelf.Lay
import Derived.Shelf.LaysM
import Derived.Shelf.Bytes.SlIndexWhole
import Derived.Shelf.Strings.Search2
import Derived.KernelRfl
namespace Go.Proofs
open Go.Shelf
shelf_lay LaysM.n185 Nm 185 at Tryz as Tryz.laysM185
shelf_lay LaysM.n219 Nm 219 at Tryz as Tryz.laysM219
end Go.Proofs
namespace Go.Proofs.YthokgpjlndmaaaaGreatDoor
open Go Go.HL Go.Shelf

def X : FuncId → Option (List HV → HS → Option (HV × HS))
  | 56 => some (xIndex 0)
  | 117 => some (xIndexStr 0)
  | 141 => some xCountStr
  | _ => none

theorem ok56 : okF Tryz.prog 56 := ⟨_, Tryz.func56, by kernel_rfl, by kernel_rfl⟩
theorem ok117 : okF Tryz.prog 117 := ⟨_, Tryz.func117, by kernel_rfl, by kernel_rfl⟩

theorem index56 {args : List HV} {hs : HS} {v : HV} {hs' : HS} (h : xIndex 0 args hs = some (v, hs')) : HCall Tryz.prog 56 args hs fun v1 hs1 => v1 = v ∧ hs1 = hs' :=
  xIndex_sound ok56
    (fun a1 a2 n c1 k c2 xs ys m w hx hy hr1 hr2 hc1 hc2 hcap hs hk hm => Any.bytes_Index_at { Tryz.laysM185 with } a1 a2 n c1 k c2 xs ys m w hx hy hr1 hr2 hc1 hc2 hcap hs hk hm)
    (fun a2 k c2 w h2 hk => by
      have h := Any.bytes_Index_nil (P := Tryz.prog) { Tryz.laysM185 with } (some a2) k c2 w hk (fun h => absurd h (by omega))
      rw [if_neg (by omega)] at h
      exact h)
    h

theorem X_ok : XOk Tryz.prog X := by
  intro f g h
  unfold X at h
  split at h
  · simp at h; subst h; exact fun args hs v hs' h => index56 h
  · simp at h; subst h
    exact fun args hs v hs' h => xIndexStr_sound ok117 (fun s sub m w h1 h2 => Any.stringslite_Index { Tryz.laysM219 with } s sub m w h1 h2) h
  · simp at h; subst h; exact fun args hs v hs' h => xCountStr_sound Tryz.func141 (by kernel_rfl) (by kernel_rfl) (by kernel_rfl) (by kernel_rfl) h
  · simp at h
end Go.Proofs.YthokgpjlndmaaaaGreatDoor
