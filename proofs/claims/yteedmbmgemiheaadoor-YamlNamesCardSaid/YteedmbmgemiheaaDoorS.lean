/-
  internal/stringslite.Index, laid off the shelf at this dump; what the evaluator takes of it.
-/
import Derived.Test.YteedmbmgemiheaaDoorHLIdxS
import Derived.Test.YteedmbmgemiheaaDoorProg
import Derived.Ground.NamesProg
import Derived.Shelf.LaysM
import Derived.Shelf.Strings.Search2
import Derived.KernelRfl
namespace Go.Proofs
open Go.Shelf
def Tryd.laysM219_ren : Go.Shelf.Ren := ⟨fun | 219 => 55 | 217 => 59 | 225 => 60 | 224 => 61 | 267 => 62 | 266 => 64 | 314 => 65 | n => n, fun | 9 => 9 | 3 => 3 | 4 => 4 | 5 => 5 | 46 => 85 | 146 => 87 | 51 => 86 | n => n, fun | 1 => 1 | n => n⟩
theorem Tryd.laysM219 : Go.Proofs.LaysM.n219 Tryd.prog Tryd.laysM219_ren :=
  { mixed := by kernel_rfl
    f217 := Tryd.func59.trans (congrArg some (by kernel_rfl))
    f219 := Tryd.func55.trans (congrArg some (by kernel_rfl))
    f224 := Tryd.func61.trans (congrArg some (by kernel_rfl))
    f225 := Tryd.func60.trans (congrArg some (by kernel_rfl))
    f266 := Tryd.func64.trans (congrArg some (by kernel_rfl))
    f267 := Tryd.func62.trans (congrArg some (by kernel_rfl))
    f314 := Tryd.func65.trans (congrArg some (by kernel_rfl))
    t3 := Tryd.underlying3
    a3 := Tryd.isAgg3
    z3 := Tryd.sizeOf3
    v3 := Tryd.zeroValue3
    t4 := Tryd.underlying4
    a4 := Tryd.isAgg4
    z4 := Tryd.sizeOf4
    v4 := Tryd.zeroValue4
    t5 := Tryd.underlying5
    a5 := Tryd.isAgg5
    z5 := Tryd.sizeOf5
    v5 := Tryd.zeroValue5
    t9 := Tryd.underlying9
    a9 := Tryd.isAgg9
    z9 := Tryd.sizeOf9
    v9 := Tryd.zeroValue9
    t46 := Tryd.underlying85
    a46 := Tryd.isAgg85
    z46 := Tryd.sizeOf85
    v46 := Tryd.zeroValue85
    t51 := Tryd.underlying86
    a51 := Tryd.isAgg86
    z51 := Tryd.sizeOf86
    v51 := Tryd.zeroValue86
    t146 := Tryd.underlying87
    a146 := Tryd.isAgg87
    z146 := Tryd.sizeOf87
    v146 := Tryd.zeroValue87
    g1 := by kernel_rfl
    i3 := by kernel_rfl
    i4 := by kernel_rfl
    i5 := by kernel_rfl
    i9 := by kernel_rfl
    i46 := by kernel_rfl
    i51 := by kernel_rfl
    i146 := by kernel_rfl
    m1 := by kernel_rfl
    s1_3 := fun w h => Go.Proofs.cell_of_shapedOpen_int (zero := #[.int .i64 0]) (t := 3) h (of_decide_eq_true (by kernel_rfl)) (by kernel_rfl) rfl (by kernel_rfl) (by kernel_rfl) Tryd.underlying3 }
end Go.Proofs
namespace Go.Proofs.YteedmbmgemiheaaDoor
open Go Go.HL Go.Shelf

def X : FuncId → Option (List HV → HS → Option (HV × HS))
  | 55 => some (xIndexStr 1)
  | _ => none

theorem ok55 : okF Tryd.prog 55 := ⟨_, Tryd.func55, by kernel_rfl, by kernel_rfl⟩

theorem X_ok : XOk Tryd.prog X := by
  intro f g h
  unfold X at h
  split at h
  · simp at h; subst h
    exact fun args hs v hs' h => xIndexStr_sound ok55 (fun s sub m w h1 h2 => Any.stringslite_Index { Tryd.laysM219 with } s sub m w h1 h2) h
  · simp at h
end Go.Proofs.YteedmbmgemiheaaDoor
