/-
  bytes.Index, internal/stringslite.Index, internal/bytealg.CountString at this dump; what the evaluator takes of them.
-/
import Derived.Test.YthokgpjlndmaaaaGreatDoorHLIdxS
import Derived.Test.YthokgpjlndmaaaaGreatDoorHLStr
import Derived.Test.YthokgpjlndmaaaaGreatDoorProg
import Derived.Ground.NamesProg
import Derived.Shelf.LaysM
import Derived.Shelf.Bytes.SlIndexWhole
import Derived.Shelf.Strings.Search2
import Derived.KernelRfl
namespace Go.Proofs
open Go.Shelf
def Tryz.laysM185_ren : Go.Shelf.Ren := ⟨fun | 185 => 56 | 187 => 80 | 115 => 73 | 253 => 81 | 224 => 82 | 254 => 83 | 255 => 115 | 291 => 116 | n => n, fun | 37 => 36 | 3 => 3 | 4 => 4 | 0 => 0 | 5 => 5 | 46 => 175 | 9 => 9 | 146 => 208 | 51 => 205 | n => n, fun | 1 => 0 | n => n⟩
theorem Tryz.laysM185 : Go.Proofs.LaysM.n185 Tryz.prog Tryz.laysM185_ren :=
  { mixed := by kernel_rfl
    f115 := Tryz.func73.trans (congrArg some (by kernel_rfl))
    f185 := Tryz.func56.trans (congrArg some (by kernel_rfl))
    f187 := Tryz.func80.trans (congrArg some (by kernel_rfl))
    f224 := Tryz.func82.trans (congrArg some (by kernel_rfl))
    f253 := Tryz.func81.trans (congrArg some (by kernel_rfl))
    f254 := Tryz.func83.trans (congrArg some (by kernel_rfl))
    f255 := Tryz.func115.trans (congrArg some (by kernel_rfl))
    f291 := Tryz.func116.trans (congrArg some (by kernel_rfl))
    t0 := Tryz.underlying0
    a0 := Tryz.isAgg0
    z0 := Tryz.sizeOf0
    v0 := Tryz.zeroValue0
    t3 := Tryz.underlying3
    a3 := Tryz.isAgg3
    z3 := Tryz.sizeOf3
    v3 := Tryz.zeroValue3
    t4 := Tryz.underlying4
    a4 := Tryz.isAgg4
    z4 := Tryz.sizeOf4
    v4 := Tryz.zeroValue4
    t5 := Tryz.underlying5
    a5 := Tryz.isAgg5
    z5 := Tryz.sizeOf5
    v5 := Tryz.zeroValue5
    t9 := Tryz.underlying9
    a9 := Tryz.isAgg9
    z9 := Tryz.sizeOf9
    v9 := Tryz.zeroValue9
    t37 := Tryz.underlying36
    a37 := Tryz.isAgg36
    z37 := Tryz.sizeOf36
    v37 := Tryz.zeroValue36
    t46 := Tryz.underlying175
    a46 := Tryz.isAgg175
    z46 := Tryz.sizeOf175
    v46 := Tryz.zeroValue175
    t51 := Tryz.underlying205
    a51 := Tryz.isAgg205
    z51 := Tryz.sizeOf205
    v51 := Tryz.zeroValue205
    t146 := Tryz.underlying208
    a146 := Tryz.isAgg208
    z146 := Tryz.sizeOf208
    v146 := Tryz.zeroValue208
    g1 := by kernel_rfl
    i0 := by kernel_rfl
    i3 := by kernel_rfl
    i4 := by kernel_rfl
    i5 := by kernel_rfl
    i9 := by kernel_rfl
    i37 := by kernel_rfl
    i46 := by kernel_rfl
    i51 := by kernel_rfl
    i146 := by kernel_rfl
    m1 := by kernel_rfl
    s1_3 := fun w h => Go.Proofs.cell_of_shapedOpen_int (zero := #[.int .i64 0]) (t := 3) h (of_decide_eq_true (by kernel_rfl)) (by kernel_rfl) rfl (by kernel_rfl) (by kernel_rfl) Tryz.underlying3 }
def Tryz.laysM219_ren : Go.Shelf.Ren := ⟨fun | 219 => 117 | 217 => 129 | 225 => 130 | 224 => 82 | 267 => 131 | 266 => 137 | 314 => 138 | n => n, fun | 9 => 9 | 3 => 3 | 4 => 4 | 5 => 5 | 46 => 175 | 146 => 208 | 51 => 205 | n => n, fun | 1 => 0 | n => n⟩
theorem Tryz.laysM219 : Go.Proofs.LaysM.n219 Tryz.prog Tryz.laysM219_ren :=
  { mixed := by kernel_rfl
    f217 := Tryz.func129.trans (congrArg some (by kernel_rfl))
    f219 := Tryz.func117.trans (congrArg some (by kernel_rfl))
    f224 := Tryz.func82.trans (congrArg some (by kernel_rfl))
    f225 := Tryz.func130.trans (congrArg some (by kernel_rfl))
    f266 := Tryz.func137.trans (congrArg some (by kernel_rfl))
    f267 := Tryz.func131.trans (congrArg some (by kernel_rfl))
    f314 := Tryz.func138.trans (congrArg some (by kernel_rfl))
    t3 := Tryz.underlying3
    a3 := Tryz.isAgg3
    z3 := Tryz.sizeOf3
    v3 := Tryz.zeroValue3
    t4 := Tryz.underlying4
    a4 := Tryz.isAgg4
    z4 := Tryz.sizeOf4
    v4 := Tryz.zeroValue4
    t5 := Tryz.underlying5
    a5 := Tryz.isAgg5
    z5 := Tryz.sizeOf5
    v5 := Tryz.zeroValue5
    t9 := Tryz.underlying9
    a9 := Tryz.isAgg9
    z9 := Tryz.sizeOf9
    v9 := Tryz.zeroValue9
    t46 := Tryz.underlying175
    a46 := Tryz.isAgg175
    z46 := Tryz.sizeOf175
    v46 := Tryz.zeroValue175
    t51 := Tryz.underlying205
    a51 := Tryz.isAgg205
    z51 := Tryz.sizeOf205
    v51 := Tryz.zeroValue205
    t146 := Tryz.underlying208
    a146 := Tryz.isAgg208
    z146 := Tryz.sizeOf208
    v146 := Tryz.zeroValue208
    g1 := by kernel_rfl
    i3 := by kernel_rfl
    i4 := by kernel_rfl
    i5 := by kernel_rfl
    i9 := by kernel_rfl
    i46 := by kernel_rfl
    i51 := by kernel_rfl
    i146 := by kernel_rfl
    m1 := by kernel_rfl
    s1_3 := fun w h => Go.Proofs.cell_of_shapedOpen_int (zero := #[.int .i64 0]) (t := 3) h (of_decide_eq_true (by kernel_rfl)) (by kernel_rfl) rfl (by kernel_rfl) (by kernel_rfl) Tryz.underlying3 }
end Go.Proofs
namespace Go.Proofs.YthokgpjlndmaaaaGreatDoor
open Go Go.HL Go.Shelf

def X : FuncId → Option (List HV → HS → Option (HV × HS))
  | 56 => some (xIndex 0)
  | 117 => some (xIndexStr 0)
  | 141 => some xCountStr
  | _ => none

theorem ok56 : okF Tryz.prog 56 := ⟨_, Tryz.func56, by kernel_rfl, by kernel_rfl⟩
theorem ok117 : okF Tryz.prog 117 := ⟨_, Tryz.func117, by kernel_rfl, by kernel_rfl⟩

theorem index56 {args : List HV} {hs : HS} {v : HV} {hs' : HS} (h : xIndex 0 args hs = some (v, hs')) : HCall Tryz.prog 56 args hs fun v1 hs1 => v1 = v ∧ hs1 = hs' :=
  xIndex_sound ok56
    (fun a1 a2 n c1 k c2 xs ys m w hx hy hr1 hr2 hc1 hc2 hcap hs hk hm => Any.bytes_Index_at { Tryz.laysM185 with } a1 a2 n c1 k c2 xs ys m w hx hy hr1 hr2 hc1 hc2 hcap hs hk hm)
    (fun a2 k c2 w h2 hk => by
      have h := Any.bytes_Index_nil (P := Tryz.prog) { Tryz.laysM185 with } (some a2) k c2 w hk (fun h => absurd h (by omega))
      rw [if_neg (by omega)] at h
      exact h)
    h

theorem X_ok : XOk Tryz.prog X := by
  intro f g h
  unfold X at h
  split at h
  · simp at h; subst h; exact fun args hs v hs' h => index56 h
  · simp at h; subst h
    exact fun args hs v hs' h => xIndexStr_sound ok117 (fun s sub m w h1 h2 => Any.stringslite_Index { Tryz.laysM219 with } s sub m w h1 h2) h
  · simp at h; subst h; exact fun args hs v hs' h => xCountStr_sound Tryz.func141 (by kernel_rfl) (by kernel_rfl) (by kernel_rfl) (by kernel_rfl) h
  · simp at h
end Go.Proofs.YthokgpjlndmaaaaGreatDoor
