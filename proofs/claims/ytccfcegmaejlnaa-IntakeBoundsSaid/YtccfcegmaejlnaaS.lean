/-
  bytes.Index, laid off the shelf at this dump; what the evaluator takes of it.
-/
import Derived.Test.YtccfcegmaejlnaaHLIndex
import Derived.Test.YtccfcegmaejlnaaProg
import Derived.Ground.NamesProg
import Derived.Shelf.Bytes.SlIndexWhole
import Derived.KernelRfl
namespace Go.Proofs
open Go.Shelf
def Try.laysM185_ren : Go.Shelf.Ren := ⟨fun | 185 => 38 | 187 => 47 | 115 => 48 | 253 => 49 | 224 => 50 | 254 => 51 | 255 => 52 | 291 => 53 | n => n, fun | 37 => 30 | 3 => 3 | 4 => 4 | 0 => 0 | 5 => 5 | 46 => 87 | 9 => 9 | 146 => 89 | 51 => 88 | n => n, fun | 1 => 0 | n => n⟩
theorem Try.laysM185 : Go.Proofs.LaysM.n185 Try.prog Try.laysM185_ren :=
  { mixed := by kernel_rfl
    f115 := Try.func48.trans (congrArg some (by kernel_rfl))
    f185 := Try.func38.trans (congrArg some (by kernel_rfl))
    f187 := Try.func47.trans (congrArg some (by kernel_rfl))
    f224 := Try.func50.trans (congrArg some (by kernel_rfl))
    f253 := Try.func49.trans (congrArg some (by kernel_rfl))
    f254 := Try.func51.trans (congrArg some (by kernel_rfl))
    f255 := Try.func52.trans (congrArg some (by kernel_rfl))
    f291 := Try.func53.trans (congrArg some (by kernel_rfl))
    t0 := Try.underlying0
    a0 := Try.isAgg0
    z0 := Try.sizeOf0
    v0 := Try.zeroValue0
    t3 := Try.underlying3
    a3 := Try.isAgg3
    z3 := Try.sizeOf3
    v3 := Try.zeroValue3
    t4 := Try.underlying4
    a4 := Try.isAgg4
    z4 := Try.sizeOf4
    v4 := Try.zeroValue4
    t5 := Try.underlying5
    a5 := Try.isAgg5
    z5 := Try.sizeOf5
    v5 := Try.zeroValue5
    t9 := Try.underlying9
    a9 := Try.isAgg9
    z9 := Try.sizeOf9
    v9 := Try.zeroValue9
    t37 := Try.underlying30
    a37 := Try.isAgg30
    z37 := Try.sizeOf30
    v37 := Try.zeroValue30
    t46 := Try.underlying87
    a46 := Try.isAgg87
    z46 := Try.sizeOf87
    v46 := Try.zeroValue87
    t51 := Try.underlying88
    a51 := Try.isAgg88
    z51 := Try.sizeOf88
    v51 := Try.zeroValue88
    t146 := Try.underlying89
    a146 := Try.isAgg89
    z146 := Try.sizeOf89
    v146 := Try.zeroValue89
    g1 := by kernel_rfl
    i0 := by kernel_rfl
    i3 := by kernel_rfl
    i4 := by kernel_rfl
    i5 := by kernel_rfl
    i9 := by kernel_rfl
    i37 := by kernel_rfl
    i46 := by kernel_rfl
    i51 := by kernel_rfl
    i146 := by kernel_rfl
    m1 := by kernel_rfl
    s1_3 := fun w h => Go.Proofs.cell_of_shapedOpen_int (zero := #[.int .i64 0]) (t := 3) h (of_decide_eq_true (by kernel_rfl)) (by kernel_rfl) rfl (by kernel_rfl) (by kernel_rfl) Try.underlying3 }
end Go.Proofs
namespace Go.Proofs.Ytccfcegmaejlnaa
open Go Go.HL Go.Shelf

def X : FuncId → Option (List HV → HS → Option (HV × HS))
  | 38 => some (xIndex 0)
  | _ => none

theorem ok38 : okF Try.prog 38 := ⟨_, Try.func38, by kernel_rfl, by kernel_rfl⟩

theorem index38 {args : List HV} {hs : HS} {v : HV} {hs' : HS} (h : xIndex 0 args hs = some (v, hs')) : HCall Try.prog 38 args hs fun v1 hs1 => v1 = v ∧ hs1 = hs' :=
  xIndex_sound ok38
    (fun a1 a2 n c1 k c2 xs ys m w hx hy hr1 hr2 hc1 hc2 hcap hs hk hm => Any.bytes_Index_at { Try.laysM185 with } a1 a2 n c1 k c2 xs ys m w hx hy hr1 hr2 hc1 hc2 hcap hs hk hm)
    (fun a2 k c2 w h2 hk => by
      have h := Any.bytes_Index_nil (P := Try.prog) { Try.laysM185 with } (some a2) k c2 w hk (fun h => absurd h (by omega))
      rw [if_neg (by omega)] at h
      exact h)
    h

theorem X_ok : XOk Try.prog X := by
  intro f g h
  unfold X at h
  split at h
  · simp at h; subst h; exact fun args hs v hs' h => index38 h
  · simp at h
end Go.Proofs.Ytccfcegmaejlnaa
