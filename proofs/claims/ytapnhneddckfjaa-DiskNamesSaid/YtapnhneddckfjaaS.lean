/-
  maps.Keys and slices.Sorted at ints, laid off the shelf at this dump; what the evaluator takes of them.
-/
import Derived.Test.YtapnhneddckfjaaHLKeys
import Derived.Test.YtapnhneddckfjaaProg
import Derived.Shelf.SlIterI.Nil
import Derived.Shelf.SlIterI.Sorted
import Derived.Shelf.SortM.Plain
import Derived.Shelf.SortM.SortNone
import Derived.Ground.GgzProg
import Derived.Ground.SlgmProg
import Derived.KernelRfl
namespace Go.Proofs
open Go.RowKit Go.Maps Go.Sort Go.Shelf
def Try.keysA_ren : Go.Shelf.Ren := ⟨fun | 7 => 54 | 10 => 61 | n => n, fun | 23 => 67 | 26 => 3 | 3 => 71 | 28 => 95 | 0 => 0 | 27 => 94 | 33 => 73 | 4 => 4 | n => n, fun | n => n⟩
theorem Try.keysA : Go.Proofs.SlLaysZI.n7 Try.prog Try.keysA_ren :=
  { mixed := by kernel_rfl
    f7 := ⟨Try.f54.name, by decide, Try.func54.trans (congrArg some (by kernel_rfl))⟩
    f10 := ⟨Try.f61.name, by decide, Try.func61.trans (congrArg some (by kernel_rfl))⟩
    t0 := Try.underlying0
    a0 := Try.isAgg0
    z0 := Try.sizeOf0
    v0 := Try.zeroValue0
    t4 := Try.underlying4
    a4 := Try.isAgg4
    z4 := Try.sizeOf4
    v4 := Try.zeroValue4
    t23 := Try.underlying67
    a23 := Try.isAgg67
    z23 := Try.sizeOf67
    v23 := Try.zeroValue67
    t26 := Try.underlying3
    a26 := Try.isAgg3
    z26 := Try.sizeOf3
    v26 := Try.zeroValue3
    t27 := Try.underlying94
    a27 := Try.isAgg94
    z27 := Try.sizeOf94
    v27 := Try.zeroValue94
    t28 := Try.underlying95
    a28 := Try.isAgg95
    z28 := Try.sizeOf95
    v28 := Try.zeroValue95
    t33 := Try.underlying73
    a33 := Try.isAgg73
    z33 := Try.sizeOf73
    v33 := Try.zeroValue73 }
def Try.sortedA_ren : Go.Shelf.Ren := ⟨fun | 6 => 53 | 8 => 59 | 9 => 60 | 11 => 63 | 13 => 65 | 12 => 64 | 23 => 75 | 24 => 76 | 14 => 66 | 15 => 67 | 16 => 68 | 17 => 69 | 18 => 70 | 19 => 71 | 20 => 72 | 21 => 73 | 22 => 74 | 25 => 77 | 26 => 78 | 27 => 79 | 28 => 80 | 29 => 81 | 30 => 82 | 31 => 83 | n => n, fun | 26 => 3 | 28 => 95 | 24 => 23 | 0 => 0 | 3 => 3 | 37 => 106 | 48 => 116 | 50 => 118 | 4 => 4 | 40 => 109 | 39 => 108 | 45 => 97 | 5 => 5 | 9 => 9 | 51 => 119 | 55 => 123 | 57 => 125 | 58 => 126 | 33 => 73 | n => n, fun | n => n⟩
theorem Try.sortedA : Go.Proofs.SlLaysZI.n6 Try.prog Try.sortedA_ren :=
  { mixed := by kernel_rfl
    f6 := ⟨Try.f53.name, by decide, Try.func53.trans (congrArg some (by kernel_rfl))⟩
    f8 := ⟨Try.f59.name, by decide, Try.func59.trans (congrArg some (by kernel_rfl))⟩
    f11 := ⟨Try.f63.name, by decide, Try.func63.trans (congrArg some (by kernel_rfl))⟩
    t0 := Try.underlying0
    a0 := Try.isAgg0
    z0 := Try.sizeOf0
    v0 := Try.zeroValue0
    t24 := Try.underlying23
    a24 := Try.isAgg23
    z24 := Try.sizeOf23
    v24 := Try.zeroValue23
    t26 := Try.underlying3
    a26 := Try.isAgg3
    z26 := Try.sizeOf3
    v26 := Try.zeroValue3
    t28 := Try.underlying95
    a28 := Try.isAgg95
    z28 := Try.sizeOf95
    v28 := Try.zeroValue95
    i26 := by kernel_rfl }
def Try.sortA_ren : Go.Shelf.Ren := ⟨fun | 5 => 60 | 8 => 65 | 7 => 64 | 19 => 75 | 20 => 76 | 10 => 66 | 11 => 67 | 12 => 68 | 13 => 69 | 14 => 70 | 15 => 71 | 16 => 72 | 17 => 73 | 18 => 74 | 30 => 77 | 31 => 78 | 32 => 79 | 33 => 80 | 34 => 81 | 35 => 82 | 40 => 83 | n => n, fun | 23 => 23 | 25 => 3 | 3 => 3 | 32 => 106 | 22 => 23 | 0 => 0 | 44 => 116 | 46 => 118 | 4 => 4 | 36 => 109 | 35 => 108 | 41 => 97 | 5 => 5 | 9 => 9 | 53 => 119 | 57 => 123 | 63 => 125 | 64 => 126 | n => n, fun | n => n⟩
theorem Try.sortA : Go.Proofs.SlLaysM.n5 Try.prog Try.sortA_ren :=
  { mixed := by kernel_rfl
    f5 := ⟨Try.f60.name, by decide, Try.func60.trans (congrArg some (by kernel_rfl))⟩
    f7 := ⟨Try.f64.name, by decide, Try.func64.trans (congrArg some (by kernel_rfl))⟩
    f8 := Try.func65.trans (congrArg some (by kernel_rfl))
    f10 := ⟨Try.f66.name, by decide, Try.func66.trans (congrArg some (by kernel_rfl))⟩
    f11 := ⟨Try.f67.name, by decide, Try.func67.trans (congrArg some (by kernel_rfl))⟩
    f12 := ⟨Try.f68.name, by decide, Try.func68.trans (congrArg some (by kernel_rfl))⟩
    f13 := ⟨Try.f69.name, by decide, Try.func69.trans (congrArg some (by kernel_rfl))⟩
    f14 := ⟨Try.f70.name, by decide, Try.func70.trans (congrArg some (by kernel_rfl))⟩
    f15 := ⟨Try.f71.name, by decide, Try.func71.trans (congrArg some (by kernel_rfl))⟩
    f16 := ⟨Try.f72.name, by decide, Try.func72.trans (congrArg some (by kernel_rfl))⟩
    f17 := ⟨Try.f73.name, by decide, Try.func73.trans (congrArg some (by kernel_rfl))⟩
    f18 := ⟨Try.f74.name, by decide, Try.func74.trans (congrArg some (by kernel_rfl))⟩
    f19 := Try.func75.trans (congrArg some (by kernel_rfl))
    f20 := Try.func76.trans (congrArg some (by kernel_rfl))
    f30 := ⟨Try.f77.name, by decide, Try.func77.trans (congrArg some (by kernel_rfl))⟩
    f31 := Try.func78.trans (congrArg some (by kernel_rfl))
    f32 := Try.func79.trans (congrArg some (by kernel_rfl))
    f33 := ⟨Try.f80.name, by decide, Try.func80.trans (congrArg some (by kernel_rfl))⟩
    f34 := ⟨Try.f81.name, by decide, Try.func81.trans (congrArg some (by kernel_rfl))⟩
    f35 := ⟨Try.f82.name, by decide, Try.func82.trans (congrArg some (by kernel_rfl))⟩
    f40 := ⟨Try.f83.name, by decide, Try.func83.trans (congrArg some (by kernel_rfl))⟩
    t0 := Try.underlying0
    a0 := Try.isAgg0
    z0 := Try.sizeOf0
    v0 := Try.zeroValue0
    t3 := Try.underlying3
    a3 := Try.isAgg3
    z3 := Try.sizeOf3
    v3 := Try.zeroValue3
    t4 := Try.underlying4
    a4 := Try.isAgg4
    z4 := Try.sizeOf4
    v4 := Try.zeroValue4
    t5 := Try.underlying5
    a5 := Try.isAgg5
    z5 := Try.sizeOf5
    v5 := Try.zeroValue5
    t9 := Try.underlying9
    a9 := Try.isAgg9
    z9 := Try.sizeOf9
    v9 := Try.zeroValue9
    t22 := Try.underlying23
    a22 := Try.isAgg23
    z22 := Try.sizeOf23
    v22 := Try.zeroValue23
    t23 := Try.underlying23
    a23 := Try.isAgg23
    z23 := Try.sizeOf23
    v23 := Try.zeroValue23
    t25 := Try.underlying3
    a25 := Try.isAgg3
    z25 := Try.sizeOf3
    v25 := Try.zeroValue3
    t32 := Try.underlying106
    a32 := Try.isAgg106
    z32 := Try.sizeOf106
    v32 := Try.zeroValue106
    t35 := Try.underlying108
    a35 := Try.isAgg108
    z35 := Try.sizeOf108
    v35 := Try.zeroValue108
    t36 := Try.underlying109
    a36 := Try.isAgg109
    z36 := Try.sizeOf109
    v36 := Try.zeroValue109
    t41 := Try.underlying97
    a41 := Try.isAgg97
    z41 := Try.sizeOf97
    v41 := Try.zeroValue97
    t44 := Try.underlying116
    a44 := Try.isAgg116
    z44 := Try.sizeOf116
    v44 := Try.zeroValue116
    t46 := Try.underlying118
    a46 := Try.isAgg118
    z46 := Try.sizeOf118
    v46 := Try.zeroValue118
    t53 := Try.underlying119
    a53 := Try.isAgg119
    z53 := Try.sizeOf119
    v53 := Try.zeroValue119
    t57 := Try.underlying123
    a57 := Try.isAgg123
    z57 := Try.sizeOf123
    v57 := Try.zeroValue123
    t63 := Try.underlying125
    a63 := Try.isAgg125
    z63 := Try.sizeOf125
    v63 := Try.zeroValue125
    t64 := Try.underlying126
    a64 := Try.isAgg126
    z64 := Try.sizeOf126
    v64 := Try.zeroValue126 }

theorem Try.sortsA (m : Nat) : AnyZI.SortsIn Try.prog Try.sortedA_ren Fence.wide m :=
  ⟨fun blk off cap ss W hH hblk hsz => callsIn_wide.2 (AnyM.slices_Sort_int Try.sortA blk off cap ss W hH hblk hsz),
   fun p cap W => callsIn_wide.2 (AnyM.slices_Sort_int_none Try.sortA p cap W)⟩
end Go.Proofs
namespace Go.Proofs.Ytapnhneddckfjaa
open Go Go.HL Go.RowKit Go.Maps Go.Sort Go.Shelf

def X : FuncId → Option (List HV → HS → Option (HV × HS))
  | 62 => some xMapClone
  | 54 => some (xKeys 61)
  | 53 => some (xSortedI 61)
  | _ => none

theorem ok53 : okF Try.prog 53 := ⟨_, Try.func53, by kernel_rfl, by kernel_rfl⟩
theorem ok54 : okF Try.prog 54 := ⟨_, Try.func54, by kernel_rfl, by kernel_rfl⟩

theorem keys54 {args : List HV} {hs : HS} {v : HV} {hs' : HS} (h : xKeys 61 args hs = some (v, hs')) : HCall Try.prog 54 args hs fun v1 hs1 => v1 = v ∧ hs1 = hs' :=
  xKeys_sound ok54 (fun mb w => (callsIn_wide (n := 5)).1 (AnyZI.keys_in Try.keysA Fence.wide 5 trivial rfl mb w)) h

theorem sorted53 {args : List HV} {hs : HS} {v : HV} {hs' : HS} (h : xSortedI 61 args hs = some (v, hs')) : HCall Try.prog 53 args hs fun v1 hs1 => v1 = v ∧ hs1 = hs' := by
  refine xSortedI_sound (kt := 3) ok53 Try.underlying3 (fun Bm b nn D0 R w hBm hm hown hsz => ?_) h
  have hseq : SeqGives Fence.wide 2 Try.prog 61 #[.pointer (some ⟨Bm, 0, none⟩)] encZ (fun ss => ss.Perm (intKeys D0)) (Maps.size D0) w :=
    AnyZI.keys_gives (ρ := Try.keysA_ren) { Try.keysA with } Fence.wide _ trivial rfl (by omega) Bm b nn D0 w hBm hm hown
  exact (callsIn_wide (n := 5)).1 (AnyZI.sorted_in Try.sortedA Fence.wide 5 trivial trivial trivial trivial rfl (by omega) (Try.sortsA _) (enters_of Try.func60 (by kernel_rfl) rfl) 61 #[.pointer (some ⟨Bm, 0, none⟩)] trivial (enters_of Try.func61 (by kernel_rfl) rfl) _ _ (by unfold maxLen; omega) (by omega) _ hseq)

theorem X_ok : XOk Try.prog X := by
  intro f g h
  unfold X at h
  split at h
  · simp at h; subst h; exact fun args hs v hs' h => xMapClone_sound Try.func62 (by kernel_rfl) (by kernel_rfl) (by kernel_rfl) (by kernel_rfl) h
  · simp at h; subst h; exact fun args hs v hs' h => keys54 h
  · simp at h; subst h; exact fun args hs v hs' h => sorted53 h
  · simp at h
end Go.Proofs.Ytapnhneddckfjaa
