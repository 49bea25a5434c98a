/-
  maps.Keys and slices.Sorted at ints, laid off the shelf at this dump; what the evaluator takes of them.
-/
import Derived.Test.YtajommomdpcmeaaHLKeys
import Derived.Test.YtajommomdpcmeaaProg
import Derived.Shelf.SlIterI.Nil
import Derived.Shelf.SlIterI.Sorted
import Derived.Shelf.SortM.Plain
import Derived.Shelf.SortM.SortNone
import Derived.Ground.GgzProg
import Derived.Ground.SlgmProg
import Derived.KernelRfl
namespace Go.Proofs
open Go.RowKit Go.Maps Go.Sort Go.Shelf
def Try.keysA_ren : Go.Shelf.Ren := ⟨fun | 7 => 26 | 10 => 45 | n => n, fun | 23 => 60 | 26 => 3 | 3 => 62 | 28 => 58 | 0 => 0 | 27 => 57 | 33 => 91 | 4 => 4 | n => n, fun | n => n⟩
theorem Try.keysA : Go.Proofs.SlLaysZI.n7 Try.prog Try.keysA_ren :=
  { mixed := by kernel_rfl
    f7 := ⟨Try.f26.name, by decide, Try.func26.trans (congrArg some (by kernel_rfl))⟩
    f10 := ⟨Try.f45.name, by decide, Try.func45.trans (congrArg some (by kernel_rfl))⟩
    t0 := Try.underlying0
    a0 := Try.isAgg0
    z0 := Try.sizeOf0
    v0 := Try.zeroValue0
    t4 := Try.underlying4
    a4 := Try.isAgg4
    z4 := Try.sizeOf4
    v4 := Try.zeroValue4
    t23 := Try.underlying60
    a23 := Try.isAgg60
    z23 := Try.sizeOf60
    v23 := Try.zeroValue60
    t26 := Try.underlying3
    a26 := Try.isAgg3
    z26 := Try.sizeOf3
    v26 := Try.zeroValue3
    t27 := Try.underlying57
    a27 := Try.isAgg57
    z27 := Try.sizeOf57
    v27 := Try.zeroValue57
    t28 := Try.underlying58
    a28 := Try.isAgg58
    z28 := Try.sizeOf58
    v28 := Try.zeroValue58
    t33 := Try.underlying91
    a33 := Try.isAgg91
    z33 := Try.sizeOf91
    v33 := Try.zeroValue91 }
def Try.sortedA_ren : Go.Shelf.Ren := ⟨fun | 6 => 25 | 8 => 43 | 9 => 44 | 11 => 65 | 13 => 67 | 12 => 66 | 23 => 83 | 24 => 84 | 14 => 74 | 15 => 75 | 16 => 76 | 17 => 77 | 18 => 78 | 19 => 79 | 20 => 80 | 21 => 81 | 22 => 82 | 25 => 97 | 26 => 98 | 27 => 99 | 28 => 100 | 29 => 101 | 30 => 102 | 31 => 108 | n => n, fun | 26 => 3 | 28 => 58 | 24 => 43 | 0 => 0 | 3 => 3 | 37 => 122 | 48 => 137 | 50 => 139 | 4 => 4 | 40 => 130 | 39 => 129 | 45 => 126 | 5 => 5 | 9 => 9 | 51 => 147 | 55 => 151 | 57 => 155 | 58 => 156 | 33 => 91 | n => n, fun | n => n⟩
theorem Try.sortedA : Go.Proofs.SlLaysZI.n6 Try.prog Try.sortedA_ren :=
  { mixed := by kernel_rfl
    f6 := ⟨Try.f25.name, by decide, Try.func25.trans (congrArg some (by kernel_rfl))⟩
    f8 := ⟨Try.f43.name, by decide, Try.func43.trans (congrArg some (by kernel_rfl))⟩
    f11 := ⟨Try.f65.name, by decide, Try.func65.trans (congrArg some (by kernel_rfl))⟩
    t0 := Try.underlying0
    a0 := Try.isAgg0
    z0 := Try.sizeOf0
    v0 := Try.zeroValue0
    t24 := Try.underlying43
    a24 := Try.isAgg43
    z24 := Try.sizeOf43
    v24 := Try.zeroValue43
    t26 := Try.underlying3
    a26 := Try.isAgg3
    z26 := Try.sizeOf3
    v26 := Try.zeroValue3
    t28 := Try.underlying58
    a28 := Try.isAgg58
    z28 := Try.sizeOf58
    v28 := Try.zeroValue58
    i26 := by kernel_rfl }
def Try.sortA_ren : Go.Shelf.Ren := ⟨fun | 5 => 44 | 8 => 67 | 7 => 66 | 19 => 83 | 20 => 84 | 10 => 74 | 11 => 75 | 12 => 76 | 13 => 77 | 14 => 78 | 15 => 79 | 16 => 80 | 17 => 81 | 18 => 82 | 30 => 97 | 31 => 98 | 32 => 99 | 33 => 100 | 34 => 101 | 35 => 102 | 40 => 108 | n => n, fun | 23 => 43 | 25 => 3 | 3 => 3 | 32 => 122 | 22 => 43 | 0 => 0 | 44 => 137 | 46 => 139 | 4 => 4 | 36 => 130 | 35 => 129 | 41 => 126 | 5 => 5 | 9 => 9 | 53 => 147 | 57 => 151 | 63 => 155 | 64 => 156 | n => n, fun | n => n⟩
theorem Try.sortA : Go.Proofs.SlLaysM.n5 Try.prog Try.sortA_ren :=
  { mixed := by kernel_rfl
    f5 := ⟨Try.f44.name, by decide, Try.func44.trans (congrArg some (by kernel_rfl))⟩
    f7 := ⟨Try.f66.name, by decide, Try.func66.trans (congrArg some (by kernel_rfl))⟩
    f8 := Try.func67.trans (congrArg some (by kernel_rfl))
    f10 := ⟨Try.f74.name, by decide, Try.func74.trans (congrArg some (by kernel_rfl))⟩
    f11 := ⟨Try.f75.name, by decide, Try.func75.trans (congrArg some (by kernel_rfl))⟩
    f12 := ⟨Try.f76.name, by decide, Try.func76.trans (congrArg some (by kernel_rfl))⟩
    f13 := ⟨Try.f77.name, by decide, Try.func77.trans (congrArg some (by kernel_rfl))⟩
    f14 := ⟨Try.f78.name, by decide, Try.func78.trans (congrArg some (by kernel_rfl))⟩
    f15 := ⟨Try.f79.name, by decide, Try.func79.trans (congrArg some (by kernel_rfl))⟩
    f16 := ⟨Try.f80.name, by decide, Try.func80.trans (congrArg some (by kernel_rfl))⟩
    f17 := ⟨Try.f81.name, by decide, Try.func81.trans (congrArg some (by kernel_rfl))⟩
    f18 := ⟨Try.f82.name, by decide, Try.func82.trans (congrArg some (by kernel_rfl))⟩
    f19 := Try.func83.trans (congrArg some (by kernel_rfl))
    f20 := Try.func84.trans (congrArg some (by kernel_rfl))
    f30 := ⟨Try.f97.name, by decide, Try.func97.trans (congrArg some (by kernel_rfl))⟩
    f31 := Try.func98.trans (congrArg some (by kernel_rfl))
    f32 := Try.func99.trans (congrArg some (by kernel_rfl))
    f33 := ⟨Try.f100.name, by decide, Try.func100.trans (congrArg some (by kernel_rfl))⟩
    f34 := ⟨Try.f101.name, by decide, Try.func101.trans (congrArg some (by kernel_rfl))⟩
    f35 := ⟨Try.f102.name, by decide, Try.func102.trans (congrArg some (by kernel_rfl))⟩
    f40 := ⟨Try.f108.name, by decide, Try.func108.trans (congrArg some (by kernel_rfl))⟩
    t0 := Try.underlying0
    a0 := Try.isAgg0
    z0 := Try.sizeOf0
    v0 := Try.zeroValue0
    t3 := Try.underlying3
    a3 := Try.isAgg3
    z3 := Try.sizeOf3
    v3 := Try.zeroValue3
    t4 := Try.underlying4
    a4 := Try.isAgg4
    z4 := Try.sizeOf4
    v4 := Try.zeroValue4
    t5 := Try.underlying5
    a5 := Try.isAgg5
    z5 := Try.sizeOf5
    v5 := Try.zeroValue5
    t9 := Try.underlying9
    a9 := Try.isAgg9
    z9 := Try.sizeOf9
    v9 := Try.zeroValue9
    t22 := Try.underlying43
    a22 := Try.isAgg43
    z22 := Try.sizeOf43
    v22 := Try.zeroValue43
    t23 := Try.underlying43
    a23 := Try.isAgg43
    z23 := Try.sizeOf43
    v23 := Try.zeroValue43
    t25 := Try.underlying3
    a25 := Try.isAgg3
    z25 := Try.sizeOf3
    v25 := Try.zeroValue3
    t32 := Try.underlying122
    a32 := Try.isAgg122
    z32 := Try.sizeOf122
    v32 := Try.zeroValue122
    t35 := Try.underlying129
    a35 := Try.isAgg129
    z35 := Try.sizeOf129
    v35 := Try.zeroValue129
    t36 := Try.underlying130
    a36 := Try.isAgg130
    z36 := Try.sizeOf130
    v36 := Try.zeroValue130
    t41 := Try.underlying126
    a41 := Try.isAgg126
    z41 := Try.sizeOf126
    v41 := Try.zeroValue126
    t44 := Try.underlying137
    a44 := Try.isAgg137
    z44 := Try.sizeOf137
    v44 := Try.zeroValue137
    t46 := Try.underlying139
    a46 := Try.isAgg139
    z46 := Try.sizeOf139
    v46 := Try.zeroValue139
    t53 := Try.underlying147
    a53 := Try.isAgg147
    z53 := Try.sizeOf147
    v53 := Try.zeroValue147
    t57 := Try.underlying151
    a57 := Try.isAgg151
    z57 := Try.sizeOf151
    v57 := Try.zeroValue151
    t63 := Try.underlying155
    a63 := Try.isAgg155
    z63 := Try.sizeOf155
    v63 := Try.zeroValue155
    t64 := Try.underlying156
    a64 := Try.isAgg156
    z64 := Try.sizeOf156
    v64 := Try.zeroValue156 }

theorem Try.sortsA (m : Nat) : AnyZI.SortsIn Try.prog Try.sortedA_ren Fence.wide m :=
  ⟨fun blk off cap ss W hH hblk hsz => callsIn_wide.2 (AnyM.slices_Sort_int Try.sortA blk off cap ss W hH hblk hsz),
   fun p cap W => callsIn_wide.2 (AnyM.slices_Sort_int_none Try.sortA p cap W)⟩
end Go.Proofs
namespace Go.Proofs.Ytajommomdpcmeaa
open Go Go.HL Go.RowKit Go.Maps Go.Sort Go.Shelf

def X : FuncId → Option (List HV → HS → Option (HV × HS))
  | 59 => some xMapClone
  | 26 => some (xKeys 45)
  | 25 => some (xSortedI 45)
  | _ => none

theorem ok25 : okF Try.prog 25 := ⟨_, Try.func25, by kernel_rfl, by kernel_rfl⟩
theorem ok26 : okF Try.prog 26 := ⟨_, Try.func26, by kernel_rfl, by kernel_rfl⟩

theorem keys26 {args : List HV} {hs : HS} {v : HV} {hs' : HS} (h : xKeys 45 args hs = some (v, hs')) : HCall Try.prog 26 args hs fun v1 hs1 => v1 = v ∧ hs1 = hs' :=
  xKeys_sound ok26 (fun mb w => (callsIn_wide (n := 5)).1 (AnyZI.keys_in Try.keysA Fence.wide 5 trivial rfl mb w)) h

theorem sorted25 {args : List HV} {hs : HS} {v : HV} {hs' : HS} (h : xSortedI 45 args hs = some (v, hs')) : HCall Try.prog 25 args hs fun v1 hs1 => v1 = v ∧ hs1 = hs' := by
  refine xSortedI_sound (kt := 3) ok25 Try.underlying3 (fun Bm b nn D0 R w hBm hm hown hsz => ?_) h
  have hseq : SeqGives Fence.wide 2 Try.prog 45 #[.pointer (some ⟨Bm, 0, none⟩)] encZ (fun ss => ss.Perm (intKeys D0)) (Maps.size D0) w :=
    AnyZI.keys_gives (ρ := Try.keysA_ren) { Try.keysA with } Fence.wide _ trivial rfl (by omega) Bm b nn D0 w hBm hm hown
  exact (callsIn_wide (n := 5)).1 (AnyZI.sorted_in Try.sortedA Fence.wide 5 trivial trivial trivial trivial rfl (by omega) (Try.sortsA _) (enters_of Try.func44 (by kernel_rfl) rfl) 45 #[.pointer (some ⟨Bm, 0, none⟩)] trivial (enters_of Try.func45 (by kernel_rfl) rfl) _ _ (by unfold maxLen; omega) (by omega) _ hseq)

theorem X_ok : XOk Try.prog X := by
  intro f g h
  unfold X at h
  split at h
  · simp at h; subst h; exact fun args hs v hs' h => xMapClone_sound Try.func59 (by kernel_rfl) (by kernel_rfl) (by kernel_rfl) (by kernel_rfl) h
  · simp at h; subst h; exact fun args hs v hs' h => keys26 h
  · simp at h; subst h; exact fun args hs v hs' h => sorted25 h
  · simp at h
end Go.Proofs.Ytajommomdpcmeaa
