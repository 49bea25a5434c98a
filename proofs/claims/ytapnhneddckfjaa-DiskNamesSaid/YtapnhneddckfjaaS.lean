/-
  maps.Keys and slices.Sorted at ints, laid off the shelf at this dump; what the evaluator takes of them.
-/
import Derived.Test.YtapnhneddckfjaaHLKeys
import Derived.Test.YtapnhneddckfjaaProg
import Derived.Shelf.SlIterI.Nil
import Derived.Shelf.SlIterI.Sorted
import Derived.Shelf.SortM.Plain
import Derived.Shelf.SortM.SortNone
import Derived.Ground.GgzProg
import Derived.Ground.SlgmProg
import Derived.KernelRfl
namespace Go.Proofs
open Go.RowKit Go.Maps Go.Sort Go.Shelf
shelf_lay_g SlLaysZI.n7 Ggz 7 at Try 54 as Try.keysA
shelf_lay_g SlLaysZI.n6 Ggz 6 at Try 53 as Try.sortedA
shelf_lay_g SlLaysM.n5 Slgm 5 at Try 60 as Try.sortA

theorem Try.sortsA (m : Nat) : AnyZI.SortsIn Try.prog Try.sortedA_ren Fence.wide m :=
  ⟨fun blk off cap ss W hH hblk hsz => callsIn_wide.2 (AnyM.slices_Sort_int Try.sortA blk off cap ss W hH hblk hsz),
   fun p cap W => callsIn_wide.2 (AnyM.slices_Sort_int_none Try.sortA p cap W)⟩
end Go.Proofs
namespace Go.Proofs.Ytapnhneddckfjaa
open Go Go.HL Go.RowKit Go.Maps Go.Sort Go.Shelf

def X : FuncId → Option (List HV → HS → Option (HV × HS))
  | 62 => some xMapClone
  | 54 => some (xKeys 61)
  | 53 => some (xSortedI 61)
  | _ => none

theorem ok53 : okF Try.prog 53 := ⟨_, Try.func53, by kernel_rfl, by kernel_rfl⟩
theorem ok54 : okF Try.prog 54 := ⟨_, Try.func54, by kernel_rfl, by kernel_rfl⟩

theorem keys54 {args : List HV} {hs : HS} {v : HV} {hs' : HS} (h : xKeys 61 args hs = some (v, hs')) : HCall Try.prog 54 args hs fun v1 hs1 => v1 = v ∧ hs1 = hs' :=
  xKeys_sound ok54 (fun mb w => (callsIn_wide (n := 5)).1 (AnyZI.keys_in Try.keysA Fence.wide 5 trivial rfl mb w)) h

theorem sorted53 {args : List HV} {hs : HS} {v : HV} {hs' : HS} (h : xSortedI 61 args hs = some (v, hs')) : HCall Try.prog 53 args hs fun v1 hs1 => v1 = v ∧ hs1 = hs' := by
  refine xSortedI_sound (kt := 3) ok53 Try.underlying3 (fun Bm b nn D0 R w hBm hm hown hsz => ?_) h
  have hseq : SeqGives Fence.wide 2 Try.prog 61 #[.pointer (some ⟨Bm, 0, none⟩)] encZ (fun ss => ss.Perm (intKeys D0)) (Maps.size D0) w :=
    AnyZI.keys_gives (ρ := Try.keysA_ren) { Try.keysA with } Fence.wide _ trivial rfl (by omega) Bm b nn D0 w hBm hm hown
  exact (callsIn_wide (n := 5)).1 (AnyZI.sorted_in Try.sortedA Fence.wide 5 trivial trivial trivial trivial rfl (by omega) (Try.sortsA _) (enters_of Try.func60 (by kernel_rfl) rfl) 61 #[.pointer (some ⟨Bm, 0, none⟩)] trivial (enters_of Try.func61 (by kernel_rfl) rfl) _ _ (by unfold maxLen; omega) (by omega) _ hseq)

theorem X_ok : XOk Try.prog X := by
  intro f g h
  unfold X at h
  split at h
  · simp at h; subst h; exact fun args hs v hs' h => xMapClone_sound Try.func62 (by kernel_rfl) (by kernel_rfl) (by kernel_rfl) (by kernel_rfl) h
  · simp at h; subst h; exact fun args hs v hs' h => keys54 h
  · simp at h; subst h; exact fun args hs v hs' h => sorted53 h
  · simp at h
end Go.Proofs.Ytapnhneddckfjaa
