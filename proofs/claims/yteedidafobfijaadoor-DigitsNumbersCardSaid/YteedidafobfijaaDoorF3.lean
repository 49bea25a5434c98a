import Derived.Test.YteedidafobfijaaDoorHLFun
import Derived.Test.YteedidafobfijaaDoorProg
import Derived.KernelRfl
/- The functions, turned (written by program, each checked by the kernel). -/
namespace Go.Proofs.YteedidafobfijaaDoor.P3
open Go Go.HL
/-- stint/stintlaw01.DigitsPrints -/
def h4 : HFn :=
  ⟨13, [(.tmp 2)],
    (.seq (.region [
      ⟨(some 2), (.op (.mv (.cst (.bool false)))), none⟩] [])
    (.seq (.region [
      ⟨(some 4), (.call (.cst (.func (.func 10) [] [])) []), none⟩,
      ⟨(some 3), (.op (.mv (.tmp 4))), none⟩] [])
    (.seq (.region [
      ⟨(some 5), (.op (.mv (.tmp 3))), none⟩,
      ⟨(some 6), (.op (.mv (.tmp 5))), none⟩,
      ⟨(some 7), (.op (.mv (.tmp 0))), (some (6, true))⟩,
      ⟨(some 8), (.call (.cst (.func (.func 13) [] [])) [(.tmp 7)]), (some (6, true))⟩,
      ⟨(some 9), (.op (.mv (.tmp 0))), (some (6, true))⟩,
      ⟨(some 10), (.call (.cst (.func (.func 14) [] [])) [(.tmp 9)]), (some (6, true))⟩,
      ⟨(some 11), (.op (.bin .eql (some .str) (.tmp 8) (.tmp 10))), (some (6, true))⟩,
      ⟨(some 12), (.op (.pick (.tmp 6) (.tmp 11) (.cst (.bool false)))), none⟩,
      ⟨(some 2), (.op (.mv (.tmp 12))), none⟩] [])
    .ret)))⟩
theorem c4 : cFn Tryd.prog [] Tryd.f4 = some h4 := by kernel_rfl
/-- stint/digits.Print -/
def h13 : HFn :=
  ⟨7, [(.tmp 2)],
    (.seq (.region [
      ⟨(some 2), (.op (.mv (.cst (.str [])))), none⟩] [])
    (.seq (.seq (.region [
      ⟨(some 3), (.op (.mv (.tmp 0))), none⟩,
      ⟨(some 4), (.op (.bin .lss none (.tmp 3) (.cst (.int .i64 0)))), none⟩] [])
    (.cond (.tmp 4)
      (.seq (.region [
        ⟨(some 2), (.op (.mv (.cst (.str [])))), none⟩] [])
      .ret)
      .skip))
    (.seq (.region [
      ⟨(some 5), (.op (.mv (.tmp 0))), none⟩,
      ⟨(some 6), (.call (.cst (.func (.func 24) [] [])) [(.tmp 5)]), none⟩,
      ⟨(some 2), (.op (.mv (.tmp 6))), none⟩] [])
    .ret)))⟩
theorem c13 : cFn Tryd.prog [] Tryd.f13 = some h13 := by kernel_rfl
/-- stint/stintref01.Print -/
def h14 : HFn :=
  ⟨25, [(.tmp 2)],
    (.seq (.region [
      ⟨(some 2), (.op (.mv (.cst (.str [])))), none⟩] [])
    (.seq (.seq (.region [
      ⟨(some 4), (.op (.mv (.tmp 0))), none⟩,
      ⟨(some 5), (.op (.bin .lss none (.tmp 4) (.cst (.int .i64 0)))), none⟩] [])
    (.cond (.tmp 5)
      (.seq (.region [
        ⟨(some 2), (.op (.mv (.cst (.str [])))), none⟩] [])
      .ret)
      .skip))
    (.seq (.region [
      ⟨(some 6), (.op (.mv (.tmp 0))), none⟩,
      ⟨(some 7), (.op (.bin .rem none (.tmp 6) (.cst (.int .i64 10)))), none⟩,
      ⟨(some 8), (.op (.bin .add none (.cst (.int .i64 48)) (.tmp 7))), none⟩,
      ⟨(some 9), (.op (.cInt .u8 (.tmp 8))), none⟩,
      ⟨(some 10), (.op (.bslice 1 1 [(.int .u8 0)] [(0, 1, (.tmp 9))])), none⟩,
      ⟨(some 11), (.op (.b2s (.tmp 10))), none⟩,
      ⟨(some 3), (.op (.mv (.tmp 11))), none⟩] [])
    (.seq (.block 0
      (.loop
        (.seq (.seq (.region [
          ⟨(some 12), (.op (.mv (.tmp 0))), none⟩,
          ⟨(some 13), (.op (.bin .geq none (.tmp 12) (.cst (.int .i64 10)))), none⟩] [])
        (.cond (.tmp 13)
          .skip
          (.exit 0)))
        (.block 1
          (.seq (.region [
            ⟨(some 14), (.op (.mv (.tmp 0))), none⟩,
            ⟨(some 15), (.op (.bin .quo none (.tmp 14) (.cst (.int .i64 10)))), none⟩,
            ⟨(some 0), (.op (.mv (.tmp 15))), none⟩] [])
          (.region [
            ⟨(some 16), (.op (.mv (.tmp 0))), none⟩,
            ⟨(some 17), (.op (.bin .rem none (.tmp 16) (.cst (.int .i64 10)))), none⟩,
            ⟨(some 18), (.op (.bin .add none (.cst (.int .i64 48)) (.tmp 17))), none⟩,
            ⟨(some 19), (.op (.cInt .u8 (.tmp 18))), none⟩,
            ⟨(some 20), (.op (.bslice 1 1 [(.int .u8 0)] [(0, 1, (.tmp 19))])), none⟩,
            ⟨(some 21), (.op (.b2s (.tmp 20))), none⟩,
            ⟨(some 22), (.op (.mv (.tmp 3))), none⟩,
            ⟨(some 23), (.op (.bin .add none (.tmp 21) (.tmp 22))), none⟩,
            ⟨(some 3), (.op (.mv (.tmp 23))), none⟩] []))))))
    (.seq (.region [
      ⟨(some 24), (.op (.mv (.tmp 3))), none⟩,
      ⟨(some 2), (.op (.mv (.tmp 24))), none⟩] [])
    .ret)))))⟩
theorem c14 : cFn Tryd.prog [] Tryd.f14 = some h14 := by kernel_rfl
def F : FuncId → Option HFn
  | 4 => some h4
  | 13 => some h13
  | 14 => some h14
  | _ => none
theorem F_ok : FOk Tryd.prog F := by
  intro f hf h
  unfold F at h
  split at h
  · simp at h; subst h; exact ⟨_, [], Tryd.func4, c4⟩
  · simp at h; subst h; exact ⟨_, [], Tryd.func13, c13⟩
  · simp at h; subst h; exact ⟨_, [], Tryd.func14, c14⟩
  · simp at h
end Go.Proofs.YteedidafobfijaaDoor.P3
