import Derived.Test.YteedidafobfijaaDoorHLFun
import Derived.Test.YteedidafobfijaaDoorProg
import Derived.KernelRfl
/- The functions, turned (written by program, each checked by the kernel). -/
namespace Go.Proofs.YteedidafobfijaaDoor.P4
open Go Go.HL
/-- stint/stintlaw01.DigitsNumbers -/
def h9 : HFn :=
  ⟨108, [(.tmp 6)],
    (.seq (.region [
      ⟨(some 6), (.op (.mv (.cst (.bool false)))), none⟩] [])
    (.seq (.region [
      ⟨(some 17), (.call (.cst (.func (.func 10) [] [])) []), none⟩,
      ⟨(some 7), (.op (.mv (.tmp 17))), none⟩] [])
    (.seq (.region [
      ⟨(some 18), (.op (.mv (.tmp 0))), none⟩,
      ⟨(some 19), (.call (.cst (.func (.func 13) [] [])) [(.tmp 18)]), none⟩,
      ⟨(some 8), (.op (.mv (.tmp 19))), none⟩] [])
    (.seq (.seq (.region [
      ⟨(some 20), (.op (.mv (.tmp 7))), none⟩,
      ⟨(some 21), (.op (.un .not (.tmp 20))), none⟩,
      ⟨(some 22), (.op (.mv (.tmp 21))), none⟩,
      ⟨(some 23), (.op (.mv (.tmp 0))), (some (22, false))⟩,
      ⟨(some 24), (.op (.bin .lss none (.tmp 23) (.cst (.int .i64 0)))), (some (22, false))⟩,
      ⟨(some 25), (.op (.pick (.tmp 22) (.cst (.bool true)) (.tmp 24))), none⟩] [])
    (.cond (.tmp 25)
      (.seq (.region [
        ⟨(some 26), (.op (.mv (.tmp 7))), none⟩,
        ⟨(some 27), (.op (.mv (.tmp 26))), none⟩,
        ⟨(some 28), (.op (.mv (.tmp 8))), (some (27, true))⟩,
        ⟨(some 29), (.op (.bin .eql (some .str) (.tmp 28) (.cst (.str [])))), (some (27, true))⟩,
        ⟨(some 30), (.op (.pick (.tmp 27) (.tmp 29) (.cst (.bool false)))), none⟩,
        ⟨(some 6), (.op (.mv (.tmp 30))), none⟩] [])
      .ret)
      .skip))
    (.seq (.seq (.region [
      ⟨(some 31), (.op (.mv (.tmp 2))), none⟩,
      ⟨(some 32), (.op (.bin .lss none (.tmp 31) (.cst (.int .i64 0)))), none⟩] [])
    (.cond (.tmp 32)
      (.region [
        ⟨(some 33), (.op (.mv (.tmp 2))), none⟩,
        ⟨(some 34), (.op (.bin .add none (.tmp 33) (.cst (.int .i64 1)))), none⟩,
        ⟨(some 35), (.op (.un .neg (.tmp 34))), none⟩,
        ⟨(some 2), (.op (.mv (.tmp 35))), none⟩] [])
      .skip))
    (.seq (.region [
      ⟨(some 36), (.op (.bslice 1 0 [] [])), none⟩,
      ⟨(some 9), (.op (.mv (.tmp 36))), none⟩] [])
    (.seq (.seq (.region [
      ⟨(some 10), (.op (.mv (.cst (.int .i64 0)))), none⟩] [])
    (.block 0
      (.loop
        (.seq (.seq (.region [
          ⟨(some 37), (.op (.mv (.tmp 10))), none⟩,
          ⟨(some 38), (.op (.mv (.tmp 2))), none⟩,
          ⟨(some 39), (.op (.bin .rem none (.tmp 38) (.cst (.int .i64 300)))), none⟩,
          ⟨(some 40), (.op (.bin .lss none (.tmp 37) (.tmp 39))), none⟩] [])
        (.cond (.tmp 40)
          .skip
          (.exit 0)))
        (.seq (.block 1
          (.region [
            ⟨(some 43), (.op (.mv (.tmp 9))), none⟩,
            ⟨(some 44), (.op (.bslice 1 1 [(.int .u8 0)] [(0, 1, (.cst (.int .u8 48)))])), none⟩,
            ⟨(some 45), (.op (.append 1 1 (.tmp 43) (.tmp 44))), none⟩,
            ⟨(some 9), (.op (.mv (.tmp 45))), none⟩] []))
        (.region [
          ⟨(some 41), (.op (.mv (.tmp 10))), none⟩,
          ⟨(some 42), (.op (.bin .add none (.tmp 41) (.cst (.int .i64 1)))), none⟩,
          ⟨(some 10), (.op (.mv (.tmp 42))), none⟩] []))))))
    (.seq (.region [
      ⟨(some 47), (.op (.mv (.tmp 9))), none⟩,
      ⟨(some 48), (.op (.b2s (.tmp 47))), none⟩,
      ⟨(some 49), (.op (.mv (.tmp 8))), none⟩,
      ⟨(some 50), (.op (.bin .add none (.tmp 48) (.tmp 49))), none⟩,
      ⟨(some 51), (.op (.mv (.tmp 1))), none⟩,
      ⟨(some 52), (.call (.cst (.func (.func 11) [] [])) [(.tmp 50), (.tmp 51)]), none⟩,
      ⟨(some 46), (.op (.mv (.tmp 52))), none⟩,
      ⟨(some 53), (.op (.ext 0 (.tmp 46))), none⟩,
      ⟨(some 54), (.op (.ext 1 (.tmp 46))), none⟩,
      ⟨(some 11), (.op (.mv (.tmp 53))), none⟩,
      ⟨(some 12), (.op (.mv (.tmp 54))), none⟩] [])
    (.seq (.region [
      ⟨(some 56), (.op (.mv (.tmp 8))), none⟩,
      ⟨(some 57), (.op (.mv (.tmp 0))), none⟩,
      ⟨(some 58), (.call (.cst (.func (.func 11) [] [])) [(.tmp 56), (.tmp 57)]), none⟩,
      ⟨(some 55), (.op (.mv (.tmp 58))), none⟩,
      ⟨(some 59), (.op (.ext 0 (.tmp 55))), none⟩,
      ⟨(some 60), (.op (.ext 1 (.tmp 55))), none⟩,
      ⟨(some 13), (.op (.mv (.tmp 59))), none⟩,
      ⟨(some 14), (.op (.mv (.tmp 60))), none⟩] [])
    (.seq (.region [
      ⟨(some 62), (.op (.mv (.tmp 8))), none⟩,
      ⟨(some 63), (.op (.mv (.tmp 0))), none⟩,
      ⟨(some 64), (.op (.bin .sub none (.tmp 63) (.cst (.int .i64 1)))), none⟩,
      ⟨(some 65), (.call (.cst (.func (.func 11) [] [])) [(.tmp 62), (.tmp 64)]), none⟩,
      ⟨(some 61), (.op (.mv (.tmp 65))), none⟩,
      ⟨(some 66), (.op (.ext 0 (.tmp 61))), none⟩,
      ⟨(some 67), (.op (.ext 1 (.tmp 61))), none⟩,
      ⟨(some 15), (.op (.mv (.tmp 66))), none⟩,
      ⟨(some 16), (.op (.mv (.tmp 67))), none⟩] [])
    (.seq (.seq (.region [
      ⟨(some 68), (.op (.mv (.tmp 12))), none⟩] [])
    (.cond (.tmp 68)
      (.seq (.region [
        ⟨(some 69), (.op (.mv (.tmp 11))), none⟩,
        ⟨(some 70), (.op (.mv (.tmp 0))), none⟩,
        ⟨(some 71), (.op (.bin .eql (some .int) (.tmp 69) (.tmp 70))), none⟩,
        ⟨(some 72), (.op (.mv (.tmp 71))), none⟩,
        ⟨(some 73), (.op (.mv (.tmp 0))), (some (72, true))⟩,
        ⟨(some 74), (.op (.mv (.tmp 1))), (some (72, true))⟩,
        ⟨(some 75), (.op (.bin .leq none (.tmp 73) (.tmp 74))), (some (72, true))⟩,
        ⟨(some 76), (.op (.pick (.tmp 72) (.tmp 75) (.cst (.bool false)))), none⟩,
        ⟨(some 77), (.op (.mv (.tmp 76))), none⟩,
        ⟨(some 78), (.op (.mv (.tmp 13))), (some (77, true))⟩,
        ⟨(some 79), (.op (.mv (.tmp 0))), (some (77, true))⟩,
        ⟨(some 80), (.op (.bin .eql (some .int) (.tmp 78) (.tmp 79))), (some (77, true))⟩,
        ⟨(some 81), (.op (.pick (.tmp 77) (.tmp 80) (.cst (.bool false)))), none⟩,
        ⟨(some 82), (.op (.mv (.tmp 81))), none⟩,
        ⟨(some 83), (.op (.mv (.tmp 14))), (some (82, true))⟩,
        ⟨(some 84), (.op (.pick (.tmp 82) (.tmp 83) (.cst (.bool false)))), none⟩,
        ⟨(some 85), (.op (.mv (.tmp 84))), none⟩,
        ⟨(some 86), (.op (.mv (.tmp 16))), (some (85, true))⟩,
        ⟨(some 87), (.op (.un .not (.tmp 86))), (some (85, true))⟩,
        ⟨(some 88), (.op (.pick (.tmp 85) (.tmp 87) (.cst (.bool false)))), none⟩,
        ⟨(some 6), (.op (.mv (.tmp 88))), none⟩] [])
      .ret)
      .skip))
    (.seq (.region [
      ⟨(some 89), (.op (.mv (.tmp 11))), none⟩,
      ⟨(some 90), (.op (.bin .eql (some .int) (.tmp 89) (.cst (.int .i64 0)))), none⟩,
      ⟨(some 91), (.op (.mv (.tmp 90))), none⟩,
      ⟨(some 92), (.op (.mv (.tmp 0))), (some (91, true))⟩,
      ⟨(some 93), (.op (.mv (.tmp 1))), (some (91, true))⟩,
      ⟨(some 94), (.op (.bin .gtr none (.tmp 92) (.tmp 93))), (some (91, true))⟩,
      ⟨(some 95), (.op (.pick (.tmp 91) (.tmp 94) (.cst (.bool false)))), none⟩,
      ⟨(some 96), (.op (.mv (.tmp 95))), none⟩,
      ⟨(some 97), (.op (.mv (.tmp 13))), (some (96, true))⟩,
      ⟨(some 98), (.op (.mv (.tmp 0))), (some (96, true))⟩,
      ⟨(some 99), (.op (.bin .eql (some .int) (.tmp 97) (.tmp 98))), (some (96, true))⟩,
      ⟨(some 100), (.op (.pick (.tmp 96) (.tmp 99) (.cst (.bool false)))), none⟩,
      ⟨(some 101), (.op (.mv (.tmp 100))), none⟩,
      ⟨(some 102), (.op (.mv (.tmp 14))), (some (101, true))⟩,
      ⟨(some 103), (.op (.pick (.tmp 101) (.tmp 102) (.cst (.bool false)))), none⟩,
      ⟨(some 104), (.op (.mv (.tmp 103))), none⟩,
      ⟨(some 105), (.op (.mv (.tmp 16))), (some (104, true))⟩,
      ⟨(some 106), (.op (.un .not (.tmp 105))), (some (104, true))⟩,
      ⟨(some 107), (.op (.pick (.tmp 104) (.tmp 106) (.cst (.bool false)))), none⟩,
      ⟨(some 6), (.op (.mv (.tmp 107))), none⟩] [])
    .ret))))))))))))⟩
theorem c9 : cFn Tryd.prog [] Tryd.f9 = some h9 := by kernel_rfl
def F : FuncId → Option HFn
  | 9 => some h9
  | _ => none
theorem F_ok : FOk Tryd.prog F := by
  intro f hf h
  unfold F at h
  split at h
  · simp at h; subst h; exact ⟨_, [], Tryd.func9, c9⟩
  · simp at h
end Go.Proofs.YteedidafobfijaaDoor.P4
