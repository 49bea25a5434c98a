import Derived.Test.YteedidafobfijaaDoorHLFun
import Derived.Test.YteedidafobfijaaDoorProg
import Derived.KernelRfl
/- The functions, turned (written by program, each checked by the kernel). -/
namespace Go.Proofs.YteedidafobfijaaDoor
open Go Go.HL
/-- stint/stintlaw01.DigitsWords -/
def h5 : HFn :=
  ⟨13, [(.tmp 2)],
    (.seq (.region [
      ⟨(some 2), (.op (.mv (.cst (.bool false)))), none⟩] [])
    (.seq (.region [
      ⟨(some 4), (.call (.cst (.func (.func 10) [] [])) []), none⟩,
      ⟨(some 3), (.op (.mv (.tmp 4))), none⟩] [])
    (.seq (.region [
      ⟨(some 5), (.op (.mv (.tmp 3))), none⟩,
      ⟨(some 6), (.op (.mv (.tmp 5))), none⟩,
      ⟨(some 7), (.op (.mv (.tmp 0))), (some (6, true))⟩,
      ⟨(some 8), (.call (.cst (.func (.func 15) [] [])) [(.tmp 7)]), (some (6, true))⟩,
      ⟨(some 9), (.op (.mv (.tmp 0))), (some (6, true))⟩,
      ⟨(some 10), (.call (.cst (.func (.func 16) [] [])) [(.tmp 9)]), (some (6, true))⟩,
      ⟨(some 11), (.op (.bin .eql (some .bool) (.tmp 8) (.tmp 10))), (some (6, true))⟩,
      ⟨(some 12), (.op (.pick (.tmp 6) (.tmp 11) (.cst (.bool false)))), none⟩,
      ⟨(some 2), (.op (.mv (.tmp 12))), none⟩] [])
    .ret)))⟩
theorem c5 : cFn Tryd.prog [] Tryd.f5 = some h5 := by kernel_rfl
/-- stint/stintlaw01.shown -/
def h10 : HFn :=
  ⟨69, [(.tmp 0)],
    (.seq (.region [
      ⟨(some 0), (.op (.mv (.cst (.bool false)))), none⟩] [])
    (.seq (.region [
      ⟨(some 10), (.call (.cst (.func (.func 11) [] [])) [(.cst (.str [48, 48, 55])), (.cst (.int .i64 7))]), none⟩,
      ⟨(some 9), (.op (.mv (.tmp 10))), none⟩,
      ⟨(some 11), (.op (.ext 0 (.tmp 9))), none⟩,
      ⟨(some 12), (.op (.ext 1 (.tmp 9))), none⟩,
      ⟨(some 1), (.op (.mv (.tmp 11))), none⟩,
      ⟨(some 2), (.op (.mv (.tmp 12))), none⟩] [])
    (.seq (.region [
      ⟨(some 14), (.call (.cst (.func (.func 11) [] [])) [(.cst (.str [52, 50])), (.cst (.int .i64 41))]), none⟩,
      ⟨(some 13), (.op (.mv (.tmp 14))), none⟩,
      ⟨(some 15), (.op (.ext 0 (.tmp 13))), none⟩,
      ⟨(some 16), (.op (.ext 1 (.tmp 13))), none⟩,
      ⟨(some 3), (.op (.mv (.tmp 15))), none⟩,
      ⟨(some 4), (.op (.mv (.tmp 16))), none⟩] [])
    (.seq (.region [
      ⟨(some 18), (.call (.cst (.func (.func 23) [] [])) [(.cst (.str [112, 117, 116, 32, 49, 32, 50]))]), none⟩,
      ⟨(some 17), (.op (.mv (.tmp 18))), none⟩,
      ⟨(some 19), (.op (.ext 0 (.tmp 17))), none⟩,
      ⟨(some 20), (.op (.ext 1 (.tmp 17))), none⟩,
      ⟨(some 5), (.op (.mv (.tmp 19))), none⟩,
      ⟨(some 6), (.op (.mv (.tmp 20))), none⟩] [])
    (.seq (.region [
      ⟨(some 22), (.op (.bslice 1 2 [(.str []), (.str [])] [(0, 1, (.cst (.str [112, 117, 116]))), (1, 1, (.cst (.str [49])))])), none⟩,
      ⟨(some 23), (.call (.cst (.func (.func 20) [] [])) [(.tmp 22)]), none⟩,
      ⟨(some 21), (.op (.mv (.tmp 23))), none⟩,
      ⟨(some 24), (.op (.ext 0 (.tmp 21))), none⟩,
      ⟨(some 25), (.op (.ext 1 (.tmp 21))), none⟩,
      ⟨(some 7), (.op (.mv (.tmp 24))), none⟩,
      ⟨(some 8), (.op (.mv (.tmp 25))), none⟩] [])
    (.seq (.region [
      ⟨(some 26), (.op (.mv (.tmp 1))), none⟩,
      ⟨(some 27), (.op (.bin .eql (some .int) (.tmp 26) (.cst (.int .i64 7)))), none⟩,
      ⟨(some 28), (.op (.mv (.tmp 27))), none⟩,
      ⟨(some 29), (.op (.mv (.tmp 2))), (some (28, true))⟩,
      ⟨(some 30), (.op (.pick (.tmp 28) (.tmp 29) (.cst (.bool false)))), none⟩,
      ⟨(some 31), (.op (.mv (.tmp 30))), none⟩,
      ⟨(some 32), (.op (.mv (.tmp 4))), (some (31, true))⟩,
      ⟨(some 33), (.op (.un .not (.tmp 32))), (some (31, true))⟩,
      ⟨(some 34), (.op (.pick (.tmp 31) (.tmp 33) (.cst (.bool false)))), none⟩,
      ⟨(some 35), (.op (.mv (.tmp 34))), none⟩,
      ⟨(some 36), (.call (.cst (.func (.func 13) [] [])) [(.cst (.int .i64 120))]), (some (35, true))⟩,
      ⟨(some 37), (.op (.bin .eql (some .str) (.tmp 36) (.cst (.str [49, 50, 48])))), (some (35, true))⟩,
      ⟨(some 38), (.op (.pick (.tmp 35) (.tmp 37) (.cst (.bool false)))), none⟩,
      ⟨(some 39), (.op (.mv (.tmp 38))), none⟩,
      ⟨(some 40), (.call (.cst (.func (.func 15) [] [])) [(.cst (.str [97]))]), (some (39, true))⟩,
      ⟨(some 41), (.op (.pick (.tmp 39) (.tmp 40) (.cst (.bool false)))), none⟩,
      ⟨(some 42), (.op (.mv (.tmp 41))), none⟩,
      ⟨(some 43), (.op (.mv (.tmp 6))), (some (42, true))⟩,
      ⟨(some 44), (.op (.pick (.tmp 42) (.tmp 43) (.cst (.bool false)))), none⟩,
      ⟨(some 45), (.op (.mv (.tmp 44))), none⟩,
      ⟨(some 46), (.op (.mv (.tmp 5))), (some (45, true))⟩,
      ⟨(some 47), (.op (.len .slice (.tmp 46))), (some (45, true))⟩,
      ⟨(some 48), (.op (.bin .eql (some .int) (.tmp 47) (.cst (.int .i64 3)))), (some (45, true))⟩,
      ⟨(some 49), (.op (.pick (.tmp 45) (.tmp 48) (.cst (.bool false)))), none⟩,
      ⟨(some 50), (.op (.mv (.tmp 49))), none⟩,
      ⟨(some 51), (.op (.mv (.tmp 5))), (some (50, true))⟩,
      ⟨(some 52), (.op (.idxS 1 (.tmp 51) (.cst (.int .i64 0)))), (some (50, true))⟩,
      ⟨(some 53), (.op (.load none (.tmp 52))), (some (50, true))⟩,
      ⟨(some 54), (.op (.bin .eql (some .str) (.tmp 53) (.cst (.str [112, 117, 116])))), (some (50, true))⟩,
      ⟨(some 55), (.op (.pick (.tmp 50) (.tmp 54) (.cst (.bool false)))), none⟩,
      ⟨(some 56), (.op (.mv (.tmp 55))), none⟩,
      ⟨(some 57), (.op (.mv (.tmp 5))), (some (56, true))⟩,
      ⟨(some 58), (.op (.idxS 1 (.tmp 57) (.cst (.int .i64 2)))), (some (56, true))⟩,
      ⟨(some 59), (.op (.load none (.tmp 58))), (some (56, true))⟩,
      ⟨(some 60), (.op (.bin .eql (some .str) (.tmp 59) (.cst (.str [50])))), (some (56, true))⟩,
      ⟨(some 61), (.op (.pick (.tmp 56) (.tmp 60) (.cst (.bool false)))), none⟩,
      ⟨(some 62), (.op (.mv (.tmp 61))), none⟩,
      ⟨(some 63), (.op (.mv (.tmp 7))), (some (62, true))⟩,
      ⟨(some 64), (.op (.bin .eql (some .str) (.tmp 63) (.cst (.str [112, 117, 116, 32, 49])))), (some (62, true))⟩,
      ⟨(some 65), (.op (.pick (.tmp 62) (.tmp 64) (.cst (.bool false)))), none⟩,
      ⟨(some 66), (.op (.mv (.tmp 65))), none⟩,
      ⟨(some 67), (.op (.mv (.tmp 8))), (some (66, true))⟩,
      ⟨(some 68), (.op (.pick (.tmp 66) (.tmp 67) (.cst (.bool false)))), none⟩,
      ⟨(some 0), (.op (.mv (.tmp 68))), none⟩] [])
    .ret))))))⟩
theorem c10 : cFn Tryd.prog [] Tryd.f10 = some h10 := by kernel_rfl
/-- stint/digits.Parse -/
def h11 : HFn :=
  ⟨47, [(.tmp 4), (.tmp 5)],
    (.seq (.region [
      ⟨(some 4), (.op (.mv (.cst (.int .i64 0)))), none⟩,
      ⟨(some 5), (.op (.mv (.cst (.bool false)))), none⟩] [])
    (.seq (.seq (.region [
      ⟨(some 10), (.op (.mv (.tmp 0))), none⟩,
      ⟨(some 11), (.op (.bin .eql (some .str) (.tmp 10) (.cst (.str [])))), none⟩,
      ⟨(some 12), (.op (.mv (.tmp 11))), none⟩,
      ⟨(some 13), (.op (.mv (.tmp 1))), (some (12, false))⟩,
      ⟨(some 14), (.op (.bin .lss none (.tmp 13) (.cst (.int .i64 0)))), (some (12, false))⟩,
      ⟨(some 15), (.op (.pick (.tmp 12) (.cst (.bool true)) (.tmp 14))), none⟩] [])
    (.cond (.tmp 15)
      (.seq (.region [
        ⟨(some 4), (.op (.mv (.cst (.int .i64 0)))), none⟩,
        ⟨(some 5), (.op (.mv (.cst (.bool false)))), none⟩] [])
      .ret)
      .skip))
    (.seq (.region [
      ⟨(some 6), (.op (.mv (.cst (.int .i64 0)))), none⟩] [])
    (.seq (.seq (.region [
      ⟨(some 16), (.op (.mv (.tmp 0))), none⟩,
      ⟨(some 17), (.op (.rangeStr (.tmp 16))), none⟩] [])
    (.block 0
      (.loop
        (.seq (.region [
          ⟨(some 18), (.op (.nextStr (.tmp 17))), none⟩,
          ⟨(some 19), (.op (.ext 0 (.tmp 18))), none⟩] [])
        (.seq (.cond (.tmp 19)
          .skip
          (.exit 0))
        (.block 1
          (.seq (.region [
            ⟨(some 20), (.op (.ext 2 (.tmp 18))), none⟩,
            ⟨(some 8), (.op (.mv (.tmp 20))), none⟩] [])
          (.seq (.seq (.region [
            ⟨(some 21), (.op (.mv (.tmp 8))), none⟩,
            ⟨(some 22), (.op (.bin .lss none (.tmp 21) (.cst (.int .i32 48)))), none⟩,
            ⟨(some 23), (.op (.mv (.tmp 22))), none⟩,
            ⟨(some 24), (.op (.mv (.tmp 8))), (some (23, false))⟩,
            ⟨(some 25), (.op (.bin .gtr none (.tmp 24) (.cst (.int .i32 57)))), (some (23, false))⟩,
            ⟨(some 26), (.op (.pick (.tmp 23) (.cst (.bool true)) (.tmp 25))), none⟩] [])
          (.cond (.tmp 26)
            (.seq (.region [
              ⟨(some 4), (.op (.mv (.cst (.int .i64 0)))), none⟩,
              ⟨(some 5), (.op (.mv (.cst (.bool false)))), none⟩] [])
            .ret)
            .skip))
          (.seq (.region [
            ⟨(some 27), (.op (.mv (.tmp 8))), none⟩,
            ⟨(some 28), (.op (.bin .sub none (.tmp 27) (.cst (.int .i32 48)))), none⟩,
            ⟨(some 29), (.op (.cInt .i64 (.tmp 28))), none⟩,
            ⟨(some 9), (.op (.mv (.tmp 29))), none⟩] [])
          (.seq (.seq (.region [
            ⟨(some 30), (.op (.mv (.tmp 6))), none⟩,
            ⟨(some 31), (.op (.mv (.tmp 1))), none⟩,
            ⟨(some 32), (.op (.bin .quo none (.tmp 31) (.cst (.int .i64 10)))), none⟩,
            ⟨(some 33), (.op (.bin .gtr none (.tmp 30) (.tmp 32))), none⟩,
            ⟨(some 34), (.op (.mv (.tmp 33))), none⟩,
            ⟨(some 35), (.op (.mv (.tmp 6))), (some (34, false))⟩,
            ⟨(some 36), (.op (.bin .mul none (.tmp 35) (.cst (.int .i64 10)))), (some (34, false))⟩,
            ⟨(some 37), (.op (.mv (.tmp 1))), (some (34, false))⟩,
            ⟨(some 38), (.op (.mv (.tmp 9))), (some (34, false))⟩,
            ⟨(some 39), (.op (.bin .sub none (.tmp 37) (.tmp 38))), (some (34, false))⟩,
            ⟨(some 40), (.op (.bin .gtr none (.tmp 36) (.tmp 39))), (some (34, false))⟩,
            ⟨(some 41), (.op (.pick (.tmp 34) (.cst (.bool true)) (.tmp 40))), none⟩] [])
          (.cond (.tmp 41)
            (.seq (.region [
              ⟨(some 4), (.op (.mv (.cst (.int .i64 0)))), none⟩,
              ⟨(some 5), (.op (.mv (.cst (.bool false)))), none⟩] [])
            .ret)
            .skip))
          (.region [
            ⟨(some 42), (.op (.mv (.tmp 6))), none⟩,
            ⟨(some 43), (.op (.bin .mul none (.tmp 42) (.cst (.int .i64 10)))), none⟩,
            ⟨(some 44), (.op (.mv (.tmp 9))), none⟩,
            ⟨(some 45), (.op (.bin .add none (.tmp 43) (.tmp 44))), none⟩,
            ⟨(some 6), (.op (.mv (.tmp 45))), none⟩] [])))))))))))
    (.seq (.region [
      ⟨(some 46), (.op (.mv (.tmp 6))), none⟩,
      ⟨(some 4), (.op (.mv (.tmp 46))), none⟩,
      ⟨(some 5), (.op (.mv (.cst (.bool true)))), none⟩] [])
    .ret)))))⟩
theorem c11 : cFn Tryd.prog [] Tryd.f11 = some h11 := by kernel_rfl
/-- stint/digits.Print -/
def h13 : HFn :=
  ⟨7, [(.tmp 2)],
    (.seq (.region [
      ⟨(some 2), (.op (.mv (.cst (.str [])))), none⟩] [])
    (.seq (.seq (.region [
      ⟨(some 3), (.op (.mv (.tmp 0))), none⟩,
      ⟨(some 4), (.op (.bin .lss none (.tmp 3) (.cst (.int .i64 0)))), none⟩] [])
    (.cond (.tmp 4)
      (.seq (.region [
        ⟨(some 2), (.op (.mv (.cst (.str [])))), none⟩] [])
      .ret)
      .skip))
    (.seq (.region [
      ⟨(some 5), (.op (.mv (.tmp 0))), none⟩,
      ⟨(some 6), (.call (.cst (.func (.func 24) [] [])) [(.tmp 5)]), none⟩,
      ⟨(some 2), (.op (.mv (.tmp 6))), none⟩] [])
    .ret)))⟩
theorem c13 : cFn Tryd.prog [] Tryd.f13 = some h13 := by kernel_rfl
/-- stint/digits.Word -/
def h15 : HFn :=
  ⟨18, [(.tmp 2)],
    (.seq (.region [
      ⟨(some 2), (.op (.mv (.cst (.bool false)))), none⟩] [])
    (.seq (.seq (.region [
      ⟨(some 5), (.op (.mv (.tmp 0))), none⟩,
      ⟨(some 6), (.op (.rangeStr (.tmp 5))), none⟩] [])
    (.block 0
      (.loop
        (.seq (.region [
          ⟨(some 7), (.op (.nextStr (.tmp 6))), none⟩,
          ⟨(some 8), (.op (.ext 0 (.tmp 7))), none⟩] [])
        (.seq (.cond (.tmp 8)
          .skip
          (.exit 0))
        (.block 1
          (.seq (.region [
            ⟨(some 9), (.op (.ext 2 (.tmp 7))), none⟩,
            ⟨(some 4), (.op (.mv (.tmp 9))), none⟩] [])
          (.seq (.region [
            ⟨(some 10), (.op (.mv (.tmp 4))), none⟩,
            ⟨(some 11), (.op (.bin .lss none (.tmp 10) (.cst (.int .i32 33)))), none⟩,
            ⟨(some 12), (.op (.mv (.tmp 11))), none⟩,
            ⟨(some 13), (.op (.mv (.tmp 4))), (some (12, false))⟩,
            ⟨(some 14), (.op (.bin .gtr none (.tmp 13) (.cst (.int .i32 126)))), (some (12, false))⟩,
            ⟨(some 15), (.op (.pick (.tmp 12) (.cst (.bool true)) (.tmp 14))), none⟩] [])
          (.cond (.tmp 15)
            (.seq (.region [
              ⟨(some 2), (.op (.mv (.cst (.bool false)))), none⟩] [])
            .ret)
            .skip)))))))))
    (.seq (.region [
      ⟨(some 16), (.op (.mv (.tmp 0))), none⟩,
      ⟨(some 17), (.op (.bin .neq (some .str) (.tmp 16) (.cst (.str [])))), none⟩,
      ⟨(some 2), (.op (.mv (.tmp 17))), none⟩] [])
    .ret)))⟩
theorem c15 : cFn Tryd.prog [] Tryd.f15 = some h15 := by kernel_rfl
/-- stint/stintref01.Word -/
def h16 : HFn :=
  ⟨23, [(.tmp 2)],
    (.seq (.region [
      ⟨(some 2), (.op (.mv (.cst (.bool false)))), none⟩] [])
    (.seq (.seq (.region [
      ⟨(some 3), (.op (.mv (.cst (.int .i64 0)))), none⟩] [])
    (.block 0
      (.loop
        (.seq (.seq (.region [
          ⟨(some 4), (.op (.mv (.tmp 3))), none⟩,
          ⟨(some 5), (.op (.mv (.tmp 0))), none⟩,
          ⟨(some 6), (.op (.len .str (.tmp 5))), none⟩,
          ⟨(some 7), (.op (.bin .lss none (.tmp 4) (.tmp 6))), none⟩] [])
        (.cond (.tmp 7)
          .skip
          (.exit 0)))
        (.seq (.block 1
          (.seq (.region [
            ⟨(some 10), (.op (.mv (.tmp 0))), none⟩,
            ⟨(some 11), (.op (.mv (.tmp 3))), none⟩,
            ⟨(some 12), (.op (.idxStr (.tmp 10) (.tmp 11))), none⟩,
            ⟨(some 13), (.op (.bin .lss none (.tmp 12) (.cst (.int .u8 33)))), none⟩,
            ⟨(some 14), (.op (.mv (.tmp 13))), none⟩,
            ⟨(some 15), (.op (.mv (.tmp 0))), (some (14, false))⟩,
            ⟨(some 16), (.op (.mv (.tmp 3))), (some (14, false))⟩,
            ⟨(some 17), (.op (.idxStr (.tmp 15) (.tmp 16))), (some (14, false))⟩,
            ⟨(some 18), (.op (.bin .gtr none (.tmp 17) (.cst (.int .u8 126)))), (some (14, false))⟩,
            ⟨(some 19), (.op (.pick (.tmp 14) (.cst (.bool true)) (.tmp 18))), none⟩] [])
          (.cond (.tmp 19)
            (.seq (.region [
              ⟨(some 2), (.op (.mv (.cst (.bool false)))), none⟩] [])
            .ret)
            .skip)))
        (.region [
          ⟨(some 8), (.op (.mv (.tmp 3))), none⟩,
          ⟨(some 9), (.op (.bin .add none (.tmp 8) (.cst (.int .i64 1)))), none⟩,
          ⟨(some 3), (.op (.mv (.tmp 9))), none⟩] []))))))
    (.seq (.region [
      ⟨(some 20), (.op (.mv (.tmp 0))), none⟩,
      ⟨(some 21), (.op (.len .str (.tmp 20))), none⟩,
      ⟨(some 22), (.op (.bin .gtr none (.tmp 21) (.cst (.int .i64 0)))), none⟩,
      ⟨(some 2), (.op (.mv (.tmp 22))), none⟩] [])
    .ret)))⟩
theorem c16 : cFn Tryd.prog [] Tryd.f16 = some h16 := by kernel_rfl
/-- stint/digits.Join -/
def h20 : HFn :=
  ⟨9, [(.tmp 2), (.tmp 3)],
    (.seq (.region [
      ⟨(some 2), (.op (.mv (.cst (.str [])))), none⟩,
      ⟨(some 3), (.op (.mv (.cst (.bool false)))), none⟩] [])
    (.seq (.seq (.region [
      ⟨(some 4), (.op (.mv (.tmp 0))), none⟩,
      ⟨(some 5), (.call (.cst (.func (.func 29) [] [])) [(.tmp 4)]), none⟩,
      ⟨(some 6), (.op (.un .not (.tmp 5))), none⟩] [])
    (.cond (.tmp 6)
      (.seq (.region [
        ⟨(some 2), (.op (.mv (.cst (.str [])))), none⟩,
        ⟨(some 3), (.op (.mv (.cst (.bool false)))), none⟩] [])
      .ret)
      .skip))
    (.seq (.region [
      ⟨(some 7), (.op (.mv (.tmp 0))), none⟩,
      ⟨(some 8), (.call (.cst (.func (.func 30) [] [])) [(.tmp 7), (.cst (.str [32]))]), none⟩,
      ⟨(some 2), (.op (.mv (.tmp 8))), none⟩,
      ⟨(some 3), (.op (.mv (.cst (.bool true)))), none⟩] [])
    .ret)))⟩
theorem c20 : cFn Tryd.prog [] Tryd.f20 = some h20 := by kernel_rfl
/-- stint/digits.Split -/
def h23 : HFn :=
  ⟨11, [(.tmp 2), (.tmp 3)],
    (.seq (.region [
      ⟨(some 2), (.op (.mv (.cst .nilSlice))), none⟩,
      ⟨(some 3), (.op (.mv (.cst (.bool false)))), none⟩] [])
    (.seq (.region [
      ⟨(some 5), (.op (.mv (.tmp 0))), none⟩,
      ⟨(some 6), (.call (.cst (.func (.func 31) [] [])) [(.tmp 5), (.cst (.str [32]))]), none⟩,
      ⟨(some 4), (.op (.mv (.tmp 6))), none⟩] [])
    (.seq (.seq (.region [
      ⟨(some 7), (.op (.mv (.tmp 4))), none⟩,
      ⟨(some 8), (.call (.cst (.func (.func 29) [] [])) [(.tmp 7)]), none⟩,
      ⟨(some 9), (.op (.un .not (.tmp 8))), none⟩] [])
    (.cond (.tmp 9)
      (.seq (.region [
        ⟨(some 2), (.op (.mv (.cst .nilSlice))), none⟩,
        ⟨(some 3), (.op (.mv (.cst (.bool false)))), none⟩] [])
      .ret)
      .skip))
    (.seq (.region [
      ⟨(some 10), (.op (.mv (.tmp 4))), none⟩,
      ⟨(some 2), (.op (.mv (.tmp 10))), none⟩,
      ⟨(some 3), (.op (.mv (.cst (.bool true)))), none⟩] [])
    .ret))))⟩
theorem c23 : cFn Tryd.prog [] Tryd.f23 = some h23 := by kernel_rfl
/-- strconv.Itoa -/
def h24 : HFn :=
  ⟨5, [(.tmp 2)],
    (.seq (.region [
      ⟨(some 2), (.op (.mv (.cst (.str [])))), none⟩] [])
    (.seq (.region [
      ⟨(some 3), (.op (.mv (.tmp 0))), none⟩,
      ⟨(some 4), (.call (.cst (.func (.func 32) [] [])) [(.tmp 3)]), none⟩,
      ⟨(some 2), (.op (.mv (.tmp 4))), none⟩] [])
    .ret))⟩
theorem c24 : cFn Tryd.prog [] Tryd.f24 = some h24 := by kernel_rfl
/-- stint/digits.words -/
def h29 : HFn :=
  ⟨18, [(.tmp 2)],
    (.seq (.region [
      ⟨(some 2), (.op (.mv (.cst (.bool false)))), none⟩] [])
    (.seq (.seq (.region [
      ⟨(some 5), (.op (.mv (.tmp 0))), none⟩,
      ⟨(some 6), (.op (.len .slice (.tmp 5))), none⟩,
      ⟨(some 7), (.op (.mv (.cst (.int .i64 0)))), none⟩] [])
    (.block 0
      (.loop
        (.seq (.region [
          ⟨(some 8), (.op (.bin .lss none (.tmp 7) (.tmp 6))), none⟩] [])
        (.seq (.cond (.tmp 8)
          .skip
          (.exit 0))
        (.seq (.block 1
          (.seq (.region [
            ⟨(some 9), (.op (.idxS 1 (.tmp 5) (.tmp 7))), none⟩,
            ⟨(some 10), (.op (.load none (.tmp 9))), none⟩,
            ⟨(some 4), (.op (.mv (.tmp 10))), none⟩] [])
          (.seq (.region [
            ⟨(some 11), (.op (.mv (.tmp 4))), none⟩,
            ⟨(some 12), (.call (.cst (.func (.func 15) [] [])) [(.tmp 11)]), none⟩,
            ⟨(some 13), (.op (.un .not (.tmp 12))), none⟩] [])
          (.cond (.tmp 13)
            (.seq (.region [
              ⟨(some 2), (.op (.mv (.cst (.bool false)))), none⟩] [])
            .ret)
            .skip))))
        (.region [
          ⟨(some 14), (.op (.bin .add none (.tmp 7) (.cst (.int .i64 1)))), none⟩,
          ⟨(some 7), (.op (.mv (.tmp 14))), none⟩] [])))))))
    (.seq (.region [
      ⟨(some 15), (.op (.mv (.tmp 0))), none⟩,
      ⟨(some 16), (.op (.len .slice (.tmp 15))), none⟩,
      ⟨(some 17), (.op (.bin .gtr none (.tmp 16) (.cst (.int .i64 0)))), none⟩,
      ⟨(some 2), (.op (.mv (.tmp 17))), none⟩] [])
    .ret)))⟩
theorem c29 : cFn Tryd.prog [] Tryd.f29 = some h29 := by kernel_rfl
/-- strings.Join -/
def h30 : HFn :=
  ⟨75, [(.tmp 4)],
    (.seq (.region [
      ⟨(some 4), (.op (.mv (.cst (.str [])))), none⟩] [])
    (.seq (.seq (.region [
      ⟨(some 11), (.op (.mv (.tmp 0))), none⟩,
      ⟨(some 12), (.op (.len .slice (.tmp 11))), none⟩] [])
    (.block 0
      (.seq (.region [
        ⟨(some 14), (.op (.bin .eql (some .int) (.tmp 12) (.cst (.int .i64 0)))), none⟩,
        ⟨(some 13), (.op (.mv (.tmp 14))), none⟩] [])
      (.cond (.tmp 13)
        (.seq (.region [
          ⟨(some 4), (.op (.mv (.cst (.str [])))), none⟩] [])
        .ret)
        (.seq (.region [
          ⟨(some 16), (.op (.bin .eql (some .int) (.tmp 12) (.cst (.int .i64 1)))), none⟩,
          ⟨(some 15), (.op (.mv (.tmp 16))), none⟩] [])
        (.cond (.tmp 15)
          (.seq (.region [
            ⟨(some 17), (.op (.mv (.tmp 0))), none⟩,
            ⟨(some 18), (.op (.idxS 1 (.tmp 17) (.cst (.int .i64 0)))), none⟩,
            ⟨(some 19), (.op (.load none (.tmp 18))), none⟩,
            ⟨(some 4), (.op (.mv (.tmp 19))), none⟩] [])
          .ret)
          .skip))))))
    (.seq (.region [
      ⟨(some 5), (.op (.mv (.cst (.int .i64 0)))), none⟩] [])
    (.seq (.seq (.region [
      ⟨(some 20), (.op (.mv (.tmp 1))), none⟩,
      ⟨(some 21), (.op (.len .str (.tmp 20))), none⟩,
      ⟨(some 22), (.op (.bin .gtr none (.tmp 21) (.cst (.int .i64 0)))), none⟩] [])
    (.cond (.tmp 22)
      (.seq (.seq (.region [
        ⟨(some 23), (.op (.mv (.tmp 1))), none⟩,
        ⟨(some 24), (.op (.len .str (.tmp 23))), none⟩,
        ⟨(some 25), (.op (.mv (.tmp 0))), none⟩,
        ⟨(some 26), (.op (.len .slice (.tmp 25))), none⟩,
        ⟨(some 27), (.op (.bin .sub none (.tmp 26) (.cst (.int .i64 1)))), none⟩,
        ⟨(some 28), (.op (.bin .quo none (.cst (.int .i64 9223372036854775807)) (.tmp 27))), none⟩,
        ⟨(some 29), (.op (.bin .geq none (.tmp 24) (.tmp 28))), none⟩] [])
      (.cond (.tmp 29)
        (.region [
          ⟨(some 30), (.op (.iface 9 (.cst (.str [115, 116, 114, 105, 110, 103, 115, 58, 32, 74, 111, 105, 110, 32, 111, 117, 116, 112, 117, 116, 32, 108, 101, 110, 103, 116, 104, 32, 111, 118, 101, 114, 102, 108, 111, 119])))), none⟩,
          ⟨none, (.op .bad), none⟩] [])
        .skip))
      (.region [
        ⟨(some 31), (.op (.mv (.tmp 5))), none⟩,
        ⟨(some 32), (.op (.mv (.tmp 1))), none⟩,
        ⟨(some 33), (.op (.len .str (.tmp 32))), none⟩,
        ⟨(some 34), (.op (.mv (.tmp 0))), none⟩,
        ⟨(some 35), (.op (.len .slice (.tmp 34))), none⟩,
        ⟨(some 36), (.op (.bin .sub none (.tmp 35) (.cst (.int .i64 1)))), none⟩,
        ⟨(some 37), (.op (.bin .mul none (.tmp 33) (.tmp 36))), none⟩,
        ⟨(some 38), (.op (.bin .add none (.tmp 31) (.tmp 37))), none⟩,
        ⟨(some 5), (.op (.mv (.tmp 38))), none⟩] []))
      .skip))
    (.seq (.seq (.region [
      ⟨(some 39), (.op (.mv (.tmp 0))), none⟩,
      ⟨(some 40), (.op (.len .slice (.tmp 39))), none⟩,
      ⟨(some 41), (.op (.mv (.cst (.int .i64 0)))), none⟩] [])
    (.block 1
      (.loop
        (.seq (.region [
          ⟨(some 42), (.op (.bin .lss none (.tmp 41) (.tmp 40))), none⟩] [])
        (.seq (.cond (.tmp 42)
          .skip
          (.exit 1))
        (.seq (.block 2
          (.seq (.region [
            ⟨(some 43), (.op (.idxS 1 (.tmp 39) (.tmp 41))), none⟩,
            ⟨(some 44), (.op (.load none (.tmp 43))), none⟩,
            ⟨(some 7), (.op (.mv (.tmp 44))), none⟩] [])
          (.seq (.seq (.region [
            ⟨(some 45), (.op (.mv (.tmp 7))), none⟩,
            ⟨(some 46), (.op (.len .str (.tmp 45))), none⟩,
            ⟨(some 47), (.op (.mv (.tmp 5))), none⟩,
            ⟨(some 48), (.op (.bin .sub none (.cst (.int .i64 9223372036854775807)) (.tmp 47))), none⟩,
            ⟨(some 49), (.op (.bin .gtr none (.tmp 46) (.tmp 48))), none⟩] [])
          (.cond (.tmp 49)
            (.region [
              ⟨(some 50), (.op (.iface 9 (.cst (.str [115, 116, 114, 105, 110, 103, 115, 58, 32, 74, 111, 105, 110, 32, 111, 117, 116, 112, 117, 116, 32, 108, 101, 110, 103, 116, 104, 32, 111, 118, 101, 114, 102, 108, 111, 119])))), none⟩,
              ⟨none, (.op .bad), none⟩] [])
            .skip))
          (.region [
            ⟨(some 51), (.op (.mv (.tmp 5))), none⟩,
            ⟨(some 52), (.op (.mv (.tmp 7))), none⟩,
            ⟨(some 53), (.op (.len .str (.tmp 52))), none⟩,
            ⟨(some 54), (.op (.bin .add none (.tmp 51) (.tmp 53))), none⟩,
            ⟨(some 5), (.op (.mv (.tmp 54))), none⟩] []))))
        (.region [
          ⟨(some 55), (.op (.bin .add none (.tmp 41) (.cst (.int .i64 1)))), none⟩,
          ⟨(some 41), (.op (.mv (.tmp 55))), none⟩] [])))))))
    (.seq (.region [
      ⟨(some 8), (.op (.box (.cst (.agg [.nilPtr, .nilSlice])))), none⟩] [])
    (.seq (.region [
      ⟨(some 56), (.op (.mv (.tmp 5))), none⟩,
      ⟨(some 57), (.call (.cst (.func (.func 33) [] [])) [(.tmp 8), (.tmp 56)]), none⟩] [])
    (.seq (.region [
      ⟨(some 58), (.op (.mv (.tmp 0))), none⟩,
      ⟨(some 59), (.op (.idxS 1 (.tmp 58) (.cst (.int .i64 0)))), none⟩,
      ⟨(some 60), (.op (.load none (.tmp 59))), none⟩,
      ⟨(some 61), (.call (.cst (.func (.func 34) [] [])) [(.tmp 8), (.tmp 60)]), none⟩] [])
    (.seq (.seq (.region [
      ⟨(some 62), (.op (.mv (.tmp 0))), none⟩,
      ⟨(some 63), (.op (.sliceSl 1 (.tmp 62) (some (.cst (.int .i64 1))) none none)), none⟩,
      ⟨(some 64), (.op (.len .slice (.tmp 63))), none⟩,
      ⟨(some 65), (.op (.mv (.cst (.int .i64 0)))), none⟩] [])
    (.block 3
      (.loop
        (.seq (.region [
          ⟨(some 66), (.op (.bin .lss none (.tmp 65) (.tmp 64))), none⟩] [])
        (.seq (.cond (.tmp 66)
          .skip
          (.exit 3))
        (.seq (.block 4
          (.seq (.region [
            ⟨(some 67), (.op (.idxS 1 (.tmp 63) (.tmp 65))), none⟩,
            ⟨(some 68), (.op (.load none (.tmp 67))), none⟩,
            ⟨(some 10), (.op (.mv (.tmp 68))), none⟩] [])
          (.seq (.region [
            ⟨(some 69), (.op (.mv (.tmp 1))), none⟩,
            ⟨(some 70), (.call (.cst (.func (.func 34) [] [])) [(.tmp 8), (.tmp 69)]), none⟩] [])
          (.region [
            ⟨(some 71), (.op (.mv (.tmp 10))), none⟩,
            ⟨(some 72), (.call (.cst (.func (.func 34) [] [])) [(.tmp 8), (.tmp 71)]), none⟩] []))))
        (.region [
          ⟨(some 73), (.op (.bin .add none (.tmp 65) (.cst (.int .i64 1)))), none⟩,
          ⟨(some 65), (.op (.mv (.tmp 73))), none⟩] [])))))))
    (.seq (.region [
      ⟨(some 74), (.call (.cst (.func (.func 35) [] [])) [(.tmp 8)]), none⟩,
      ⟨(some 4), (.op (.mv (.tmp 74))), none⟩] [])
    .ret))))))))))⟩
theorem c30 : cFn Tryd.prog [] Tryd.f30 = some h30 := by kernel_rfl
/-- strings.Split -/
def h31 : HFn :=
  ⟨8, [(.tmp 4)],
    (.seq (.region [
      ⟨(some 4), (.op (.mv (.cst .nilSlice))), none⟩] [])
    (.seq (.region [
      ⟨(some 5), (.op (.mv (.tmp 0))), none⟩,
      ⟨(some 6), (.op (.mv (.tmp 1))), none⟩,
      ⟨(some 7), (.call (.cst (.func (.func 36) [] [])) [(.tmp 5), (.tmp 6), (.cst (.int .i64 0)), (.cst (.int .i64 (-1)))]), none⟩,
      ⟨(some 4), (.op (.mv (.tmp 7))), none⟩] [])
    .ret))⟩
theorem c31 : cFn Tryd.prog [] Tryd.f31 = some h31 := by kernel_rfl
/-- internal/strconv.Itoa -/
def h32 : HFn :=
  ⟨5, [(.tmp 2)],
    (.seq (.region [
      ⟨(some 2), (.op (.mv (.cst (.str [])))), none⟩] [])
    (.seq (.region [
      ⟨(some 3), (.op (.mv (.tmp 0))), none⟩,
      ⟨(some 4), (.call (.cst (.func (.func 37) [] [])) [(.tmp 3), (.cst (.int .i64 10))]), none⟩,
      ⟨(some 2), (.op (.mv (.tmp 4))), none⟩] [])
    .ret))⟩
theorem c32 : cFn Tryd.prog [] Tryd.f32 = some h32 := by kernel_rfl
/-- strings.genSplit -/
def h36 : HFn :=
  ⟨66, [(.tmp 8)],
    (.seq (.region [
      ⟨(some 8), (.op (.mv (.cst .nilSlice))), none⟩] [])
    (.seq (.seq (.region [
      ⟨(some 12), (.op (.mv (.tmp 3))), none⟩,
      ⟨(some 13), (.op (.bin .eql (some .int) (.tmp 12) (.cst (.int .i64 0)))), none⟩] [])
    (.cond (.tmp 13)
      (.seq (.region [
        ⟨(some 8), (.op (.mv (.cst .nilSlice))), none⟩] [])
      .ret)
      .skip))
    (.seq (.seq (.region [
      ⟨(some 14), (.op (.mv (.tmp 1))), none⟩,
      ⟨(some 15), (.op (.bin .eql (some .str) (.tmp 14) (.cst (.str [])))), none⟩] [])
    (.cond (.tmp 15)
      (.seq (.region [
        ⟨(some 16), (.op (.mv (.tmp 0))), none⟩,
        ⟨(some 17), (.op (.mv (.tmp 3))), none⟩,
        ⟨(some 18), (.call (.cst (.func (.func 40) [] [])) [(.tmp 16), (.tmp 17)]), none⟩,
        ⟨(some 8), (.op (.mv (.tmp 18))), none⟩] [])
      .ret)
      .skip))
    (.seq (.seq (.region [
      ⟨(some 19), (.op (.mv (.tmp 3))), none⟩,
      ⟨(some 20), (.op (.bin .lss none (.tmp 19) (.cst (.int .i64 0)))), none⟩] [])
    (.cond (.tmp 20)
      (.region [
        ⟨(some 21), (.op (.mv (.tmp 0))), none⟩,
        ⟨(some 22), (.op (.mv (.tmp 1))), none⟩,
        ⟨(some 23), (.call (.cst (.func (.func 41) [] [])) [(.tmp 21), (.tmp 22)]), none⟩,
        ⟨(some 24), (.op (.bin .add none (.tmp 23) (.cst (.int .i64 1)))), none⟩,
        ⟨(some 3), (.op (.mv (.tmp 24))), none⟩] [])
      .skip))
    (.seq (.region [
      ⟨(some 25), (.op (.mv (.tmp 3))), none⟩,
      ⟨(some 26), (.op (.mv (.tmp 0))), none⟩,
      ⟨(some 27), (.op (.len .str (.tmp 26))), none⟩,
      ⟨(some 28), (.op (.bin .add none (.tmp 27) (.cst (.int .i64 1)))), none⟩,
      ⟨(some 29), (.op (.minmax true [(.tmp 25), (.tmp 28)])), none⟩,
      ⟨(some 3), (.op (.mv (.tmp 29))), none⟩] [])
    (.seq (.region [
      ⟨(some 30), (.op (.mv (.tmp 3))), none⟩,
      ⟨(some 31), (.op (.mkSlice 1 16 [(.str [])] (.tmp 30) (.tmp 30))), none⟩,
      ⟨(some 9), (.op (.mv (.tmp 31))), none⟩] [])
    (.seq (.region [
      ⟨(some 32), (.op (.mv (.tmp 3))), none⟩,
      ⟨(some 33), (.op (.bin .sub none (.tmp 32) (.cst (.int .i64 1)))), none⟩,
      ⟨(some 3), (.op (.mv (.tmp 33))), none⟩] [])
    (.seq (.region [
      ⟨(some 10), (.op (.mv (.cst (.int .i64 0)))), none⟩] [])
    (.seq (.block 0
      (.loop
        (.seq (.seq (.region [
          ⟨(some 34), (.op (.mv (.tmp 10))), none⟩,
          ⟨(some 35), (.op (.mv (.tmp 3))), none⟩,
          ⟨(some 36), (.op (.bin .lss none (.tmp 34) (.tmp 35))), none⟩] [])
        (.cond (.tmp 36)
          .skip
          (.exit 0)))
        (.block 1
          (.seq (.region [
            ⟨(some 37), (.op (.mv (.tmp 0))), none⟩,
            ⟨(some 38), (.op (.mv (.tmp 1))), none⟩,
            ⟨(some 39), (.call (.cst (.func (.func 42) [] [])) [(.tmp 37), (.tmp 38)]), none⟩,
            ⟨(some 11), (.op (.mv (.tmp 39))), none⟩] [])
          (.seq (.seq (.region [
            ⟨(some 40), (.op (.mv (.tmp 11))), none⟩,
            ⟨(some 41), (.op (.bin .lss none (.tmp 40) (.cst (.int .i64 0)))), none⟩] [])
          (.cond (.tmp 41)
            (.exit 0)
            .skip))
          (.seq (.region [
            ⟨(some 42), (.op (.mv (.tmp 9))), none⟩,
            ⟨(some 43), (.op (.mv (.tmp 10))), none⟩,
            ⟨(some 44), (.op (.mv (.tmp 0))), none⟩,
            ⟨(some 45), (.op (.mv (.tmp 11))), none⟩,
            ⟨(some 46), (.op (.mv (.tmp 2))), none⟩,
            ⟨(some 47), (.op (.bin .add none (.tmp 45) (.tmp 46))), none⟩,
            ⟨(some 48), (.op (.sliceStr (.tmp 44) none (some (.tmp 47)))), none⟩,
            ⟨(some 49), (.op (.idxS 1 (.tmp 42) (.tmp 43))), none⟩,
            ⟨none, (.op (.store 1 (.tmp 49) (.tmp 48))), none⟩] [])
          (.seq (.region [
            ⟨(some 50), (.op (.mv (.tmp 0))), none⟩,
            ⟨(some 51), (.op (.mv (.tmp 11))), none⟩,
            ⟨(some 52), (.op (.mv (.tmp 1))), none⟩,
            ⟨(some 53), (.op (.len .str (.tmp 52))), none⟩,
            ⟨(some 54), (.op (.bin .add none (.tmp 51) (.tmp 53))), none⟩,
            ⟨(some 55), (.op (.sliceStr (.tmp 50) (some (.tmp 54)) none)), none⟩,
            ⟨(some 0), (.op (.mv (.tmp 55))), none⟩] [])
          (.region [
            ⟨(some 56), (.op (.mv (.tmp 10))), none⟩,
            ⟨(some 57), (.op (.bin .add none (.tmp 56) (.cst (.int .i64 1)))), none⟩,
            ⟨(some 10), (.op (.mv (.tmp 57))), none⟩] [])))))))))
    (.seq (.region [
      ⟨(some 58), (.op (.mv (.tmp 9))), none⟩,
      ⟨(some 59), (.op (.mv (.tmp 10))), none⟩,
      ⟨(some 60), (.op (.mv (.tmp 0))), none⟩,
      ⟨(some 61), (.op (.idxS 1 (.tmp 58) (.tmp 59))), none⟩,
      ⟨none, (.op (.store 1 (.tmp 61) (.tmp 60))), none⟩] [])
    (.seq (.region [
      ⟨(some 62), (.op (.mv (.tmp 9))), none⟩,
      ⟨(some 63), (.op (.mv (.tmp 10))), none⟩,
      ⟨(some 64), (.op (.bin .add none (.tmp 63) (.cst (.int .i64 1)))), none⟩,
      ⟨(some 65), (.op (.sliceSl 1 (.tmp 62) none (some (.tmp 64)) none)), none⟩,
      ⟨(some 8), (.op (.mv (.tmp 65))), none⟩] [])
    .ret)))))))))))⟩
theorem c36 : cFn Tryd.prog [] Tryd.f36 = some h36 := by kernel_rfl
/-- internal/strconv.FormatInt -/
def h37 : HFn :=
  ⟨54, [(.tmp 4)],
    (.seq (.region [
      ⟨(some 4), (.op (.mv (.cst (.str [])))), none⟩] [])
    (.seq (.seq (.region [
      ⟨(some 10), (.op (.mv (.tmp 1))), none⟩,
      ⟨(some 11), (.op (.bin .eql (some .int) (.tmp 10) (.cst (.int .i64 10)))), none⟩] [])
    (.cond (.tmp 11)
      (.seq (.seq (.region [
        ⟨(some 12), (.op (.mv (.tmp 0))), none⟩,
        ⟨(some 13), (.op (.bin .leq none (.cst (.int .i64 0)) (.tmp 12))), none⟩,
        ⟨(some 14), (.op (.mv (.tmp 13))), none⟩,
        ⟨(some 15), (.op (.mv (.tmp 0))), (some (14, true))⟩,
        ⟨(some 16), (.op (.bin .lss none (.tmp 15) (.cst (.int .i64 100)))), (some (14, true))⟩,
        ⟨(some 17), (.op (.pick (.tmp 14) (.tmp 16) (.cst (.bool false)))), none⟩] [])
      (.cond (.tmp 17)
        (.seq (.region [
          ⟨(some 18), (.op (.mv (.tmp 0))), none⟩,
          ⟨(some 19), (.call (.cst (.func (.func 43) [] [])) [(.tmp 18)]), none⟩,
          ⟨(some 4), (.op (.mv (.tmp 19))), none⟩] [])
        .ret)
        .skip))
      (.seq (.region [
        ⟨(some 5), (.op (.box (.cst (.agg [(.int .u8 0), (.int .u8 0), (.int .u8 0), (.int .u8 0), (.int .u8 0), (.int .u8 0), (.int .u8 0), (.int .u8 0), (.int .u8 0), (.int .u8 0), (.int .u8 0), (.int .u8 0), (.int .u8 0), (.int .u8 0), (.int .u8 0), (.int .u8 0), (.int .u8 0), (.int .u8 0), (.int .u8 0), (.int .u8 0), (.int .u8 0), (.int .u8 0), (.int .u8 0), (.int .u8 0)])))), none⟩] [])
      (.seq (.region [
        ⟨(some 20), (.op (.mv (.tmp 0))), none⟩,
        ⟨(some 21), (.op (.cInt .u64 (.tmp 20))), none⟩,
        ⟨(some 6), (.op (.mv (.tmp 21))), none⟩] [])
      (.seq (.seq (.region [
        ⟨(some 22), (.op (.mv (.tmp 0))), none⟩,
        ⟨(some 23), (.op (.bin .lss none (.tmp 22) (.cst (.int .i64 0)))), none⟩] [])
      (.cond (.tmp 23)
        (.region [
          ⟨(some 24), (.op (.mv (.tmp 6))), none⟩,
          ⟨(some 25), (.op (.un .neg (.tmp 24))), none⟩,
          ⟨(some 6), (.op (.mv (.tmp 25))), none⟩] [])
        .skip))
      (.seq (.region [
        ⟨(some 26), (.op (.mv (.tmp 6))), none⟩,
        ⟨(some 27), (.call (.cst (.func (.func 44) [] [])) [(.tmp 26)]), none⟩,
        ⟨(some 7), (.op (.mv (.tmp 27))), none⟩] [])
      (.seq (.region [
        ⟨(some 28), (.op (.mv (.tmp 7))), none⟩,
        ⟨(some 29), (.op (.bin .add none (.cst (.int .i64 1)) (.tmp 28))), none⟩,
        ⟨(some 30), (.op (.sliceArr 24 1 (.tmp 5) (some (.cst (.int .i64 1))) (some (.tmp 29)) none)), none⟩,
        ⟨(some 31), (.op (.mv (.tmp 6))), none⟩,
        ⟨(some 32), (.call (.cst (.func (.func 45) [] [])) [(.tmp 30), (.tmp 31)]), none⟩] [])
      (.seq (.seq (.region [
        ⟨(some 33), (.op (.mv (.tmp 0))), none⟩,
        ⟨(some 34), (.op (.bin .lss none (.tmp 33) (.cst (.int .i64 0)))), none⟩] [])
      (.cond (.tmp 34)
        (.seq (.region [
          ⟨(some 35), (.op (.idxA 24 1 (.tmp 5) (.cst (.int .i64 0)))), none⟩,
          ⟨none, (.op (.store 1 (.tmp 35) (.cst (.int .u8 45)))), none⟩] [])
        (.seq (.region [
          ⟨(some 36), (.op (.mv (.tmp 7))), none⟩,
          ⟨(some 37), (.op (.bin .add none (.cst (.int .i64 1)) (.tmp 36))), none⟩,
          ⟨(some 38), (.op (.sliceArr 24 1 (.tmp 5) none (some (.tmp 37)) none)), none⟩,
          ⟨(some 39), (.op (.b2s (.tmp 38))), none⟩,
          ⟨(some 4), (.op (.mv (.tmp 39))), none⟩] [])
        .ret))
        .skip))
      (.seq (.region [
        ⟨(some 40), (.op (.mv (.tmp 7))), none⟩,
        ⟨(some 41), (.op (.bin .add none (.cst (.int .i64 1)) (.tmp 40))), none⟩,
        ⟨(some 42), (.op (.sliceArr 24 1 (.tmp 5) (some (.cst (.int .i64 1))) (some (.tmp 41)) none)), none⟩,
        ⟨(some 43), (.op (.b2s (.tmp 42))), none⟩,
        ⟨(some 4), (.op (.mv (.tmp 43))), none⟩] [])
      .ret))))))))
      .skip))
    (.seq (.region [
      ⟨(some 45), (.op (.mv (.tmp 0))), none⟩,
      ⟨(some 46), (.op (.cInt .u64 (.tmp 45))), none⟩,
      ⟨(some 47), (.op (.mv (.tmp 1))), none⟩,
      ⟨(some 48), (.op (.mv (.tmp 0))), none⟩,
      ⟨(some 49), (.op (.bin .lss none (.tmp 48) (.cst (.int .i64 0)))), none⟩,
      ⟨(some 50), (.call (.cst (.func (.func 46) [] [])) [(.cst .nilSlice), (.tmp 46), (.tmp 47), (.tmp 49), (.cst (.bool false))]), none⟩,
      ⟨(some 44), (.op (.mv (.tmp 50))), none⟩,
      ⟨(some 51), (.op (.ext 0 (.tmp 44))), none⟩,
      ⟨(some 52), (.op (.ext 1 (.tmp 44))), none⟩,
      ⟨(some 8), (.op (.mv (.tmp 51))), none⟩,
      ⟨(some 9), (.op (.mv (.tmp 52))), none⟩] [])
    (.seq (.region [
      ⟨(some 53), (.op (.mv (.tmp 9))), none⟩,
      ⟨(some 4), (.op (.mv (.tmp 53))), none⟩] [])
    .ret))))⟩
theorem c37 : cFn Tryd.prog [] Tryd.f37 = some h37 := by kernel_rfl
/-- strings.Count -/
def h41 : HFn :=
  ⟨34, [(.tmp 4)],
    (.seq (.region [
      ⟨(some 4), (.op (.mv (.cst (.int .i64 0)))), none⟩] [])
    (.seq (.seq (.region [
      ⟨(some 7), (.op (.mv (.tmp 1))), none⟩,
      ⟨(some 8), (.op (.len .str (.tmp 7))), none⟩,
      ⟨(some 9), (.op (.bin .eql (some .int) (.tmp 8) (.cst (.int .i64 0)))), none⟩] [])
    (.cond (.tmp 9)
      (.seq (.region [
        ⟨(some 10), (.op (.mv (.tmp 0))), none⟩,
        ⟨(some 11), (.call (.cst (.func (.func 49) [] [])) [(.tmp 10)]), none⟩,
        ⟨(some 12), (.op (.bin .add none (.tmp 11) (.cst (.int .i64 1)))), none⟩,
        ⟨(some 4), (.op (.mv (.tmp 12))), none⟩] [])
      .ret)
      .skip))
    (.seq (.seq (.region [
      ⟨(some 13), (.op (.mv (.tmp 1))), none⟩,
      ⟨(some 14), (.op (.len .str (.tmp 13))), none⟩,
      ⟨(some 15), (.op (.bin .eql (some .int) (.tmp 14) (.cst (.int .i64 1)))), none⟩] [])
    (.cond (.tmp 15)
      (.seq (.region [
        ⟨(some 16), (.op (.mv (.tmp 0))), none⟩,
        ⟨(some 17), (.op (.mv (.tmp 1))), none⟩,
        ⟨(some 18), (.op (.idxStr (.tmp 17) (.cst (.int .i64 0)))), none⟩,
        ⟨(some 19), (.call (.cst (.func (.func 51) [] [])) [(.tmp 16), (.tmp 18)]), none⟩,
        ⟨(some 4), (.op (.mv (.tmp 19))), none⟩] [])
      .ret)
      .skip))
    (.seq (.region [
      ⟨(some 5), (.op (.mv (.cst (.int .i64 0)))), none⟩] [])
    (.block 0
      (.loop
        (.block 1
          (.seq (.region [
            ⟨(some 20), (.op (.mv (.tmp 0))), none⟩,
            ⟨(some 21), (.op (.mv (.tmp 1))), none⟩,
            ⟨(some 22), (.call (.cst (.func (.func 42) [] [])) [(.tmp 20), (.tmp 21)]), none⟩,
            ⟨(some 6), (.op (.mv (.tmp 22))), none⟩] [])
          (.seq (.seq (.region [
            ⟨(some 23), (.op (.mv (.tmp 6))), none⟩,
            ⟨(some 24), (.op (.bin .eql (some .int) (.tmp 23) (.cst (.int .i64 (-1))))), none⟩] [])
          (.cond (.tmp 24)
            (.seq (.region [
              ⟨(some 25), (.op (.mv (.tmp 5))), none⟩,
              ⟨(some 4), (.op (.mv (.tmp 25))), none⟩] [])
            .ret)
            .skip))
          (.seq (.region [
            ⟨(some 26), (.op (.mv (.tmp 5))), none⟩,
            ⟨(some 27), (.op (.bin .add none (.tmp 26) (.cst (.int .i64 1)))), none⟩,
            ⟨(some 5), (.op (.mv (.tmp 27))), none⟩] [])
          (.region [
            ⟨(some 28), (.op (.mv (.tmp 0))), none⟩,
            ⟨(some 29), (.op (.mv (.tmp 6))), none⟩,
            ⟨(some 30), (.op (.mv (.tmp 1))), none⟩,
            ⟨(some 31), (.op (.len .str (.tmp 30))), none⟩,
            ⟨(some 32), (.op (.bin .add none (.tmp 29) (.tmp 31))), none⟩,
            ⟨(some 33), (.op (.sliceStr (.tmp 28) (some (.tmp 32)) none)), none⟩,
            ⟨(some 0), (.op (.mv (.tmp 33))), none⟩] [])))))))))))⟩
theorem c41 : cFn Tryd.prog [] Tryd.f41 = some h41 := by kernel_rfl
/-- strings.Index -/
def h42 : HFn :=
  ⟨8, [(.tmp 4)],
    (.seq (.region [
      ⟨(some 4), (.op (.mv (.cst (.int .i64 0)))), none⟩] [])
    (.seq (.region [
      ⟨(some 5), (.op (.mv (.tmp 0))), none⟩,
      ⟨(some 6), (.op (.mv (.tmp 1))), none⟩,
      ⟨(some 7), (.call (.cst (.func (.func 52) [] [])) [(.tmp 5), (.tmp 6)]), none⟩,
      ⟨(some 4), (.op (.mv (.tmp 7))), none⟩] [])
    .ret))⟩
theorem c42 : cFn Tryd.prog [] Tryd.f42 = some h42 := by kernel_rfl
/-- internal/strconv.numDigits -/
def h44 : HFn :=
  ⟨15, [(.tmp 2)],
    (.seq (.region [
      ⟨(some 2), (.op (.mv (.cst (.int .i64 0)))), none⟩] [])
    (.seq (.region [
      ⟨(some 4), (.op (.mv (.tmp 0))), none⟩,
      ⟨(some 5), (.call (.cst (.func (.func 54) [] [])) [(.tmp 4)]), none⟩,
      ⟨(some 6), (.call (.cst (.func (.func 53) [] [])) [(.tmp 5)]), none⟩,
      ⟨(some 3), (.op (.mv (.tmp 6))), none⟩] [])
    (.seq (.region [
      ⟨(some 7), (.op (.mv (.tmp 3))), none⟩,
      ⟨(some 8), (.op (.mv (.tmp 0))), none⟩,
      ⟨(some 9), (.op (.mv (.tmp 3))), none⟩,
      ⟨(some 10), (.op (.gidxA 20 1 0 (.tmp 9))), none⟩,
      ⟨(some 11), (.op (.load none (.tmp 10))), none⟩,
      ⟨(some 12), (.op (.bin .geq none (.tmp 8) (.tmp 11))), none⟩,
      ⟨(some 13), (.call (.cst (.func (.func 55) [] [])) [(.tmp 12)]), none⟩,
      ⟨(some 14), (.op (.bin .add none (.tmp 7) (.tmp 13))), none⟩,
      ⟨(some 2), (.op (.mv (.tmp 14))), none⟩] [])
    .ret)))⟩
theorem c44 : cFn Tryd.prog [] Tryd.f44 = some h44 := by kernel_rfl
/-- internal/strconv.formatBase10 -/
def h45 : HFn :=
  ⟨167, [],
    (.seq (.region [
      ⟨(some 17), (.op (.mv (.tmp 0))), none⟩,
      ⟨(some 18), (.op (.len .slice (.tmp 17))), none⟩,
      ⟨(some 4), (.op (.mv (.tmp 18))), none⟩] [])
    (.seq (.block 0
      (.loop
        (.seq (.seq (.region [
          ⟨(some 19), (.op (.mv (.tmp 4))), none⟩,
          ⟨(some 20), (.op (.bin .geq none (.tmp 19) (.cst (.int .i64 8)))), none⟩] [])
        (.cond (.tmp 20)
          .skip
          (.exit 0)))
        (.block 1
          (.seq (.region [
            ⟨(some 21), (.op (.mv (.tmp 1))), none⟩,
            ⟨(some 22), (.op (.bin .rem none (.tmp 21) (.cst (.int .u64 100000000)))), none⟩,
            ⟨(some 23), (.op (.cInt .u32 (.tmp 22))), none⟩,
            ⟨(some 5), (.op (.mv (.tmp 23))), none⟩] [])
          (.seq (.region [
            ⟨(some 24), (.op (.mv (.tmp 1))), none⟩,
            ⟨(some 25), (.op (.bin .quo none (.tmp 24) (.cst (.int .u64 100000000)))), none⟩,
            ⟨(some 1), (.op (.mv (.tmp 25))), none⟩] [])
          (.seq (.region [
            ⟨(some 26), (.op (.mv (.tmp 5))), none⟩,
            ⟨(some 27), (.op (.bin .quo none (.tmp 26) (.cst (.int .u32 10000)))), none⟩,
            ⟨(some 28), (.op (.mv (.tmp 5))), none⟩,
            ⟨(some 29), (.op (.bin .rem none (.tmp 28) (.cst (.int .u32 10000)))), none⟩,
            ⟨(some 6), (.op (.mv (.tmp 27))), none⟩,
            ⟨(some 7), (.op (.mv (.tmp 29))), none⟩] [])
          (.seq (.region [
            ⟨(some 30), (.op (.mv (.tmp 7))), none⟩,
            ⟨(some 31), (.op (.bin .quo none (.tmp 30) (.cst (.int .u32 100)))), none⟩,
            ⟨(some 32), (.op (.bin .mul none (.tmp 31) (.cst (.int .u32 2)))), none⟩,
            ⟨(some 33), (.op (.mv (.tmp 7))), none⟩,
            ⟨(some 34), (.op (.bin .rem none (.tmp 33) (.cst (.int .u32 100)))), none⟩,
            ⟨(some 35), (.op (.bin .mul none (.tmp 34) (.cst (.int .u32 2)))), none⟩,
            ⟨(some 8), (.op (.mv (.tmp 32))), none⟩,
            ⟨(some 9), (.op (.mv (.tmp 35))), none⟩] [])
          (.seq (.region [
            ⟨(some 36), (.op (.mv (.tmp 6))), none⟩,
            ⟨(some 37), (.op (.bin .quo none (.tmp 36) (.cst (.int .u32 100)))), none⟩,
            ⟨(some 38), (.op (.bin .mul none (.tmp 37) (.cst (.int .u32 2)))), none⟩,
            ⟨(some 39), (.op (.mv (.tmp 6))), none⟩,
            ⟨(some 40), (.op (.bin .rem none (.tmp 39) (.cst (.int .u32 100)))), none⟩,
            ⟨(some 41), (.op (.bin .mul none (.tmp 40) (.cst (.int .u32 2)))), none⟩,
            ⟨(some 10), (.op (.mv (.tmp 38))), none⟩,
            ⟨(some 11), (.op (.mv (.tmp 41))), none⟩] [])
          (.seq (.draw [
            ⟨(some 42), (.op (.mv (.tmp 0))), none⟩,
            ⟨(some 43), (.op (.mv (.tmp 4))), none⟩,
            ⟨(some 44), (.op (.bin .sub none (.tmp 43) (.cst (.int .i64 1)))), none⟩,
            ⟨(some 45), (.op (.mv (.tmp 0))), none⟩,
            ⟨(some 46), (.op (.mv (.tmp 4))), none⟩,
            ⟨(some 47), (.op (.bin .sub none (.tmp 46) (.cst (.int .i64 2)))), none⟩,
            ⟨(some 48), (.op (.mv (.tmp 9))), none⟩,
            ⟨(some 49), (.op (.bin .add none (.tmp 48) (.cst (.int .u32 1)))), none⟩,
            ⟨(some 50), (.op (.idxStr (.cst (.str [48, 48, 48, 49, 48, 50, 48, 51, 48, 52, 48, 53, 48, 54, 48, 55, 48, 56, 48, 57, 49, 48, 49, 49, 49, 50, 49, 51, 49, 52, 49, 53, 49, 54, 49, 55, 49, 56, 49, 57, 50, 48, 50, 49, 50, 50, 50, 51, 50, 52, 50, 53, 50, 54, 50, 55, 50, 56, 50, 57, 51, 48, 51, 49, 51, 50, 51, 51, 51, 52, 51, 53, 51, 54, 51, 55, 51, 56, 51, 57, 52, 48, 52, 49, 52, 50, 52, 51, 52, 52, 52, 53, 52, 54, 52, 55, 52, 56, 52, 57, 53, 48, 53, 49, 53, 50, 53, 51, 53, 52, 53, 53, 53, 54, 53, 55, 53, 56, 53, 57, 54, 48, 54, 49, 54, 50, 54, 51, 54, 52, 54, 53, 54, 54, 54, 55, 54, 56, 54, 57, 55, 48, 55, 49, 55, 50, 55, 51, 55, 52, 55, 53, 55, 54, 55, 55, 55, 56, 55, 57, 56, 48, 56, 49, 56, 50, 56, 51, 56, 52, 56, 53, 56, 54, 56, 55, 56, 56, 56, 57, 57, 48, 57, 49, 57, 50, 57, 51, 57, 52, 57, 53, 57, 54, 57, 55, 57, 56, 57, 57])) (.tmp 49))), none⟩,
            ⟨(some 51), (.op (.mv (.tmp 9))), none⟩,
            ⟨(some 52), (.op (.idxStr (.cst (.str [48, 48, 48, 49, 48, 50, 48, 51, 48, 52, 48, 53, 48, 54, 48, 55, 48, 56, 48, 57, 49, 48, 49, 49, 49, 50, 49, 51, 49, 52, 49, 53, 49, 54, 49, 55, 49, 56, 49, 57, 50, 48, 50, 49, 50, 50, 50, 51, 50, 52, 50, 53, 50, 54, 50, 55, 50, 56, 50, 57, 51, 48, 51, 49, 51, 50, 51, 51, 51, 52, 51, 53, 51, 54, 51, 55, 51, 56, 51, 57, 52, 48, 52, 49, 52, 50, 52, 51, 52, 52, 52, 53, 52, 54, 52, 55, 52, 56, 52, 57, 53, 48, 53, 49, 53, 50, 53, 51, 53, 52, 53, 53, 53, 54, 53, 55, 53, 56, 53, 57, 54, 48, 54, 49, 54, 50, 54, 51, 54, 52, 54, 53, 54, 54, 54, 55, 54, 56, 54, 57, 55, 48, 55, 49, 55, 50, 55, 51, 55, 52, 55, 53, 55, 54, 55, 55, 55, 56, 55, 57, 56, 48, 56, 49, 56, 50, 56, 51, 56, 52, 56, 53, 56, 54, 56, 55, 56, 56, 56, 57, 57, 48, 57, 49, 57, 50, 57, 51, 57, 52, 57, 53, 57, 54, 57, 55, 57, 56, 57, 57])) (.tmp 51))), none⟩,
            ⟨(some 53), (.op (.idxS 1 (.tmp 42) (.tmp 44))), none⟩,
            ⟨none, (.op (.store 1 (.tmp 53) (.tmp 50))), none⟩,
            ⟨(some 54), (.op (.idxS 1 (.tmp 45) (.tmp 47))), none⟩,
            ⟨none, (.op (.store 1 (.tmp 54) (.tmp 52))), none⟩] [0, 1, 2, 3, 4, 5, 6, 7, 8, 9, 10, 11, 12, 13, 14] [[], [], [], [], [], [], [], [], [], [], [], [], [11], [], [13, 11]] [])
          (.seq (.draw [
            ⟨(some 55), (.op (.mv (.tmp 0))), none⟩,
            ⟨(some 56), (.op (.mv (.tmp 4))), none⟩,
            ⟨(some 57), (.op (.bin .sub none (.tmp 56) (.cst (.int .i64 3)))), none⟩,
            ⟨(some 58), (.op (.mv (.tmp 0))), none⟩,
            ⟨(some 59), (.op (.mv (.tmp 4))), none⟩,
            ⟨(some 60), (.op (.bin .sub none (.tmp 59) (.cst (.int .i64 4)))), none⟩,
            ⟨(some 61), (.op (.mv (.tmp 8))), none⟩,
            ⟨(some 62), (.op (.bin .add none (.tmp 61) (.cst (.int .u32 1)))), none⟩,
            ⟨(some 63), (.op (.idxStr (.cst (.str [48, 48, 48, 49, 48, 50, 48, 51, 48, 52, 48, 53, 48, 54, 48, 55, 48, 56, 48, 57, 49, 48, 49, 49, 49, 50, 49, 51, 49, 52, 49, 53, 49, 54, 49, 55, 49, 56, 49, 57, 50, 48, 50, 49, 50, 50, 50, 51, 50, 52, 50, 53, 50, 54, 50, 55, 50, 56, 50, 57, 51, 48, 51, 49, 51, 50, 51, 51, 51, 52, 51, 53, 51, 54, 51, 55, 51, 56, 51, 57, 52, 48, 52, 49, 52, 50, 52, 51, 52, 52, 52, 53, 52, 54, 52, 55, 52, 56, 52, 57, 53, 48, 53, 49, 53, 50, 53, 51, 53, 52, 53, 53, 53, 54, 53, 55, 53, 56, 53, 57, 54, 48, 54, 49, 54, 50, 54, 51, 54, 52, 54, 53, 54, 54, 54, 55, 54, 56, 54, 57, 55, 48, 55, 49, 55, 50, 55, 51, 55, 52, 55, 53, 55, 54, 55, 55, 55, 56, 55, 57, 56, 48, 56, 49, 56, 50, 56, 51, 56, 52, 56, 53, 56, 54, 56, 55, 56, 56, 56, 57, 57, 48, 57, 49, 57, 50, 57, 51, 57, 52, 57, 53, 57, 54, 57, 55, 57, 56, 57, 57])) (.tmp 62))), none⟩,
            ⟨(some 64), (.op (.mv (.tmp 8))), none⟩,
            ⟨(some 65), (.op (.idxStr (.cst (.str [48, 48, 48, 49, 48, 50, 48, 51, 48, 52, 48, 53, 48, 54, 48, 55, 48, 56, 48, 57, 49, 48, 49, 49, 49, 50, 49, 51, 49, 52, 49, 53, 49, 54, 49, 55, 49, 56, 49, 57, 50, 48, 50, 49, 50, 50, 50, 51, 50, 52, 50, 53, 50, 54, 50, 55, 50, 56, 50, 57, 51, 48, 51, 49, 51, 50, 51, 51, 51, 52, 51, 53, 51, 54, 51, 55, 51, 56, 51, 57, 52, 48, 52, 49, 52, 50, 52, 51, 52, 52, 52, 53, 52, 54, 52, 55, 52, 56, 52, 57, 53, 48, 53, 49, 53, 50, 53, 51, 53, 52, 53, 53, 53, 54, 53, 55, 53, 56, 53, 57, 54, 48, 54, 49, 54, 50, 54, 51, 54, 52, 54, 53, 54, 54, 54, 55, 54, 56, 54, 57, 55, 48, 55, 49, 55, 50, 55, 51, 55, 52, 55, 53, 55, 54, 55, 55, 55, 56, 55, 57, 56, 48, 56, 49, 56, 50, 56, 51, 56, 52, 56, 53, 56, 54, 56, 55, 56, 56, 56, 57, 57, 48, 57, 49, 57, 50, 57, 51, 57, 52, 57, 53, 57, 54, 57, 55, 57, 56, 57, 57])) (.tmp 64))), none⟩,
            ⟨(some 66), (.op (.idxS 1 (.tmp 55) (.tmp 57))), none⟩,
            ⟨none, (.op (.store 1 (.tmp 66) (.tmp 63))), none⟩,
            ⟨(some 67), (.op (.idxS 1 (.tmp 58) (.tmp 60))), none⟩,
            ⟨none, (.op (.store 1 (.tmp 67) (.tmp 65))), none⟩] [0, 1, 2, 3, 4, 5, 6, 7, 8, 9, 10, 11, 12, 13, 14] [[], [], [], [], [], [], [], [], [], [], [], [], [11], [], [13, 11]] [])
          (.seq (.draw [
            ⟨(some 68), (.op (.mv (.tmp 0))), none⟩,
            ⟨(some 69), (.op (.mv (.tmp 4))), none⟩,
            ⟨(some 70), (.op (.bin .sub none (.tmp 69) (.cst (.int .i64 5)))), none⟩,
            ⟨(some 71), (.op (.mv (.tmp 0))), none⟩,
            ⟨(some 72), (.op (.mv (.tmp 4))), none⟩,
            ⟨(some 73), (.op (.bin .sub none (.tmp 72) (.cst (.int .i64 6)))), none⟩,
            ⟨(some 74), (.op (.mv (.tmp 11))), none⟩,
            ⟨(some 75), (.op (.bin .add none (.tmp 74) (.cst (.int .u32 1)))), none⟩,
            ⟨(some 76), (.op (.idxStr (.cst (.str [48, 48, 48, 49, 48, 50, 48, 51, 48, 52, 48, 53, 48, 54, 48, 55, 48, 56, 48, 57, 49, 48, 49, 49, 49, 50, 49, 51, 49, 52, 49, 53, 49, 54, 49, 55, 49, 56, 49, 57, 50, 48, 50, 49, 50, 50, 50, 51, 50, 52, 50, 53, 50, 54, 50, 55, 50, 56, 50, 57, 51, 48, 51, 49, 51, 50, 51, 51, 51, 52, 51, 53, 51, 54, 51, 55, 51, 56, 51, 57, 52, 48, 52, 49, 52, 50, 52, 51, 52, 52, 52, 53, 52, 54, 52, 55, 52, 56, 52, 57, 53, 48, 53, 49, 53, 50, 53, 51, 53, 52, 53, 53, 53, 54, 53, 55, 53, 56, 53, 57, 54, 48, 54, 49, 54, 50, 54, 51, 54, 52, 54, 53, 54, 54, 54, 55, 54, 56, 54, 57, 55, 48, 55, 49, 55, 50, 55, 51, 55, 52, 55, 53, 55, 54, 55, 55, 55, 56, 55, 57, 56, 48, 56, 49, 56, 50, 56, 51, 56, 52, 56, 53, 56, 54, 56, 55, 56, 56, 56, 57, 57, 48, 57, 49, 57, 50, 57, 51, 57, 52, 57, 53, 57, 54, 57, 55, 57, 56, 57, 57])) (.tmp 75))), none⟩,
            ⟨(some 77), (.op (.mv (.tmp 11))), none⟩,
            ⟨(some 78), (.op (.idxStr (.cst (.str [48, 48, 48, 49, 48, 50, 48, 51, 48, 52, 48, 53, 48, 54, 48, 55, 48, 56, 48, 57, 49, 48, 49, 49, 49, 50, 49, 51, 49, 52, 49, 53, 49, 54, 49, 55, 49, 56, 49, 57, 50, 48, 50, 49, 50, 50, 50, 51, 50, 52, 50, 53, 50, 54, 50, 55, 50, 56, 50, 57, 51, 48, 51, 49, 51, 50, 51, 51, 51, 52, 51, 53, 51, 54, 51, 55, 51, 56, 51, 57, 52, 48, 52, 49, 52, 50, 52, 51, 52, 52, 52, 53, 52, 54, 52, 55, 52, 56, 52, 57, 53, 48, 53, 49, 53, 50, 53, 51, 53, 52, 53, 53, 53, 54, 53, 55, 53, 56, 53, 57, 54, 48, 54, 49, 54, 50, 54, 51, 54, 52, 54, 53, 54, 54, 54, 55, 54, 56, 54, 57, 55, 48, 55, 49, 55, 50, 55, 51, 55, 52, 55, 53, 55, 54, 55, 55, 55, 56, 55, 57, 56, 48, 56, 49, 56, 50, 56, 51, 56, 52, 56, 53, 56, 54, 56, 55, 56, 56, 56, 57, 57, 48, 57, 49, 57, 50, 57, 51, 57, 52, 57, 53, 57, 54, 57, 55, 57, 56, 57, 57])) (.tmp 77))), none⟩,
            ⟨(some 79), (.op (.idxS 1 (.tmp 68) (.tmp 70))), none⟩,
            ⟨none, (.op (.store 1 (.tmp 79) (.tmp 76))), none⟩,
            ⟨(some 80), (.op (.idxS 1 (.tmp 71) (.tmp 73))), none⟩,
            ⟨none, (.op (.store 1 (.tmp 80) (.tmp 78))), none⟩] [0, 1, 2, 3, 4, 5, 6, 7, 8, 9, 10, 11, 12, 13, 14] [[], [], [], [], [], [], [], [], [], [], [], [], [11], [], [13, 11]] [])
          (.seq (.draw [
            ⟨(some 81), (.op (.mv (.tmp 0))), none⟩,
            ⟨(some 82), (.op (.mv (.tmp 4))), none⟩,
            ⟨(some 83), (.op (.bin .sub none (.tmp 82) (.cst (.int .i64 7)))), none⟩,
            ⟨(some 84), (.op (.mv (.tmp 0))), none⟩,
            ⟨(some 85), (.op (.mv (.tmp 4))), none⟩,
            ⟨(some 86), (.op (.bin .sub none (.tmp 85) (.cst (.int .i64 8)))), none⟩,
            ⟨(some 87), (.op (.mv (.tmp 10))), none⟩,
            ⟨(some 88), (.op (.bin .add none (.tmp 87) (.cst (.int .u32 1)))), none⟩,
            ⟨(some 89), (.op (.idxStr (.cst (.str [48, 48, 48, 49, 48, 50, 48, 51, 48, 52, 48, 53, 48, 54, 48, 55, 48, 56, 48, 57, 49, 48, 49, 49, 49, 50, 49, 51, 49, 52, 49, 53, 49, 54, 49, 55, 49, 56, 49, 57, 50, 48, 50, 49, 50, 50, 50, 51, 50, 52, 50, 53, 50, 54, 50, 55, 50, 56, 50, 57, 51, 48, 51, 49, 51, 50, 51, 51, 51, 52, 51, 53, 51, 54, 51, 55, 51, 56, 51, 57, 52, 48, 52, 49, 52, 50, 52, 51, 52, 52, 52, 53, 52, 54, 52, 55, 52, 56, 52, 57, 53, 48, 53, 49, 53, 50, 53, 51, 53, 52, 53, 53, 53, 54, 53, 55, 53, 56, 53, 57, 54, 48, 54, 49, 54, 50, 54, 51, 54, 52, 54, 53, 54, 54, 54, 55, 54, 56, 54, 57, 55, 48, 55, 49, 55, 50, 55, 51, 55, 52, 55, 53, 55, 54, 55, 55, 55, 56, 55, 57, 56, 48, 56, 49, 56, 50, 56, 51, 56, 52, 56, 53, 56, 54, 56, 55, 56, 56, 56, 57, 57, 48, 57, 49, 57, 50, 57, 51, 57, 52, 57, 53, 57, 54, 57, 55, 57, 56, 57, 57])) (.tmp 88))), none⟩,
            ⟨(some 90), (.op (.mv (.tmp 10))), none⟩,
            ⟨(some 91), (.op (.idxStr (.cst (.str [48, 48, 48, 49, 48, 50, 48, 51, 48, 52, 48, 53, 48, 54, 48, 55, 48, 56, 48, 57, 49, 48, 49, 49, 49, 50, 49, 51, 49, 52, 49, 53, 49, 54, 49, 55, 49, 56, 49, 57, 50, 48, 50, 49, 50, 50, 50, 51, 50, 52, 50, 53, 50, 54, 50, 55, 50, 56, 50, 57, 51, 48, 51, 49, 51, 50, 51, 51, 51, 52, 51, 53, 51, 54, 51, 55, 51, 56, 51, 57, 52, 48, 52, 49, 52, 50, 52, 51, 52, 52, 52, 53, 52, 54, 52, 55, 52, 56, 52, 57, 53, 48, 53, 49, 53, 50, 53, 51, 53, 52, 53, 53, 53, 54, 53, 55, 53, 56, 53, 57, 54, 48, 54, 49, 54, 50, 54, 51, 54, 52, 54, 53, 54, 54, 54, 55, 54, 56, 54, 57, 55, 48, 55, 49, 55, 50, 55, 51, 55, 52, 55, 53, 55, 54, 55, 55, 55, 56, 55, 57, 56, 48, 56, 49, 56, 50, 56, 51, 56, 52, 56, 53, 56, 54, 56, 55, 56, 56, 56, 57, 57, 48, 57, 49, 57, 50, 57, 51, 57, 52, 57, 53, 57, 54, 57, 55, 57, 56, 57, 57])) (.tmp 90))), none⟩,
            ⟨(some 92), (.op (.idxS 1 (.tmp 81) (.tmp 83))), none⟩,
            ⟨none, (.op (.store 1 (.tmp 92) (.tmp 89))), none⟩,
            ⟨(some 93), (.op (.idxS 1 (.tmp 84) (.tmp 86))), none⟩,
            ⟨none, (.op (.store 1 (.tmp 93) (.tmp 91))), none⟩] [0, 1, 2, 3, 4, 5, 6, 7, 8, 9, 10, 11, 12, 13, 14] [[], [], [], [], [], [], [], [], [], [], [], [], [11], [], [13, 11]] [])
          (.region [
            ⟨(some 94), (.op (.mv (.tmp 4))), none⟩,
            ⟨(some 95), (.op (.bin .sub none (.tmp 94) (.cst (.int .i64 8)))), none⟩,
            ⟨(some 4), (.op (.mv (.tmp 95))), none⟩] []))))))))))))))
    (.seq (.region [
      ⟨(some 96), (.op (.mv (.tmp 1))), none⟩,
      ⟨(some 97), (.op (.cInt .u32 (.tmp 96))), none⟩,
      ⟨(some 12), (.op (.mv (.tmp 97))), none⟩] [])
    (.seq (.seq (.region [
      ⟨(some 98), (.op (.mv (.tmp 4))), none⟩,
      ⟨(some 99), (.op (.bin .geq none (.tmp 98) (.cst (.int .i64 4)))), none⟩] [])
    (.cond (.tmp 99)
      (.seq (.region [
        ⟨(some 100), (.op (.mv (.tmp 12))), none⟩,
        ⟨(some 101), (.op (.bin .rem none (.tmp 100) (.cst (.int .u32 10000)))), none⟩,
        ⟨(some 13), (.op (.mv (.tmp 101))), none⟩] [])
      (.seq (.region [
        ⟨(some 102), (.op (.mv (.tmp 12))), none⟩,
        ⟨(some 103), (.op (.bin .quo none (.tmp 102) (.cst (.int .u32 10000)))), none⟩,
        ⟨(some 12), (.op (.mv (.tmp 103))), none⟩] [])
      (.seq (.region [
        ⟨(some 104), (.op (.mv (.tmp 13))), none⟩,
        ⟨(some 105), (.op (.bin .quo none (.tmp 104) (.cst (.int .u32 100)))), none⟩,
        ⟨(some 106), (.op (.bin .mul none (.tmp 105) (.cst (.int .u32 2)))), none⟩,
        ⟨(some 107), (.op (.mv (.tmp 13))), none⟩,
        ⟨(some 108), (.op (.bin .rem none (.tmp 107) (.cst (.int .u32 100)))), none⟩,
        ⟨(some 109), (.op (.bin .mul none (.tmp 108) (.cst (.int .u32 2)))), none⟩,
        ⟨(some 14), (.op (.mv (.tmp 106))), none⟩,
        ⟨(some 15), (.op (.mv (.tmp 109))), none⟩] [])
      (.seq (.draw [
        ⟨(some 110), (.op (.mv (.tmp 0))), none⟩,
        ⟨(some 111), (.op (.mv (.tmp 4))), none⟩,
        ⟨(some 112), (.op (.bin .sub none (.tmp 111) (.cst (.int .i64 1)))), none⟩,
        ⟨(some 113), (.op (.mv (.tmp 0))), none⟩,
        ⟨(some 114), (.op (.mv (.tmp 4))), none⟩,
        ⟨(some 115), (.op (.bin .sub none (.tmp 114) (.cst (.int .i64 2)))), none⟩,
        ⟨(some 116), (.op (.mv (.tmp 15))), none⟩,
        ⟨(some 117), (.op (.bin .add none (.tmp 116) (.cst (.int .u32 1)))), none⟩,
        ⟨(some 118), (.op (.idxStr (.cst (.str [48, 48, 48, 49, 48, 50, 48, 51, 48, 52, 48, 53, 48, 54, 48, 55, 48, 56, 48, 57, 49, 48, 49, 49, 49, 50, 49, 51, 49, 52, 49, 53, 49, 54, 49, 55, 49, 56, 49, 57, 50, 48, 50, 49, 50, 50, 50, 51, 50, 52, 50, 53, 50, 54, 50, 55, 50, 56, 50, 57, 51, 48, 51, 49, 51, 50, 51, 51, 51, 52, 51, 53, 51, 54, 51, 55, 51, 56, 51, 57, 52, 48, 52, 49, 52, 50, 52, 51, 52, 52, 52, 53, 52, 54, 52, 55, 52, 56, 52, 57, 53, 48, 53, 49, 53, 50, 53, 51, 53, 52, 53, 53, 53, 54, 53, 55, 53, 56, 53, 57, 54, 48, 54, 49, 54, 50, 54, 51, 54, 52, 54, 53, 54, 54, 54, 55, 54, 56, 54, 57, 55, 48, 55, 49, 55, 50, 55, 51, 55, 52, 55, 53, 55, 54, 55, 55, 55, 56, 55, 57, 56, 48, 56, 49, 56, 50, 56, 51, 56, 52, 56, 53, 56, 54, 56, 55, 56, 56, 56, 57, 57, 48, 57, 49, 57, 50, 57, 51, 57, 52, 57, 53, 57, 54, 57, 55, 57, 56, 57, 57])) (.tmp 117))), none⟩,
        ⟨(some 119), (.op (.mv (.tmp 15))), none⟩,
        ⟨(some 120), (.op (.idxStr (.cst (.str [48, 48, 48, 49, 48, 50, 48, 51, 48, 52, 48, 53, 48, 54, 48, 55, 48, 56, 48, 57, 49, 48, 49, 49, 49, 50, 49, 51, 49, 52, 49, 53, 49, 54, 49, 55, 49, 56, 49, 57, 50, 48, 50, 49, 50, 50, 50, 51, 50, 52, 50, 53, 50, 54, 50, 55, 50, 56, 50, 57, 51, 48, 51, 49, 51, 50, 51, 51, 51, 52, 51, 53, 51, 54, 51, 55, 51, 56, 51, 57, 52, 48, 52, 49, 52, 50, 52, 51, 52, 52, 52, 53, 52, 54, 52, 55, 52, 56, 52, 57, 53, 48, 53, 49, 53, 50, 53, 51, 53, 52, 53, 53, 53, 54, 53, 55, 53, 56, 53, 57, 54, 48, 54, 49, 54, 50, 54, 51, 54, 52, 54, 53, 54, 54, 54, 55, 54, 56, 54, 57, 55, 48, 55, 49, 55, 50, 55, 51, 55, 52, 55, 53, 55, 54, 55, 55, 55, 56, 55, 57, 56, 48, 56, 49, 56, 50, 56, 51, 56, 52, 56, 53, 56, 54, 56, 55, 56, 56, 56, 57, 57, 48, 57, 49, 57, 50, 57, 51, 57, 52, 57, 53, 57, 54, 57, 55, 57, 56, 57, 57])) (.tmp 119))), none⟩,
        ⟨(some 121), (.op (.idxS 1 (.tmp 110) (.tmp 112))), none⟩,
        ⟨none, (.op (.store 1 (.tmp 121) (.tmp 118))), none⟩,
        ⟨(some 122), (.op (.idxS 1 (.tmp 113) (.tmp 115))), none⟩,
        ⟨none, (.op (.store 1 (.tmp 122) (.tmp 120))), none⟩] [0, 1, 2, 3, 4, 5, 6, 7, 8, 9, 10, 11, 12, 13, 14] [[], [], [], [], [], [], [], [], [], [], [], [], [11], [], [13, 11]] [])
      (.seq (.draw [
        ⟨(some 123), (.op (.mv (.tmp 0))), none⟩,
        ⟨(some 124), (.op (.mv (.tmp 4))), none⟩,
        ⟨(some 125), (.op (.bin .sub none (.tmp 124) (.cst (.int .i64 3)))), none⟩,
        ⟨(some 126), (.op (.mv (.tmp 0))), none⟩,
        ⟨(some 127), (.op (.mv (.tmp 4))), none⟩,
        ⟨(some 128), (.op (.bin .sub none (.tmp 127) (.cst (.int .i64 4)))), none⟩,
        ⟨(some 129), (.op (.mv (.tmp 14))), none⟩,
        ⟨(some 130), (.op (.bin .add none (.tmp 129) (.cst (.int .u32 1)))), none⟩,
        ⟨(some 131), (.op (.idxStr (.cst (.str [48, 48, 48, 49, 48, 50, 48, 51, 48, 52, 48, 53, 48, 54, 48, 55, 48, 56, 48, 57, 49, 48, 49, 49, 49, 50, 49, 51, 49, 52, 49, 53, 49, 54, 49, 55, 49, 56, 49, 57, 50, 48, 50, 49, 50, 50, 50, 51, 50, 52, 50, 53, 50, 54, 50, 55, 50, 56, 50, 57, 51, 48, 51, 49, 51, 50, 51, 51, 51, 52, 51, 53, 51, 54, 51, 55, 51, 56, 51, 57, 52, 48, 52, 49, 52, 50, 52, 51, 52, 52, 52, 53, 52, 54, 52, 55, 52, 56, 52, 57, 53, 48, 53, 49, 53, 50, 53, 51, 53, 52, 53, 53, 53, 54, 53, 55, 53, 56, 53, 57, 54, 48, 54, 49, 54, 50, 54, 51, 54, 52, 54, 53, 54, 54, 54, 55, 54, 56, 54, 57, 55, 48, 55, 49, 55, 50, 55, 51, 55, 52, 55, 53, 55, 54, 55, 55, 55, 56, 55, 57, 56, 48, 56, 49, 56, 50, 56, 51, 56, 52, 56, 53, 56, 54, 56, 55, 56, 56, 56, 57, 57, 48, 57, 49, 57, 50, 57, 51, 57, 52, 57, 53, 57, 54, 57, 55, 57, 56, 57, 57])) (.tmp 130))), none⟩,
        ⟨(some 132), (.op (.mv (.tmp 14))), none⟩,
        ⟨(some 133), (.op (.idxStr (.cst (.str [48, 48, 48, 49, 48, 50, 48, 51, 48, 52, 48, 53, 48, 54, 48, 55, 48, 56, 48, 57, 49, 48, 49, 49, 49, 50, 49, 51, 49, 52, 49, 53, 49, 54, 49, 55, 49, 56, 49, 57, 50, 48, 50, 49, 50, 50, 50, 51, 50, 52, 50, 53, 50, 54, 50, 55, 50, 56, 50, 57, 51, 48, 51, 49, 51, 50, 51, 51, 51, 52, 51, 53, 51, 54, 51, 55, 51, 56, 51, 57, 52, 48, 52, 49, 52, 50, 52, 51, 52, 52, 52, 53, 52, 54, 52, 55, 52, 56, 52, 57, 53, 48, 53, 49, 53, 50, 53, 51, 53, 52, 53, 53, 53, 54, 53, 55, 53, 56, 53, 57, 54, 48, 54, 49, 54, 50, 54, 51, 54, 52, 54, 53, 54, 54, 54, 55, 54, 56, 54, 57, 55, 48, 55, 49, 55, 50, 55, 51, 55, 52, 55, 53, 55, 54, 55, 55, 55, 56, 55, 57, 56, 48, 56, 49, 56, 50, 56, 51, 56, 52, 56, 53, 56, 54, 56, 55, 56, 56, 56, 57, 57, 48, 57, 49, 57, 50, 57, 51, 57, 52, 57, 53, 57, 54, 57, 55, 57, 56, 57, 57])) (.tmp 132))), none⟩,
        ⟨(some 134), (.op (.idxS 1 (.tmp 123) (.tmp 125))), none⟩,
        ⟨none, (.op (.store 1 (.tmp 134) (.tmp 131))), none⟩,
        ⟨(some 135), (.op (.idxS 1 (.tmp 126) (.tmp 128))), none⟩,
        ⟨none, (.op (.store 1 (.tmp 135) (.tmp 133))), none⟩] [0, 1, 2, 3, 4, 5, 6, 7, 8, 9, 10, 11, 12, 13, 14] [[], [], [], [], [], [], [], [], [], [], [], [], [11], [], [13, 11]] [])
      (.region [
        ⟨(some 136), (.op (.mv (.tmp 4))), none⟩,
        ⟨(some 137), (.op (.bin .sub none (.tmp 136) (.cst (.int .i64 4)))), none⟩,
        ⟨(some 4), (.op (.mv (.tmp 137))), none⟩] []))))))
      .skip))
    (.seq (.seq (.region [
      ⟨(some 138), (.op (.mv (.tmp 4))), none⟩,
      ⟨(some 139), (.op (.bin .geq none (.tmp 138) (.cst (.int .i64 2)))), none⟩] [])
    (.cond (.tmp 139)
      (.seq (.region [
        ⟨(some 140), (.op (.mv (.tmp 12))), none⟩,
        ⟨(some 141), (.op (.bin .rem none (.tmp 140) (.cst (.int .u32 100)))), none⟩,
        ⟨(some 142), (.op (.bin .mul none (.tmp 141) (.cst (.int .u32 2)))), none⟩,
        ⟨(some 16), (.op (.mv (.tmp 142))), none⟩] [])
      (.seq (.region [
        ⟨(some 143), (.op (.mv (.tmp 12))), none⟩,
        ⟨(some 144), (.op (.bin .quo none (.tmp 143) (.cst (.int .u32 100)))), none⟩,
        ⟨(some 12), (.op (.mv (.tmp 144))), none⟩] [])
      (.seq (.draw [
        ⟨(some 145), (.op (.mv (.tmp 0))), none⟩,
        ⟨(some 146), (.op (.mv (.tmp 4))), none⟩,
        ⟨(some 147), (.op (.bin .sub none (.tmp 146) (.cst (.int .i64 1)))), none⟩,
        ⟨(some 148), (.op (.mv (.tmp 0))), none⟩,
        ⟨(some 149), (.op (.mv (.tmp 4))), none⟩,
        ⟨(some 150), (.op (.bin .sub none (.tmp 149) (.cst (.int .i64 2)))), none⟩,
        ⟨(some 151), (.op (.mv (.tmp 16))), none⟩,
        ⟨(some 152), (.op (.bin .add none (.tmp 151) (.cst (.int .u32 1)))), none⟩,
        ⟨(some 153), (.op (.idxStr (.cst (.str [48, 48, 48, 49, 48, 50, 48, 51, 48, 52, 48, 53, 48, 54, 48, 55, 48, 56, 48, 57, 49, 48, 49, 49, 49, 50, 49, 51, 49, 52, 49, 53, 49, 54, 49, 55, 49, 56, 49, 57, 50, 48, 50, 49, 50, 50, 50, 51, 50, 52, 50, 53, 50, 54, 50, 55, 50, 56, 50, 57, 51, 48, 51, 49, 51, 50, 51, 51, 51, 52, 51, 53, 51, 54, 51, 55, 51, 56, 51, 57, 52, 48, 52, 49, 52, 50, 52, 51, 52, 52, 52, 53, 52, 54, 52, 55, 52, 56, 52, 57, 53, 48, 53, 49, 53, 50, 53, 51, 53, 52, 53, 53, 53, 54, 53, 55, 53, 56, 53, 57, 54, 48, 54, 49, 54, 50, 54, 51, 54, 52, 54, 53, 54, 54, 54, 55, 54, 56, 54, 57, 55, 48, 55, 49, 55, 50, 55, 51, 55, 52, 55, 53, 55, 54, 55, 55, 55, 56, 55, 57, 56, 48, 56, 49, 56, 50, 56, 51, 56, 52, 56, 53, 56, 54, 56, 55, 56, 56, 56, 57, 57, 48, 57, 49, 57, 50, 57, 51, 57, 52, 57, 53, 57, 54, 57, 55, 57, 56, 57, 57])) (.tmp 152))), none⟩,
        ⟨(some 154), (.op (.mv (.tmp 16))), none⟩,
        ⟨(some 155), (.op (.idxStr (.cst (.str [48, 48, 48, 49, 48, 50, 48, 51, 48, 52, 48, 53, 48, 54, 48, 55, 48, 56, 48, 57, 49, 48, 49, 49, 49, 50, 49, 51, 49, 52, 49, 53, 49, 54, 49, 55, 49, 56, 49, 57, 50, 48, 50, 49, 50, 50, 50, 51, 50, 52, 50, 53, 50, 54, 50, 55, 50, 56, 50, 57, 51, 48, 51, 49, 51, 50, 51, 51, 51, 52, 51, 53, 51, 54, 51, 55, 51, 56, 51, 57, 52, 48, 52, 49, 52, 50, 52, 51, 52, 52, 52, 53, 52, 54, 52, 55, 52, 56, 52, 57, 53, 48, 53, 49, 53, 50, 53, 51, 53, 52, 53, 53, 53, 54, 53, 55, 53, 56, 53, 57, 54, 48, 54, 49, 54, 50, 54, 51, 54, 52, 54, 53, 54, 54, 54, 55, 54, 56, 54, 57, 55, 48, 55, 49, 55, 50, 55, 51, 55, 52, 55, 53, 55, 54, 55, 55, 55, 56, 55, 57, 56, 48, 56, 49, 56, 50, 56, 51, 56, 52, 56, 53, 56, 54, 56, 55, 56, 56, 56, 57, 57, 48, 57, 49, 57, 50, 57, 51, 57, 52, 57, 53, 57, 54, 57, 55, 57, 56, 57, 57])) (.tmp 154))), none⟩,
        ⟨(some 156), (.op (.idxS 1 (.tmp 145) (.tmp 147))), none⟩,
        ⟨none, (.op (.store 1 (.tmp 156) (.tmp 153))), none⟩,
        ⟨(some 157), (.op (.idxS 1 (.tmp 148) (.tmp 150))), none⟩,
        ⟨none, (.op (.store 1 (.tmp 157) (.tmp 155))), none⟩] [0, 1, 2, 3, 4, 5, 6, 7, 8, 9, 10, 11, 12, 13, 14] [[], [], [], [], [], [], [], [], [], [], [], [], [11], [], [13, 11]] [])
      (.region [
        ⟨(some 158), (.op (.mv (.tmp 4))), none⟩,
        ⟨(some 159), (.op (.bin .sub none (.tmp 158) (.cst (.int .i64 2)))), none⟩,
        ⟨(some 4), (.op (.mv (.tmp 159))), none⟩] []))))
      .skip))
    (.seq (.region [
      ⟨(some 160), (.op (.mv (.tmp 4))), none⟩,
      ⟨(some 161), (.op (.bin .gtr none (.tmp 160) (.cst (.int .i64 0)))), none⟩] [])
    (.cond (.tmp 161)
      (.region [
        ⟨(some 162), (.op (.mv (.tmp 0))), none⟩,
        ⟨(some 163), (.op (.mv (.tmp 12))), none⟩,
        ⟨(some 164), (.op (.bin .add none (.cst (.int .u32 48)) (.tmp 163))), none⟩,
        ⟨(some 165), (.op (.cInt .u8 (.tmp 164))), none⟩,
        ⟨(some 166), (.op (.idxS 1 (.tmp 162) (.cst (.int .i64 0)))), none⟩,
        ⟨none, (.op (.store 1 (.tmp 166) (.tmp 165))), none⟩] [])
      .skip)))))))⟩
theorem c45 : cFn Tryd.prog [] Tryd.f45 = some h45 := by kernel_rfl
/-- internal/stringslite.Index -/
def h52 : HFn :=
  ⟨143, [(.tmp 4)],
    (.seq (.region [
      ⟨(some 4), (.op (.mv (.cst (.int .i64 0)))), none⟩] [])
    (.seq (.region [
      ⟨(some 14), (.op (.mv (.tmp 1))), none⟩,
      ⟨(some 15), (.op (.len .str (.tmp 14))), none⟩,
      ⟨(some 5), (.op (.mv (.tmp 15))), none⟩] [])
    (.seq (.block 0
      (.seq (.region [
        ⟨(some 17), (.op (.mv (.tmp 5))), none⟩,
        ⟨(some 18), (.op (.bin .eql (some .int) (.tmp 17) (.cst (.int .i64 0)))), none⟩,
        ⟨(some 19), (.op (.mv (.tmp 18))), none⟩,
        ⟨(some 20), (.op (.mv (.tmp 1))), (some (19, false))⟩,
        ⟨(some 21), (.op (.mv (.tmp 0))), (some (19, false))⟩,
        ⟨(some 22), (.op (.bin .eql (some .str) (.tmp 20) (.tmp 21))), (some (19, false))⟩,
        ⟨(some 23), (.op (.pick (.tmp 19) (.cst (.bool true)) (.tmp 22))), none⟩,
        ⟨(some 16), (.op (.mv (.tmp 23))), none⟩] [])
      (.cond (.tmp 16)
        (.seq (.region [
          ⟨(some 4), (.op (.mv (.cst (.int .i64 0)))), none⟩] [])
        .ret)
        (.seq (.region [
          ⟨(some 25), (.op (.mv (.tmp 5))), none⟩,
          ⟨(some 26), (.op (.bin .eql (some .int) (.tmp 25) (.cst (.int .i64 1)))), none⟩,
          ⟨(some 24), (.op (.mv (.tmp 26))), none⟩] [])
        (.cond (.tmp 24)
          (.seq (.region [
            ⟨(some 27), (.op (.mv (.tmp 0))), none⟩,
            ⟨(some 28), (.op (.mv (.tmp 1))), none⟩,
            ⟨(some 29), (.op (.idxStr (.tmp 28) (.cst (.int .i64 0)))), none⟩,
            ⟨(some 30), (.call (.cst (.func (.func 59) [] [])) [(.tmp 27), (.tmp 29)]), none⟩,
            ⟨(some 4), (.op (.mv (.tmp 30))), none⟩] [])
          .ret)
          (.seq (.region [
            ⟨(some 32), (.op (.mv (.tmp 5))), none⟩,
            ⟨(some 33), (.op (.mv (.tmp 0))), none⟩,
            ⟨(some 34), (.op (.len .str (.tmp 33))), none⟩,
            ⟨(some 35), (.op (.bin .geq none (.tmp 32) (.tmp 34))), none⟩,
            ⟨(some 31), (.op (.mv (.tmp 35))), none⟩] [])
          (.cond (.tmp 31)
            (.seq (.region [
              ⟨(some 4), (.op (.mv (.cst (.int .i64 (-1))))), none⟩] [])
            .ret)
            (.seq (.region [
              ⟨(some 37), (.op (.mv (.tmp 5))), none⟩,
              ⟨(some 38), (.op (.gload none 1)), none⟩,
              ⟨(some 39), (.op (.bin .leq none (.tmp 37) (.tmp 38))), none⟩,
              ⟨(some 40), (.op (.mv (.tmp 39))), none⟩,
              ⟨(some 41), (.op (.mv (.tmp 0))), (some (40, true))⟩,
              ⟨(some 42), (.op (.len .str (.tmp 41))), (some (40, true))⟩,
              ⟨(some 43), (.op (.bin .leq none (.tmp 42) (.cst (.int .i64 64)))), (some (40, true))⟩,
              ⟨(some 44), (.op (.pick (.tmp 40) (.tmp 43) (.cst (.bool false)))), none⟩,
              ⟨(some 36), (.op (.mv (.tmp 44))), none⟩] [])
            (.cond (.tmp 36)
              (.seq (.region [
                ⟨(some 45), (.op (.mv (.tmp 0))), none⟩,
                ⟨(some 46), (.op (.mv (.tmp 1))), none⟩,
                ⟨(some 47), (.call (.cst (.func (.func 60) [] [])) [(.tmp 45), (.tmp 46)]), none⟩,
                ⟨(some 4), (.op (.mv (.tmp 47))), none⟩] [])
              .ret)
              .skip)))))))))
    (.seq (.region [
      ⟨(some 48), (.op (.mv (.tmp 1))), none⟩,
      ⟨(some 49), (.op (.idxStr (.tmp 48) (.cst (.int .i64 0)))), none⟩,
      ⟨(some 6), (.op (.mv (.tmp 49))), none⟩] [])
    (.seq (.region [
      ⟨(some 50), (.op (.mv (.tmp 1))), none⟩,
      ⟨(some 51), (.op (.idxStr (.tmp 50) (.cst (.int .i64 1)))), none⟩,
      ⟨(some 7), (.op (.mv (.tmp 51))), none⟩] [])
    (.seq (.region [
      ⟨(some 8), (.op (.mv (.cst (.int .i64 0)))), none⟩] [])
    (.seq (.region [
      ⟨(some 52), (.op (.mv (.tmp 0))), none⟩,
      ⟨(some 53), (.op (.len .str (.tmp 52))), none⟩,
      ⟨(some 54), (.op (.mv (.tmp 5))), none⟩,
      ⟨(some 55), (.op (.bin .sub none (.tmp 53) (.tmp 54))), none⟩,
      ⟨(some 56), (.op (.bin .add none (.tmp 55) (.cst (.int .i64 1)))), none⟩,
      ⟨(some 9), (.op (.mv (.tmp 56))), none⟩] [])
    (.seq (.region [
      ⟨(some 10), (.op (.mv (.cst (.int .i64 0)))), none⟩] [])
    (.seq (.block 1
      (.loop
        (.seq (.seq (.region [
          ⟨(some 57), (.op (.mv (.tmp 8))), none⟩,
          ⟨(some 58), (.op (.mv (.tmp 9))), none⟩,
          ⟨(some 59), (.op (.bin .lss none (.tmp 57) (.tmp 58))), none⟩] [])
        (.cond (.tmp 59)
          .skip
          (.exit 1)))
        (.block 2
          (.seq (.seq (.region [
            ⟨(some 60), (.op (.mv (.tmp 0))), none⟩,
            ⟨(some 61), (.op (.mv (.tmp 8))), none⟩,
            ⟨(some 62), (.op (.idxStr (.tmp 60) (.tmp 61))), none⟩,
            ⟨(some 63), (.op (.mv (.tmp 6))), none⟩,
            ⟨(some 64), (.op (.bin .neq (some .int) (.tmp 62) (.tmp 63))), none⟩] [])
          (.cond (.tmp 64)
            (.seq (.region [
              ⟨(some 65), (.op (.mv (.tmp 0))), none⟩,
              ⟨(some 66), (.op (.mv (.tmp 8))), none⟩,
              ⟨(some 67), (.op (.bin .add none (.tmp 66) (.cst (.int .i64 1)))), none⟩,
              ⟨(some 68), (.op (.mv (.tmp 9))), none⟩,
              ⟨(some 69), (.op (.sliceStr (.tmp 65) (some (.tmp 67)) (some (.tmp 68)))), none⟩,
              ⟨(some 70), (.op (.mv (.tmp 6))), none⟩,
              ⟨(some 71), (.call (.cst (.func (.func 59) [] [])) [(.tmp 69), (.tmp 70)]), none⟩,
              ⟨(some 11), (.op (.mv (.tmp 71))), none⟩] [])
            (.seq (.seq (.region [
              ⟨(some 72), (.op (.mv (.tmp 11))), none⟩,
              ⟨(some 73), (.op (.bin .lss none (.tmp 72) (.cst (.int .i64 0)))), none⟩] [])
            (.cond (.tmp 73)
              (.seq (.region [
                ⟨(some 4), (.op (.mv (.cst (.int .i64 (-1))))), none⟩] [])
              .ret)
              .skip))
            (.region [
              ⟨(some 74), (.op (.mv (.tmp 8))), none⟩,
              ⟨(some 75), (.op (.mv (.tmp 11))), none⟩,
              ⟨(some 76), (.op (.bin .add none (.tmp 75) (.cst (.int .i64 1)))), none⟩,
              ⟨(some 77), (.op (.bin .add none (.tmp 74) (.tmp 76))), none⟩,
              ⟨(some 8), (.op (.mv (.tmp 77))), none⟩] [])))
            .skip))
          (.seq (.seq (.region [
            ⟨(some 78), (.op (.mv (.tmp 0))), none⟩,
            ⟨(some 79), (.op (.mv (.tmp 8))), none⟩,
            ⟨(some 80), (.op (.bin .add none (.tmp 79) (.cst (.int .i64 1)))), none⟩,
            ⟨(some 81), (.op (.idxStr (.tmp 78) (.tmp 80))), none⟩,
            ⟨(some 82), (.op (.mv (.tmp 7))), none⟩,
            ⟨(some 83), (.op (.bin .eql (some .int) (.tmp 81) (.tmp 82))), none⟩,
            ⟨(some 84), (.op (.mv (.tmp 83))), none⟩,
            ⟨(some 85), (.op (.mv (.tmp 0))), (some (84, true))⟩,
            ⟨(some 86), (.op (.mv (.tmp 8))), (some (84, true))⟩,
            ⟨(some 87), (.op (.mv (.tmp 8))), (some (84, true))⟩,
            ⟨(some 88), (.op (.mv (.tmp 5))), (some (84, true))⟩,
            ⟨(some 89), (.op (.bin .add none (.tmp 87) (.tmp 88))), (some (84, true))⟩,
            ⟨(some 90), (.op (.sliceStr (.tmp 85) (some (.tmp 86)) (some (.tmp 89)))), (some (84, true))⟩,
            ⟨(some 91), (.op (.mv (.tmp 1))), (some (84, true))⟩,
            ⟨(some 92), (.op (.bin .eql (some .str) (.tmp 90) (.tmp 91))), (some (84, true))⟩,
            ⟨(some 93), (.op (.pick (.tmp 84) (.tmp 92) (.cst (.bool false)))), none⟩] [])
          (.cond (.tmp 93)
            (.seq (.region [
              ⟨(some 94), (.op (.mv (.tmp 8))), none⟩,
              ⟨(some 4), (.op (.mv (.tmp 94))), none⟩] [])
            .ret)
            .skip))
          (.seq (.region [
            ⟨(some 95), (.op (.mv (.tmp 8))), none⟩,
            ⟨(some 96), (.op (.bin .add none (.tmp 95) (.cst (.int .i64 1)))), none⟩,
            ⟨(some 8), (.op (.mv (.tmp 96))), none⟩] [])
          (.seq (.region [
            ⟨(some 97), (.op (.mv (.tmp 10))), none⟩,
            ⟨(some 98), (.op (.bin .add none (.tmp 97) (.cst (.int .i64 1)))), none⟩,
            ⟨(some 10), (.op (.mv (.tmp 98))), none⟩] [])
          (.seq (.region [
            ⟨(some 99), (.op (.mv (.tmp 5))), none⟩,
            ⟨(some 100), (.op (.gload none 1)), none⟩,
            ⟨(some 101), (.op (.bin .leq none (.tmp 99) (.tmp 100))), none⟩,
            ⟨(some 102), (.op (.mv (.tmp 101))), none⟩,
            ⟨(some 103), (.op (.mv (.tmp 10))), (some (102, true))⟩,
            ⟨(some 104), (.op (.mv (.tmp 8))), (some (102, true))⟩,
            ⟨(some 105), (.call (.cst (.func (.func 61) [] [])) [(.tmp 104)]), (some (102, true))⟩,
            ⟨(some 106), (.op (.bin .gtr none (.tmp 103) (.tmp 105))), (some (102, true))⟩,
            ⟨(some 107), (.op (.pick (.tmp 102) (.tmp 106) (.cst (.bool false)))), none⟩] [])
          (.cond (.tmp 107)
            (.seq (.region [
              ⟨(some 108), (.op (.mv (.tmp 0))), none⟩,
              ⟨(some 109), (.op (.mv (.tmp 8))), none⟩,
              ⟨(some 110), (.op (.sliceStr (.tmp 108) (some (.tmp 109)) none)), none⟩,
              ⟨(some 111), (.op (.mv (.tmp 1))), none⟩,
              ⟨(some 112), (.call (.cst (.func (.func 60) [] [])) [(.tmp 110), (.tmp 111)]), none⟩,
              ⟨(some 12), (.op (.mv (.tmp 112))), none⟩] [])
            (.seq (.seq (.region [
              ⟨(some 113), (.op (.mv (.tmp 12))), none⟩,
              ⟨(some 114), (.op (.bin .geq none (.tmp 113) (.cst (.int .i64 0)))), none⟩] [])
            (.cond (.tmp 114)
              (.seq (.region [
                ⟨(some 115), (.op (.mv (.tmp 12))), none⟩,
                ⟨(some 116), (.op (.mv (.tmp 8))), none⟩,
                ⟨(some 117), (.op (.bin .add none (.tmp 115) (.tmp 116))), none⟩,
                ⟨(some 4), (.op (.mv (.tmp 117))), none⟩] [])
              .ret)
              .skip))
            (.seq (.region [
              ⟨(some 4), (.op (.mv (.cst (.int .i64 (-1))))), none⟩] [])
            .ret)))
            (.seq (.region [
              ⟨(some 118), (.op (.mv (.tmp 5))), none⟩,
              ⟨(some 119), (.op (.gload none 1)), none⟩,
              ⟨(some 120), (.op (.bin .gtr none (.tmp 118) (.tmp 119))), none⟩,
              ⟨(some 121), (.op (.mv (.tmp 120))), none⟩,
              ⟨(some 122), (.op (.mv (.tmp 10))), (some (121, true))⟩,
              ⟨(some 123), (.op (.mv (.tmp 8))), (some (121, true))⟩,
              ⟨(some 124), (.op (.bin .shr none (.tmp 123) (.cst (.int .u64 4)))), (some (121, true))⟩,
              ⟨(some 125), (.op (.bin .add none (.cst (.int .i64 4)) (.tmp 124))), (some (121, true))⟩,
              ⟨(some 126), (.op (.bin .geq none (.tmp 122) (.tmp 125))), (some (121, true))⟩,
              ⟨(some 127), (.op (.pick (.tmp 121) (.tmp 126) (.cst (.bool false)))), none⟩,
              ⟨(some 128), (.op (.mv (.tmp 127))), none⟩,
              ⟨(some 129), (.op (.mv (.tmp 8))), (some (128, true))⟩,
              ⟨(some 130), (.op (.mv (.tmp 9))), (some (128, true))⟩,
              ⟨(some 131), (.op (.bin .lss none (.tmp 129) (.tmp 130))), (some (128, true))⟩,
              ⟨(some 132), (.op (.pick (.tmp 128) (.tmp 131) (.cst (.bool false)))), none⟩] [])
            (.cond (.tmp 132)
              (.seq (.region [
                ⟨(some 133), (.op (.mv (.tmp 0))), none⟩,
                ⟨(some 134), (.op (.mv (.tmp 8))), none⟩,
                ⟨(some 135), (.op (.sliceStr (.tmp 133) (some (.tmp 134)) none)), none⟩,
                ⟨(some 136), (.op (.mv (.tmp 1))), none⟩,
                ⟨(some 137), (.call (.cst (.func (.func 62) [] [])) [(.tmp 135), (.tmp 136)]), none⟩,
                ⟨(some 13), (.op (.mv (.tmp 137))), none⟩] [])
              (.seq (.seq (.region [
                ⟨(some 138), (.op (.mv (.tmp 13))), none⟩,
                ⟨(some 139), (.op (.bin .lss none (.tmp 138) (.cst (.int .i64 0)))), none⟩] [])
              (.cond (.tmp 139)
                (.seq (.region [
                  ⟨(some 4), (.op (.mv (.cst (.int .i64 (-1))))), none⟩] [])
                .ret)
                .skip))
              (.seq (.region [
                ⟨(some 140), (.op (.mv (.tmp 8))), none⟩,
                ⟨(some 141), (.op (.mv (.tmp 13))), none⟩,
                ⟨(some 142), (.op (.bin .add none (.tmp 140) (.tmp 141))), none⟩,
                ⟨(some 4), (.op (.mv (.tmp 142))), none⟩] [])
              .ret)))
              .skip))))))))))))
    (.seq (.region [
      ⟨(some 4), (.op (.mv (.cst (.int .i64 (-1))))), none⟩] [])
    .ret))))))))))⟩
theorem c52 : cFn Tryd.prog [] Tryd.f52 = some h52 := by kernel_rfl
/-- internal/strconv.log10Pow2 -/
def h53 : HFn :=
  ⟨6, [(.tmp 2)],
    (.seq (.region [
      ⟨(some 2), (.op (.mv (.cst (.int .i64 0)))), none⟩] [])
    (.seq (.region [
      ⟨(some 3), (.op (.mv (.tmp 0))), none⟩,
      ⟨(some 4), (.op (.bin .mul none (.tmp 3) (.cst (.int .i64 78913)))), none⟩,
      ⟨(some 5), (.op (.bin .shr none (.tmp 4) (.cst (.int .u64 18)))), none⟩,
      ⟨(some 2), (.op (.mv (.tmp 5))), none⟩] [])
    .ret))⟩
theorem c53 : cFn Tryd.prog [] Tryd.f53 = some h53 := by kernel_rfl
/-- math/bits.Len64 -/
def h54 : HFn :=
  ⟨25, [(.tmp 2)],
    (.seq (.region [
      ⟨(some 2), (.op (.mv (.cst (.int .i64 0)))), none⟩] [])
    (.seq (.seq (.region [
      ⟨(some 3), (.op (.mv (.tmp 0))), none⟩,
      ⟨(some 4), (.op (.bin .geq none (.tmp 3) (.cst (.int .u64 4294967296)))), none⟩] [])
    (.cond (.tmp 4)
      (.seq (.region [
        ⟨(some 5), (.op (.mv (.tmp 0))), none⟩,
        ⟨(some 6), (.op (.bin .shr none (.tmp 5) (.cst (.int .u64 32)))), none⟩,
        ⟨(some 0), (.op (.mv (.tmp 6))), none⟩] [])
      (.region [
        ⟨(some 2), (.op (.mv (.cst (.int .i64 32)))), none⟩] []))
      .skip))
    (.seq (.seq (.region [
      ⟨(some 7), (.op (.mv (.tmp 0))), none⟩,
      ⟨(some 8), (.op (.bin .geq none (.tmp 7) (.cst (.int .u64 65536)))), none⟩] [])
    (.cond (.tmp 8)
      (.seq (.region [
        ⟨(some 9), (.op (.mv (.tmp 0))), none⟩,
        ⟨(some 10), (.op (.bin .shr none (.tmp 9) (.cst (.int .u64 16)))), none⟩,
        ⟨(some 0), (.op (.mv (.tmp 10))), none⟩] [])
      (.region [
        ⟨(some 11), (.op (.mv (.tmp 2))), none⟩,
        ⟨(some 12), (.op (.bin .add none (.tmp 11) (.cst (.int .i64 16)))), none⟩,
        ⟨(some 2), (.op (.mv (.tmp 12))), none⟩] []))
      .skip))
    (.seq (.seq (.region [
      ⟨(some 13), (.op (.mv (.tmp 0))), none⟩,
      ⟨(some 14), (.op (.bin .geq none (.tmp 13) (.cst (.int .u64 256)))), none⟩] [])
    (.cond (.tmp 14)
      (.seq (.region [
        ⟨(some 15), (.op (.mv (.tmp 0))), none⟩,
        ⟨(some 16), (.op (.bin .shr none (.tmp 15) (.cst (.int .u64 8)))), none⟩,
        ⟨(some 0), (.op (.mv (.tmp 16))), none⟩] [])
      (.region [
        ⟨(some 17), (.op (.mv (.tmp 2))), none⟩,
        ⟨(some 18), (.op (.bin .add none (.tmp 17) (.cst (.int .i64 8)))), none⟩,
        ⟨(some 2), (.op (.mv (.tmp 18))), none⟩] []))
      .skip))
    (.seq (.region [
      ⟨(some 19), (.op (.mv (.tmp 2))), none⟩,
      ⟨(some 20), (.op (.mv (.tmp 0))), none⟩,
      ⟨(some 21), (.op (.cInt .u8 (.tmp 20))), none⟩,
      ⟨(some 22), (.op (.idxStr (.cst (.str [0, 1, 2, 2, 3, 3, 3, 3, 4, 4, 4, 4, 4, 4, 4, 4, 5, 5, 5, 5, 5, 5, 5, 5, 5, 5, 5, 5, 5, 5, 5, 5, 6, 6, 6, 6, 6, 6, 6, 6, 6, 6, 6, 6, 6, 6, 6, 6, 6, 6, 6, 6, 6, 6, 6, 6, 6, 6, 6, 6, 6, 6, 6, 6, 7, 7, 7, 7, 7, 7, 7, 7, 7, 7, 7, 7, 7, 7, 7, 7, 7, 7, 7, 7, 7, 7, 7, 7, 7, 7, 7, 7, 7, 7, 7, 7, 7, 7, 7, 7, 7, 7, 7, 7, 7, 7, 7, 7, 7, 7, 7, 7, 7, 7, 7, 7, 7, 7, 7, 7, 7, 7, 7, 7, 7, 7, 7, 7, 8, 8, 8, 8, 8, 8, 8, 8, 8, 8, 8, 8, 8, 8, 8, 8, 8, 8, 8, 8, 8, 8, 8, 8, 8, 8, 8, 8, 8, 8, 8, 8, 8, 8, 8, 8, 8, 8, 8, 8, 8, 8, 8, 8, 8, 8, 8, 8, 8, 8, 8, 8, 8, 8, 8, 8, 8, 8, 8, 8, 8, 8, 8, 8, 8, 8, 8, 8, 8, 8, 8, 8, 8, 8, 8, 8, 8, 8, 8, 8, 8, 8, 8, 8, 8, 8, 8, 8, 8, 8, 8, 8, 8, 8, 8, 8, 8, 8, 8, 8, 8, 8, 8, 8, 8, 8, 8, 8, 8, 8, 8, 8, 8, 8, 8, 8, 8, 8, 8, 8, 8, 8, 8, 8, 8, 8, 8, 8])) (.tmp 21))), none⟩,
      ⟨(some 23), (.op (.cInt .i64 (.tmp 22))), none⟩,
      ⟨(some 24), (.op (.bin .add none (.tmp 19) (.tmp 23))), none⟩,
      ⟨(some 2), (.op (.mv (.tmp 24))), none⟩] [])
    .ret)))))⟩
theorem c54 : cFn Tryd.prog [] Tryd.f54 = some h54 := by kernel_rfl
/-- internal/strconv.bool2[int] -/
def h55 : HFn :=
  ⟨4, [(.tmp 2)],
    (.seq (.region [
      ⟨(some 2), (.op (.mv (.cst (.int .i64 0)))), none⟩] [])
    (.seq (.seq (.region [
      ⟨(some 3), (.op (.mv (.tmp 0))), none⟩] [])
    (.cond (.tmp 3)
      (.seq (.region [
        ⟨(some 2), (.op (.mv (.cst (.int .i64 1)))), none⟩] [])
      .ret)
      .skip))
    (.seq (.region [
      ⟨(some 2), (.op (.mv (.cst (.int .i64 0)))), none⟩] [])
    .ret)))⟩
theorem c55 : cFn Tryd.prog [] Tryd.f55 = some h55 := by kernel_rfl
/-- internal/stringslite.IndexByte -/
def h59 : HFn :=
  ⟨8, [(.tmp 4)],
    (.seq (.region [
      ⟨(some 4), (.op (.mv (.cst (.int .i64 0)))), none⟩] [])
    (.seq (.region [
      ⟨(some 5), (.op (.mv (.tmp 0))), none⟩,
      ⟨(some 6), (.op (.mv (.tmp 1))), none⟩,
      ⟨(some 7), (.call (.cst (.func (.func 65) [] [])) [(.tmp 5), (.tmp 6)]), none⟩,
      ⟨(some 4), (.op (.mv (.tmp 7))), none⟩] [])
    .ret))⟩
theorem c59 : cFn Tryd.prog [] Tryd.f59 = some h59 := by kernel_rfl
def F : FuncId → Option HFn
  | 5 => some h5
  | 10 => some h10
  | 11 => some h11
  | 13 => some h13
  | 15 => some h15
  | 16 => some h16
  | 20 => some h20
  | 23 => some h23
  | 24 => some h24
  | 29 => some h29
  | 30 => some h30
  | 31 => some h31
  | 32 => some h32
  | 36 => some h36
  | 37 => some h37
  | 41 => some h41
  | 42 => some h42
  | 44 => some h44
  | 45 => some h45
  | 52 => some h52
  | 53 => some h53
  | 54 => some h54
  | 55 => some h55
  | 59 => some h59
  | _ => none
theorem F_ok : FOk Tryd.prog F := by
  intro f hf h
  unfold F at h
  split at h
  · simp at h; subst h; exact ⟨_, [], Tryd.func5, c5⟩
  · simp at h; subst h; exact ⟨_, [], Tryd.func10, c10⟩
  · simp at h; subst h; exact ⟨_, [], Tryd.func11, c11⟩
  · simp at h; subst h; exact ⟨_, [], Tryd.func13, c13⟩
  · simp at h; subst h; exact ⟨_, [], Tryd.func15, c15⟩
  · simp at h; subst h; exact ⟨_, [], Tryd.func16, c16⟩
  · simp at h; subst h; exact ⟨_, [], Tryd.func20, c20⟩
  · simp at h; subst h; exact ⟨_, [], Tryd.func23, c23⟩
  · simp at h; subst h; exact ⟨_, [], Tryd.func24, c24⟩
  · simp at h; subst h; exact ⟨_, [], Tryd.func29, c29⟩
  · simp at h; subst h; exact ⟨_, [], Tryd.func30, c30⟩
  · simp at h; subst h; exact ⟨_, [], Tryd.func31, c31⟩
  · simp at h; subst h; exact ⟨_, [], Tryd.func32, c32⟩
  · simp at h; subst h; exact ⟨_, [], Tryd.func36, c36⟩
  · simp at h; subst h; exact ⟨_, [], Tryd.func37, c37⟩
  · simp at h; subst h; exact ⟨_, [], Tryd.func41, c41⟩
  · simp at h; subst h; exact ⟨_, [], Tryd.func42, c42⟩
  · simp at h; subst h; exact ⟨_, [], Tryd.func44, c44⟩
  · simp at h; subst h; exact ⟨_, [], Tryd.func45, c45⟩
  · simp at h; subst h; exact ⟨_, [], Tryd.func52, c52⟩
  · simp at h; subst h; exact ⟨_, [], Tryd.func53, c53⟩
  · simp at h; subst h; exact ⟨_, [], Tryd.func54, c54⟩
  · simp at h; subst h; exact ⟨_, [], Tryd.func55, c55⟩
  · simp at h; subst h; exact ⟨_, [], Tryd.func59, c59⟩
  · simp at h
end Go.Proofs.YteedidafobfijaaDoor
