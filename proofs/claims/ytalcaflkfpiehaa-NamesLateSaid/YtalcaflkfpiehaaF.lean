import Derived.Test.YtalcaflkfpiehaaHLRound
import Derived.Test.YtalcaflkfpiehaaProg
import Derived.KernelRfl
/- The functions, turned (written by program, each checked by the kernel). -/
namespace Go.Proofs.Ytalcaflkfpiehaa
open Go Go.HL
/-- stint/stintlaw05.NamesValid -/
def h3 : HFn :=
  ⟨11, [(.tmp 2)],
    (.seq (.region [
      ⟨(some 2), (.op (.mv (.cst (.bool false)))), none⟩] [])
    (.seq (.region [
      ⟨(some 3), (.call (.cst (.func (.func 8) [] [])) []), none⟩,
      ⟨(some 4), (.op (.mv (.tmp 3))), none⟩,
      ⟨(some 5), (.op (.mv (.tmp 0))), (some (4, true))⟩,
      ⟨(some 6), (.call (.cst (.func (.func 9) [] [])) [(.tmp 5)]), (some (4, true))⟩,
      ⟨(some 7), (.op (.mv (.tmp 0))), (some (4, true))⟩,
      ⟨(some 8), (.call (.cst (.func (.func 10) [] [])) [(.tmp 7)]), (some (4, true))⟩,
      ⟨(some 9), (.op (.bin .eql (some .bool) (.tmp 6) (.tmp 8))), (some (4, true))⟩,
      ⟨(some 10), (.op (.pick (.tmp 4) (.tmp 9) (.cst (.bool false)))), none⟩,
      ⟨(some 2), (.op (.mv (.tmp 10))), none⟩] [])
    .ret))⟩
theorem c3 : cFn Try.prog [] Try.f3 = some h3 := by kernel_rfl
/-- stint/stintlaw05.NamesNames -/
def h4 : HFn :=
  ⟨8, [(.tmp 0)],
    (.seq (.region [
      ⟨(some 0), (.op (.mv (.cst (.bool false)))), none⟩] [])
    (.seq (.region [
      ⟨(some 1), (.call (.cst (.func (.func 8) [] [])) []), none⟩,
      ⟨(some 2), (.op (.mv (.tmp 1))), none⟩,
      ⟨(some 3), (.op (.pick (.tmp 2) (.cst (.bool true)) (.cst (.bool false)))), none⟩,
      ⟨(some 4), (.op (.mv (.tmp 3))), none⟩,
      ⟨(some 5), (.op (.pick (.tmp 4) (.cst (.bool true)) (.cst (.bool false)))), none⟩,
      ⟨(some 6), (.op (.mv (.tmp 5))), none⟩,
      ⟨(some 7), (.op (.pick (.tmp 6) (.cst (.bool true)) (.cst (.bool false)))), none⟩,
      ⟨(some 0), (.op (.mv (.tmp 7))), none⟩] [])
    .ret))⟩
theorem c4 : cFn Try.prog [] Try.f4 = some h4 := by kernel_rfl
/-- stint/stintlaw05.shown -/
def h8 : HFn :=
  ⟨89, [(.tmp 0)],
    (.seq (.region [
      ⟨(some 0), (.op (.mv (.cst (.bool false)))), none⟩] [])
    (.seq (.region [
      ⟨(some 13), (.call (.cst (.func (.func 11) [] [])) []), none⟩,
      ⟨(some 1), (.op (.mv (.tmp 13))), none⟩] [])
    (.seq (.seq (.region [
      ⟨(some 14), (.op (.mv (.tmp 1))), none⟩,
      ⟨(some 15), (.op (.bin .eql (some .ptrN) (.tmp 14) (.cst .nilPtr))), none⟩] [])
    (.cond (.tmp 15)
      (.seq (.region [
        ⟨(some 0), (.op (.mv (.cst (.bool false)))), none⟩] [])
      .ret)
      .skip))
    (.seq (.region [
      ⟨(some 17), (.op (.mv (.tmp 1))), none⟩,
      ⟨(some 18), (.call (.cst (.func (.func 13) [] [])) [(.tmp 17), (.cst (.str [98]))]), none⟩,
      ⟨(some 16), (.op (.mv (.tmp 18))), none⟩,
      ⟨(some 19), (.op (.ext 0 (.tmp 16))), none⟩,
      ⟨(some 20), (.op (.ext 1 (.tmp 16))), none⟩,
      ⟨(some 2), (.op (.mv (.tmp 19))), none⟩,
      ⟨(some 3), (.op (.mv (.tmp 20))), none⟩] [])
    (.seq (.region [
      ⟨(some 22), (.op (.mv (.tmp 1))), none⟩,
      ⟨(some 23), (.call (.cst (.func (.func 13) [] [])) [(.tmp 22), (.cst (.str [97]))]), none⟩,
      ⟨(some 21), (.op (.mv (.tmp 23))), none⟩,
      ⟨(some 24), (.op (.ext 0 (.tmp 21))), none⟩,
      ⟨(some 25), (.op (.ext 1 (.tmp 21))), none⟩,
      ⟨(some 4), (.op (.mv (.tmp 24))), none⟩,
      ⟨(some 5), (.op (.mv (.tmp 25))), none⟩] [])
    (.seq (.region [
      ⟨(some 27), (.op (.mv (.tmp 1))), none⟩,
      ⟨(some 28), (.call (.cst (.func (.func 13) [] [])) [(.tmp 27), (.cst (.str [45]))]), none⟩,
      ⟨(some 26), (.op (.mv (.tmp 28))), none⟩,
      ⟨(some 29), (.op (.ext 0 (.tmp 26))), none⟩,
      ⟨(some 30), (.op (.ext 1 (.tmp 26))), none⟩,
      ⟨(some 6), (.op (.mv (.tmp 29))), none⟩,
      ⟨(some 7), (.op (.mv (.tmp 30))), none⟩] [])
    (.seq (.region [
      ⟨(some 31), (.op (.mv (.tmp 1))), none⟩,
      ⟨(some 32), (.call (.cst (.func (.func 16) [] [])) [(.tmp 31)]), none⟩,
      ⟨(some 8), (.op (.mv (.tmp 32))), none⟩] [])
    (.seq (.region [
      ⟨(some 33), (.op (.mv (.tmp 1))), none⟩,
      ⟨(some 34), (.call (.cst (.func (.func 12) [] [])) [(.tmp 33), (.cst (.str [98]))]), none⟩,
      ⟨(some 9), (.op (.mv (.tmp 34))), none⟩] [])
    (.seq (.region [
      ⟨(some 36), (.op (.mv (.tmp 1))), none⟩,
      ⟨(some 37), (.call (.cst (.func (.func 14) [] [])) [(.tmp 36), (.cst (.str [98]))]), none⟩,
      ⟨(some 35), (.op (.mv (.tmp 37))), none⟩,
      ⟨(some 38), (.op (.ext 0 (.tmp 35))), none⟩,
      ⟨(some 39), (.op (.ext 1 (.tmp 35))), none⟩,
      ⟨(some 10), (.op (.mv (.tmp 38))), none⟩,
      ⟨(some 11), (.op (.mv (.tmp 39))), none⟩] [])
    (.seq (.region [
      ⟨(some 40), (.op (.mv (.tmp 1))), none⟩,
      ⟨(some 41), (.call (.cst (.func (.func 18) [] [])) [(.tmp 40)]), none⟩,
      ⟨(some 12), (.op (.mv (.tmp 41))), none⟩] [])
    (.seq (.seq (.region [
      ⟨(some 42), (.op (.mv (.tmp 12))), none⟩,
      ⟨(some 43), (.op (.bin .eql (some .ptrN) (.tmp 42) (.cst .nilPtr))), none⟩,
      ⟨(some 44), (.op (.mv (.tmp 43))), none⟩,
      ⟨(some 45), (.op (.mv (.tmp 12))), (some (44, false))⟩,
      ⟨(some 46), (.call (.cst (.func (.func 12) [] [])) [(.tmp 45), (.cst (.str [97]))]), (some (44, false))⟩,
      ⟨(some 47), (.op (.bin .neq (some .int) (.tmp 46) (.cst (.int .i64 1)))), (some (44, false))⟩,
      ⟨(some 48), (.op (.pick (.tmp 44) (.cst (.bool true)) (.tmp 47))), none⟩] [])
    (.cond (.tmp 48)
      (.seq (.region [
        ⟨(some 0), (.op (.mv (.cst (.bool false)))), none⟩] [])
      .ret)
      .skip))
    (.seq (.region [
      ⟨(some 49), (.call (.cst (.func (.func 9) [] [])) [(.cst (.str [97, 45, 98, 43, 99, 47, 100, 59, 101, 46, 102, 36, 103, 95, 104, 40, 105, 41, 74, 57]))]), none⟩,
      ⟨(some 50), (.op (.mv (.tmp 49))), none⟩,
      ⟨(some 51), (.call (.cst (.func (.func 9) [] [])) [(.cst (.str [45, 97]))]), (some (50, true))⟩,
      ⟨(some 52), (.op (.un .not (.tmp 51))), (some (50, true))⟩,
      ⟨(some 53), (.op (.pick (.tmp 50) (.tmp 52) (.cst (.bool false)))), none⟩,
      ⟨(some 54), (.op (.mv (.tmp 53))), none⟩,
      ⟨(some 55), (.op (.mv (.tmp 2))), (some (54, true))⟩,
      ⟨(some 56), (.op (.bin .eql (some .int) (.tmp 55) (.cst (.int .i64 1)))), (some (54, true))⟩,
      ⟨(some 57), (.op (.pick (.tmp 54) (.tmp 56) (.cst (.bool false)))), none⟩,
      ⟨(some 58), (.op (.mv (.tmp 57))), none⟩,
      ⟨(some 59), (.op (.mv (.tmp 4))), (some (58, true))⟩,
      ⟨(some 60), (.op (.bin .eql (some .int) (.tmp 59) (.cst (.int .i64 1)))), (some (58, true))⟩,
      ⟨(some 61), (.op (.pick (.tmp 58) (.tmp 60) (.cst (.bool false)))), none⟩,
      ⟨(some 62), (.op (.mv (.tmp 61))), none⟩,
      ⟨(some 63), (.op (.mv (.tmp 3))), (some (62, true))⟩,
      ⟨(some 64), (.op (.bin .eql (some .int) (.tmp 63) (.cst (.int .i64 0)))), (some (62, true))⟩,
      ⟨(some 65), (.op (.pick (.tmp 62) (.tmp 64) (.cst (.bool false)))), none⟩,
      ⟨(some 66), (.op (.mv (.tmp 65))), none⟩,
      ⟨(some 67), (.op (.mv (.tmp 5))), (some (66, true))⟩,
      ⟨(some 68), (.op (.bin .eql (some .int) (.tmp 67) (.cst (.int .i64 0)))), (some (66, true))⟩,
      ⟨(some 69), (.op (.pick (.tmp 66) (.tmp 68) (.cst (.bool false)))), none⟩,
      ⟨(some 70), (.op (.mv (.tmp 69))), none⟩,
      ⟨(some 71), (.op (.mv (.tmp 7))), (some (70, true))⟩,
      ⟨(some 72), (.op (.bin .eql (some .int) (.tmp 71) (.cst (.int .i64 50)))), (some (70, true))⟩,
      ⟨(some 73), (.op (.pick (.tmp 70) (.tmp 72) (.cst (.bool false)))), none⟩,
      ⟨(some 74), (.op (.mv (.tmp 73))), none⟩,
      ⟨(some 75), (.op (.mv (.tmp 8))), (some (74, true))⟩,
      ⟨(some 76), (.op (.bin .eql (some .int) (.tmp 75) (.cst (.int .i64 2)))), (some (74, true))⟩,
      ⟨(some 77), (.op (.pick (.tmp 74) (.tmp 76) (.cst (.bool false)))), none⟩,
      ⟨(some 78), (.op (.mv (.tmp 77))), none⟩,
      ⟨(some 79), (.op (.mv (.tmp 9))), (some (78, true))⟩,
      ⟨(some 80), (.op (.bin .eql (some .int) (.tmp 79) (.cst (.int .i64 1)))), (some (78, true))⟩,
      ⟨(some 81), (.op (.pick (.tmp 78) (.tmp 80) (.cst (.bool false)))), none⟩,
      ⟨(some 82), (.op (.mv (.tmp 81))), none⟩,
      ⟨(some 83), (.op (.mv (.tmp 10))), (some (82, true))⟩,
      ⟨(some 84), (.op (.bin .eql (some .int) (.tmp 83) (.cst (.int .i64 0)))), (some (82, true))⟩,
      ⟨(some 85), (.op (.pick (.tmp 82) (.tmp 84) (.cst (.bool false)))), none⟩,
      ⟨(some 86), (.op (.mv (.tmp 85))), none⟩,
      ⟨(some 87), (.op (.mv (.tmp 11))), (some (86, true))⟩,
      ⟨(some 88), (.op (.pick (.tmp 86) (.tmp 87) (.cst (.bool false)))), none⟩,
      ⟨(some 0), (.op (.mv (.tmp 88))), none⟩] [])
    .ret))))))))))))⟩
theorem c8 : cFn Try.prog [] Try.f8 = some h8 := by kernel_rfl
/-- stint/names.Valid -/
def h9 : HFn :=
  ⟨28, [(.tmp 2)],
    (.seq (.region [
      ⟨(some 2), (.op (.mv (.cst (.bool false)))), none⟩] [])
    (.seq (.seq (.region [
      ⟨(some 4), (.op (.mv (.tmp 0))), none⟩,
      ⟨(some 5), (.op (.len .str (.tmp 4))), none⟩,
      ⟨(some 6), (.op (.bin .lss none (.tmp 5) (.cst (.int .i64 1)))), none⟩,
      ⟨(some 7), (.op (.mv (.tmp 6))), none⟩,
      ⟨(some 8), (.op (.mv (.tmp 0))), (some (7, false))⟩,
      ⟨(some 9), (.op (.len .str (.tmp 8))), (some (7, false))⟩,
      ⟨(some 10), (.op (.bin .gtr none (.tmp 9) (.cst (.int .i64 200)))), (some (7, false))⟩,
      ⟨(some 11), (.op (.pick (.tmp 7) (.cst (.bool true)) (.tmp 10))), none⟩,
      ⟨(some 12), (.op (.mv (.tmp 11))), none⟩,
      ⟨(some 13), (.op (.mv (.tmp 0))), (some (12, false))⟩,
      ⟨(some 14), (.op (.idxStr (.tmp 13) (.cst (.int .i64 0)))), (some (12, false))⟩,
      ⟨(some 15), (.op (.bin .eql (some .int) (.tmp 14) (.cst (.int .u8 45)))), (some (12, false))⟩,
      ⟨(some 16), (.op (.pick (.tmp 12) (.cst (.bool true)) (.tmp 15))), none⟩] [])
    (.cond (.tmp 16)
      (.seq (.region [
        ⟨(some 2), (.op (.mv (.cst (.bool false)))), none⟩] [])
      .ret)
      .skip))
    (.seq (.seq (.region [
      ⟨(some 17), (.op (.mv (.tmp 0))), none⟩,
      ⟨(some 18), (.op (.len .str (.tmp 17))), none⟩,
      ⟨(some 19), (.op (.mv (.cst (.int .i64 0)))), none⟩] [])
    (.block 0
      (.loop
        (.seq (.region [
          ⟨(some 20), (.op (.bin .lss none (.tmp 19) (.tmp 18))), none⟩] [])
        (.seq (.cond (.tmp 20)
          .skip
          (.exit 0))
        (.seq (.block 1
          (.seq (.region [
            ⟨(some 21), (.op (.mv (.tmp 19))), none⟩,
            ⟨(some 3), (.op (.mv (.tmp 21))), none⟩] [])
          (.seq (.region [
            ⟨(some 22), (.op (.mv (.tmp 0))), none⟩,
            ⟨(some 23), (.op (.mv (.tmp 3))), none⟩,
            ⟨(some 24), (.op (.idxStr (.tmp 22) (.tmp 23))), none⟩,
            ⟨(some 25), (.call (.cst (.func (.func 27) [] [])) [(.tmp 24)]), none⟩,
            ⟨(some 26), (.op (.un .not (.tmp 25))), none⟩] [])
          (.cond (.tmp 26)
            (.seq (.region [
              ⟨(some 2), (.op (.mv (.cst (.bool false)))), none⟩] [])
            .ret)
            .skip))))
        (.region [
          ⟨(some 27), (.op (.bin .add none (.tmp 19) (.cst (.int .i64 1)))), none⟩,
          ⟨(some 19), (.op (.mv (.tmp 27))), none⟩] [])))))))
    (.seq (.region [
      ⟨(some 2), (.op (.mv (.cst (.bool true)))), none⟩] [])
    .ret))))⟩
theorem c9 : cFn Try.prog [] Try.f9 = some h9 := by kernel_rfl
/-- stint/stintref05.Valid -/
def h10 : HFn :=
  ⟨68, [(.tmp 2)],
    (.seq (.region [
      ⟨(some 2), (.op (.mv (.cst (.bool false)))), none⟩] [])
    (.seq (.seq (.region [
      ⟨(some 8), (.op (.mv (.tmp 0))), none⟩,
      ⟨(some 9), (.op (.len .str (.tmp 8))), none⟩,
      ⟨(some 10), (.op (.bin .lss none (.tmp 9) (.cst (.int .i64 1)))), none⟩,
      ⟨(some 11), (.op (.mv (.tmp 10))), none⟩,
      ⟨(some 12), (.op (.mv (.tmp 0))), (some (11, false))⟩,
      ⟨(some 13), (.op (.len .str (.tmp 12))), (some (11, false))⟩,
      ⟨(some 14), (.op (.bin .gtr none (.tmp 13) (.cst (.int .i64 200)))), (some (11, false))⟩,
      ⟨(some 15), (.op (.pick (.tmp 11) (.cst (.bool true)) (.tmp 14))), none⟩,
      ⟨(some 16), (.op (.mv (.tmp 15))), none⟩,
      ⟨(some 17), (.op (.mv (.tmp 0))), (some (16, false))⟩,
      ⟨(some 18), (.op (.idxStr (.tmp 17) (.cst (.int .i64 0)))), (some (16, false))⟩,
      ⟨(some 19), (.op (.bin .eql (some .int) (.tmp 18) (.cst (.int .u8 45)))), (some (16, false))⟩,
      ⟨(some 20), (.op (.pick (.tmp 16) (.cst (.bool true)) (.tmp 19))), none⟩] [])
    (.cond (.tmp 20)
      (.seq (.region [
        ⟨(some 2), (.op (.mv (.cst (.bool false)))), none⟩] [])
      .ret)
      .skip))
    (.seq (.region [
      ⟨(some 3), (.op (.mv (.cst (.str [45, 43, 47, 59, 46, 36, 95, 40, 41])))), none⟩] [])
    (.seq (.seq (.region [
      ⟨(some 4), (.op (.mv (.cst (.int .i64 0)))), none⟩] [])
    (.block 0
      (.loop
        (.seq (.seq (.region [
          ⟨(some 21), (.op (.mv (.tmp 4))), none⟩,
          ⟨(some 22), (.op (.mv (.tmp 0))), none⟩,
          ⟨(some 23), (.op (.len .str (.tmp 22))), none⟩,
          ⟨(some 24), (.op (.bin .lss none (.tmp 21) (.tmp 23))), none⟩] [])
        (.cond (.tmp 24)
          .skip
          (.exit 0)))
        (.seq (.block 1
          (.seq (.region [
            ⟨(some 27), (.op (.mv (.tmp 0))), none⟩,
            ⟨(some 28), (.op (.mv (.tmp 4))), none⟩,
            ⟨(some 29), (.op (.idxStr (.tmp 27) (.tmp 28))), none⟩,
            ⟨(some 5), (.op (.mv (.tmp 29))), none⟩] [])
          (.seq (.region [
            ⟨(some 30), (.op (.mv (.tmp 5))), none⟩,
            ⟨(some 31), (.op (.bin .geq none (.tmp 30) (.cst (.int .u8 97)))), none⟩,
            ⟨(some 32), (.op (.mv (.tmp 31))), none⟩,
            ⟨(some 33), (.op (.mv (.tmp 5))), (some (32, true))⟩,
            ⟨(some 34), (.op (.bin .leq none (.tmp 33) (.cst (.int .u8 122)))), (some (32, true))⟩,
            ⟨(some 35), (.op (.pick (.tmp 32) (.tmp 34) (.cst (.bool false)))), none⟩,
            ⟨(some 36), (.op (.mv (.tmp 35))), none⟩,
            ⟨(some 37), (.op (.mv (.tmp 5))), (some (36, false))⟩,
            ⟨(some 38), (.op (.bin .geq none (.tmp 37) (.cst (.int .u8 65)))), (some (36, false))⟩,
            ⟨(some 39), (.op (.mv (.tmp 38))), (some (36, false))⟩,
            ⟨(some 40), (.op (.mv (.tmp 5))), (some (39, true))⟩,
            ⟨(some 41), (.op (.bin .leq none (.tmp 40) (.cst (.int .u8 90)))), (some (39, true))⟩,
            ⟨(some 42), (.op (.pick (.tmp 39) (.tmp 41) (.cst (.bool false)))), (some (36, false))⟩,
            ⟨(some 43), (.op (.pick (.tmp 36) (.cst (.bool true)) (.tmp 42))), none⟩,
            ⟨(some 44), (.op (.mv (.tmp 43))), none⟩,
            ⟨(some 45), (.op (.mv (.tmp 5))), (some (44, false))⟩,
            ⟨(some 46), (.op (.bin .geq none (.tmp 45) (.cst (.int .u8 48)))), (some (44, false))⟩,
            ⟨(some 47), (.op (.mv (.tmp 46))), (some (44, false))⟩,
            ⟨(some 48), (.op (.mv (.tmp 5))), (some (47, true))⟩,
            ⟨(some 49), (.op (.bin .leq none (.tmp 48) (.cst (.int .u8 57)))), (some (47, true))⟩,
            ⟨(some 50), (.op (.pick (.tmp 47) (.tmp 49) (.cst (.bool false)))), (some (44, false))⟩,
            ⟨(some 51), (.op (.pick (.tmp 44) (.cst (.bool true)) (.tmp 50))), none⟩,
            ⟨(some 6), (.op (.mv (.tmp 51))), none⟩] [])
          (.seq (.seq (.region [
            ⟨(some 7), (.op (.mv (.cst (.int .i64 0)))), none⟩] [])
          (.block 2
            (.loop
              (.seq (.seq (.region [
                ⟨(some 52), (.op (.mv (.tmp 7))), none⟩,
                ⟨(some 53), (.op (.mv (.tmp 3))), none⟩,
                ⟨(some 54), (.op (.len .str (.tmp 53))), none⟩,
                ⟨(some 55), (.op (.bin .lss none (.tmp 52) (.tmp 54))), none⟩] [])
              (.cond (.tmp 55)
                .skip
                (.exit 2)))
              (.seq (.block 3
                (.region [
                  ⟨(some 58), (.op (.mv (.tmp 6))), none⟩,
                  ⟨(some 59), (.op (.mv (.tmp 58))), none⟩,
                  ⟨(some 60), (.op (.mv (.tmp 5))), (some (59, false))⟩,
                  ⟨(some 61), (.op (.mv (.tmp 3))), (some (59, false))⟩,
                  ⟨(some 62), (.op (.mv (.tmp 7))), (some (59, false))⟩,
                  ⟨(some 63), (.op (.idxStr (.tmp 61) (.tmp 62))), (some (59, false))⟩,
                  ⟨(some 64), (.op (.bin .eql (some .int) (.tmp 60) (.tmp 63))), (some (59, false))⟩,
                  ⟨(some 65), (.op (.pick (.tmp 59) (.cst (.bool true)) (.tmp 64))), none⟩,
                  ⟨(some 6), (.op (.mv (.tmp 65))), none⟩] []))
              (.region [
                ⟨(some 56), (.op (.mv (.tmp 7))), none⟩,
                ⟨(some 57), (.op (.bin .add none (.tmp 56) (.cst (.int .i64 1)))), none⟩,
                ⟨(some 7), (.op (.mv (.tmp 57))), none⟩] []))))))
          (.seq (.region [
            ⟨(some 66), (.op (.mv (.tmp 6))), none⟩,
            ⟨(some 67), (.op (.un .not (.tmp 66))), none⟩] [])
          (.cond (.tmp 67)
            (.seq (.region [
              ⟨(some 2), (.op (.mv (.cst (.bool false)))), none⟩] [])
            .ret)
            .skip))))))
        (.region [
          ⟨(some 25), (.op (.mv (.tmp 4))), none⟩,
          ⟨(some 26), (.op (.bin .add none (.tmp 25) (.cst (.int .i64 1)))), none⟩,
          ⟨(some 4), (.op (.mv (.tmp 26))), none⟩] []))))))
    (.seq (.region [
      ⟨(some 2), (.op (.mv (.cst (.bool true)))), none⟩] [])
    .ret)))))⟩
theorem c10 : cFn Try.prog [] Try.f10 = some h10 := by kernel_rfl
/-- stint/names.New -/
def h11 : HFn :=
  ⟨4, [(.tmp 0)],
    (.seq (.region [
      ⟨(some 0), (.op (.mv (.cst .nilPtr))), none⟩] [])
    (.seq (.region [
      ⟨(some 1), (.op .mkMap), none⟩,
      ⟨(some 2), (.op (.build [.nilMap] [(0, 1, (.tmp 1))])), none⟩,
      ⟨(some 3), (.op (.box (.tmp 2))), none⟩,
      ⟨(some 0), (.op (.mv (.tmp 3))), none⟩] [])
    .ret))⟩
theorem c11 : cFn Try.prog [] Try.f11 = some h11 := by kernel_rfl
/-- (*stint/names.Book).Count -/
def h12 : HFn :=
  ⟨11, [(.tmp 4)],
    (.seq (.region [
      ⟨(some 4), (.op (.mv (.cst (.int .i64 0)))), none⟩] [])
    (.seq (.region [
      ⟨(some 5), (.op (.mv (.tmp 0))), none⟩,
      ⟨(some 6), (.op (.nilc (.tmp 5))), none⟩,
      ⟨(some 7), (.op (.faddr 0 (.tmp 6))), none⟩,
      ⟨(some 8), (.op (.load none (.tmp 7))), none⟩,
      ⟨(some 9), (.op (.mv (.tmp 1))), none⟩,
      ⟨(some 10), (.op (.lookup .str (.int .i64 0) false (.tmp 8) (.tmp 9))), none⟩,
      ⟨(some 4), (.op (.mv (.tmp 10))), none⟩] [])
    .ret))⟩
theorem c12 : cFn Try.prog [] Try.f12 = some h12 := by kernel_rfl
/-- (*stint/names.Book).Hold -/
def h13 : HFn :=
  ⟨22, [(.tmp 4), (.tmp 5)],
    (.seq (.region [
      ⟨(some 4), (.op (.mv (.cst (.int .i64 0)))), none⟩,
      ⟨(some 5), (.op (.mv (.cst (.int .i64 0)))), none⟩] [])
    (.seq (.seq (.region [
      ⟨(some 6), (.op (.mv (.tmp 1))), none⟩,
      ⟨(some 7), (.call (.cst (.func (.func 9) [] [])) [(.tmp 6)]), none⟩,
      ⟨(some 8), (.op (.un .not (.tmp 7))), none⟩] [])
    (.cond (.tmp 8)
      (.seq (.region [
        ⟨(some 4), (.op (.mv (.cst (.int .i64 0)))), none⟩,
        ⟨(some 5), (.op (.mv (.cst (.int .i64 50)))), none⟩] [])
      .ret)
      .skip))
    (.seq (.region [
      ⟨(some 9), (.op (.mv (.tmp 0))), none⟩,
      ⟨(some 10), (.op (.nilc (.tmp 9))), none⟩,
      ⟨(some 11), (.op (.faddr 0 (.tmp 10))), none⟩,
      ⟨(some 12), (.op (.load none (.tmp 11))), none⟩,
      ⟨(some 13), (.op (.mv (.tmp 1))), none⟩,
      ⟨(some 14), (.op (.lookup .str (.int .i64 0) false (.tmp 12) (.tmp 13))), none⟩,
      ⟨(some 15), (.op (.bin .add none (.tmp 14) (.cst (.int .i64 1)))), none⟩,
      ⟨none, (.op (.mapUpd .str (.tmp 12) (.tmp 13) (.tmp 15))), none⟩] [])
    (.seq (.region [
      ⟨(some 16), (.op (.mv (.tmp 0))), none⟩,
      ⟨(some 17), (.op (.nilc (.tmp 16))), none⟩,
      ⟨(some 18), (.op (.faddr 0 (.tmp 17))), none⟩,
      ⟨(some 19), (.op (.load none (.tmp 18))), none⟩,
      ⟨(some 20), (.op (.mv (.tmp 1))), none⟩,
      ⟨(some 21), (.op (.lookup .str (.int .i64 0) false (.tmp 19) (.tmp 20))), none⟩,
      ⟨(some 4), (.op (.mv (.tmp 21))), none⟩,
      ⟨(some 5), (.op (.mv (.cst (.int .i64 0)))), none⟩] [])
    .ret))))⟩
theorem c13 : cFn Try.prog [] Try.f13 = some h13 := by kernel_rfl
/-- (*stint/names.Book).Drop -/
def h14 : HFn :=
  ⟨32, [(.tmp 4), (.tmp 5)],
    (.seq (.region [
      ⟨(some 4), (.op (.mv (.cst (.int .i64 0)))), none⟩,
      ⟨(some 5), (.op (.mv (.cst (.bool false)))), none⟩] [])
    (.seq (.region [
      ⟨(some 7), (.op (.mv (.tmp 0))), none⟩,
      ⟨(some 8), (.op (.nilc (.tmp 7))), none⟩,
      ⟨(some 9), (.op (.faddr 0 (.tmp 8))), none⟩,
      ⟨(some 10), (.op (.load none (.tmp 9))), none⟩,
      ⟨(some 11), (.op (.mv (.tmp 1))), none⟩,
      ⟨(some 12), (.op (.lookup .str (.int .i64 0) false (.tmp 10) (.tmp 11))), none⟩,
      ⟨(some 6), (.op (.mv (.tmp 12))), none⟩] [])
    (.seq (.seq (.region [
      ⟨(some 13), (.op (.mv (.tmp 6))), none⟩] [])
    (.block 0
      (.seq (.region [
        ⟨(some 22), (.op (.bin .eql (some .int) (.tmp 13) (.cst (.int .i64 0)))), none⟩,
        ⟨(some 21), (.op (.mv (.tmp 22))), none⟩] [])
      (.cond (.tmp 21)
        (.seq (.region [
          ⟨(some 4), (.op (.mv (.cst (.int .i64 0)))), none⟩,
          ⟨(some 5), (.op (.mv (.cst (.bool false)))), none⟩] [])
        .ret)
        (.seq (.region [
          ⟨(some 24), (.op (.bin .eql (some .int) (.tmp 13) (.cst (.int .i64 1)))), none⟩,
          ⟨(some 23), (.op (.mv (.tmp 24))), none⟩] [])
        (.cond (.tmp 23)
          (.region [
            ⟨(some 25), (.op (.mv (.tmp 0))), none⟩,
            ⟨(some 26), (.op (.nilc (.tmp 25))), none⟩,
            ⟨(some 27), (.op (.faddr 0 (.tmp 26))), none⟩,
            ⟨(some 28), (.op (.load none (.tmp 27))), none⟩,
            ⟨(some 29), (.op (.mv (.tmp 1))), none⟩,
            ⟨none, (.op (.del .str (.tmp 28) (.tmp 29))), none⟩] [])
          (.region [
            ⟨(some 14), (.op (.mv (.tmp 0))), none⟩,
            ⟨(some 15), (.op (.nilc (.tmp 14))), none⟩,
            ⟨(some 16), (.op (.faddr 0 (.tmp 15))), none⟩,
            ⟨(some 17), (.op (.load none (.tmp 16))), none⟩,
            ⟨(some 18), (.op (.mv (.tmp 1))), none⟩,
            ⟨(some 19), (.op (.mv (.tmp 6))), none⟩,
            ⟨(some 20), (.op (.bin .sub none (.tmp 19) (.cst (.int .i64 1)))), none⟩,
            ⟨none, (.op (.mapUpd .str (.tmp 17) (.tmp 18) (.tmp 20))), none⟩] [])))))))
    (.seq (.region [
      ⟨(some 30), (.op (.mv (.tmp 6))), none⟩,
      ⟨(some 31), (.op (.bin .sub none (.tmp 30) (.cst (.int .i64 1)))), none⟩,
      ⟨(some 4), (.op (.mv (.tmp 31))), none⟩,
      ⟨(some 5), (.op (.mv (.cst (.bool true)))), none⟩] [])
    .ret))))⟩
theorem c14 : cFn Try.prog [] Try.f14 = some h14 := by kernel_rfl
/-- (*stint/names.Book).Names -/
def h15 : HFn :=
  ⟨21, [(.tmp 2)],
    (.seq (.region [
      ⟨(some 2), (.op (.mv (.cst .nilSlice))), none⟩] [])
    (.seq (.region [
      ⟨(some 3), (.op (.mv (.cst .nilSlice))), none⟩] [])
    (.seq (.seq (.region [
      ⟨(some 5), (.op (.mv (.tmp 0))), none⟩,
      ⟨(some 6), (.op (.nilc (.tmp 5))), none⟩,
      ⟨(some 7), (.op (.faddr 0 (.tmp 6))), none⟩,
      ⟨(some 8), (.op (.load none (.tmp 7))), none⟩,
      ⟨(some 9), (.op (.rangeMap (.tmp 8))), none⟩] [])
    (.block 0
      (.loop
        (.seq (.region [
          ⟨(some 10), (.next (.tmp 9)), none⟩,
          ⟨(some 11), (.op (.ext 0 (.tmp 10))), none⟩] [])
        (.seq (.cond (.tmp 11)
          .skip
          (.exit 0))
        (.block 1
          (.seq (.region [
            ⟨(some 12), (.op (.entry (.tmp 9))), none⟩,
            ⟨(some 13), (.op (.ext 0 (.tmp 12))), none⟩,
            ⟨(some 4), (.op (.mv (.tmp 13))), none⟩] [])
          (.region [
            ⟨(some 14), (.op (.mv (.tmp 3))), none⟩,
            ⟨(some 15), (.op (.mv (.tmp 4))), none⟩,
            ⟨(some 16), (.op (.bslice 1 1 [(.str [])] [(0, 1, (.tmp 15))])), none⟩,
            ⟨(some 17), (.op (.append 1 16 (.tmp 14) (.tmp 16))), none⟩,
            ⟨(some 3), (.op (.mv (.tmp 17))), none⟩] []))))))))
    (.seq (.region [
      ⟨(some 18), (.op (.mv (.tmp 3))), none⟩,
      ⟨(some 19), (.call (.cst (.func (.func 28) [] [])) [(.tmp 18)]), none⟩] [])
    (.seq (.region [
      ⟨(some 20), (.op (.mv (.tmp 3))), none⟩,
      ⟨(some 2), (.op (.mv (.tmp 20))), none⟩] [])
    .ret)))))⟩
theorem c15 : cFn Try.prog [] Try.f15 = some h15 := by kernel_rfl
/-- (*stint/names.Book).Len -/
def h16 : HFn :=
  ⟨8, [(.tmp 2)],
    (.seq (.region [
      ⟨(some 2), (.op (.mv (.cst (.int .i64 0)))), none⟩] [])
    (.seq (.region [
      ⟨(some 3), (.op (.mv (.tmp 0))), none⟩,
      ⟨(some 4), (.op (.nilc (.tmp 3))), none⟩,
      ⟨(some 5), (.op (.faddr 0 (.tmp 4))), none⟩,
      ⟨(some 6), (.op (.load none (.tmp 5))), none⟩,
      ⟨(some 7), (.op (.len .map (.tmp 6))), none⟩,
      ⟨(some 2), (.op (.mv (.tmp 7))), none⟩] [])
    .ret))⟩
theorem c16 : cFn Try.prog [] Try.f16 = some h16 := by kernel_rfl
/-- (*stint/names.Book).Clone -/
def h18 : HFn :=
  ⟨10, [(.tmp 2)],
    (.seq (.region [
      ⟨(some 2), (.op (.mv (.cst .nilPtr))), none⟩] [])
    (.seq (.region [
      ⟨(some 3), (.op (.mv (.tmp 0))), none⟩,
      ⟨(some 4), (.op (.nilc (.tmp 3))), none⟩,
      ⟨(some 5), (.op (.faddr 0 (.tmp 4))), none⟩,
      ⟨(some 6), (.op (.load none (.tmp 5))), none⟩,
      ⟨(some 7), (.call (.cst (.func (.func 29) [] [])) [(.tmp 6)]), none⟩,
      ⟨(some 8), (.op (.build [.nilMap] [(0, 1, (.tmp 7))])), none⟩,
      ⟨(some 9), (.op (.box (.tmp 8))), none⟩,
      ⟨(some 2), (.op (.mv (.tmp 9))), none⟩] [])
    .ret))⟩
theorem c18 : cFn Try.prog [] Try.f18 = some h18 := by kernel_rfl
/-- stint/names.may -/
def h27 : HFn :=
  ⟨25, [(.tmp 2)],
    (.seq (.region [
      ⟨(some 2), (.op (.mv (.cst (.bool false)))), none⟩] [])
    (.seq (.block 0
      (.seq (.seq (.region [
        ⟨(some 4), (.op (.mv (.tmp 0))), none⟩,
        ⟨(some 5), (.op (.bin .geq none (.tmp 4) (.cst (.int .u8 97)))), none⟩,
        ⟨(some 6), (.op (.mv (.tmp 5))), none⟩,
        ⟨(some 7), (.op (.mv (.tmp 0))), (some (6, true))⟩,
        ⟨(some 8), (.op (.bin .leq none (.tmp 7) (.cst (.int .u8 122)))), (some (6, true))⟩,
        ⟨(some 9), (.op (.pick (.tmp 6) (.tmp 8) (.cst (.bool false)))), none⟩,
        ⟨(some 3), (.op (.mv (.tmp 9))), none⟩] [])
      (.cond (.tmp 3)
        .skip
        (.seq (.region [
          ⟨(some 10), (.op (.mv (.tmp 0))), none⟩,
          ⟨(some 11), (.op (.bin .geq none (.tmp 10) (.cst (.int .u8 65)))), none⟩,
          ⟨(some 12), (.op (.mv (.tmp 11))), none⟩,
          ⟨(some 13), (.op (.mv (.tmp 0))), (some (12, true))⟩,
          ⟨(some 14), (.op (.bin .leq none (.tmp 13) (.cst (.int .u8 90)))), (some (12, true))⟩,
          ⟨(some 15), (.op (.pick (.tmp 12) (.tmp 14) (.cst (.bool false)))), none⟩,
          ⟨(some 3), (.op (.mv (.tmp 15))), none⟩] [])
        (.cond (.tmp 3)
          .skip
          (.region [
            ⟨(some 16), (.op (.mv (.tmp 0))), none⟩,
            ⟨(some 17), (.op (.bin .geq none (.tmp 16) (.cst (.int .u8 48)))), none⟩,
            ⟨(some 18), (.op (.mv (.tmp 17))), none⟩,
            ⟨(some 19), (.op (.mv (.tmp 0))), (some (18, true))⟩,
            ⟨(some 20), (.op (.bin .leq none (.tmp 19) (.cst (.int .u8 57)))), (some (18, true))⟩,
            ⟨(some 21), (.op (.pick (.tmp 18) (.tmp 20) (.cst (.bool false)))), none⟩,
            ⟨(some 3), (.op (.mv (.tmp 21))), none⟩] [])))))
      (.cond (.tmp 3)
        (.seq (.region [
          ⟨(some 2), (.op (.mv (.cst (.bool true)))), none⟩] [])
        .ret)
        .skip)))
    (.seq (.region [
      ⟨(some 22), (.op (.mv (.tmp 0))), none⟩,
      ⟨(some 23), (.call (.cst (.func (.func 40) [] [])) [(.cst (.str [45, 43, 47, 59, 46, 36, 95, 40, 41])), (.tmp 22)]), none⟩,
      ⟨(some 24), (.op (.bin .geq none (.tmp 23) (.cst (.int .i64 0)))), none⟩,
      ⟨(some 2), (.op (.mv (.tmp 24))), none⟩] [])
    .ret)))⟩
theorem c27 : cFn Try.prog [] Try.f27 = some h27 := by kernel_rfl
/-- maps.Clone[map[string]int,string,int] -/
def h29 : HFn :=
  ⟨9, [(.tmp 2)],
    (.seq (.region [
      ⟨(some 2), (.op (.mv (.cst .nilMap))), none⟩] [])
    (.seq (.seq (.region [
      ⟨(some 3), (.op (.mv (.tmp 0))), none⟩,
      ⟨(some 4), (.op (.bin .eql (some .map) (.tmp 3) (.cst .nilMap))), none⟩] [])
    (.cond (.tmp 4)
      (.seq (.region [
        ⟨(some 2), (.op (.mv (.cst .nilMap))), none⟩] [])
      .ret)
      .skip))
    (.seq (.region [
      ⟨(some 5), (.op (.mv (.tmp 0))), none⟩,
      ⟨(some 6), (.op (.iface 58 (.tmp 5))), none⟩,
      ⟨(some 7), (.call (.cst (.func (.func 43) [] [])) [(.tmp 6)]), none⟩,
      ⟨(some 8), (.op (.assert 58 .nilMap false (.tmp 7))), none⟩,
      ⟨(some 2), (.op (.mv (.tmp 8))), none⟩] [])
    .ret)))⟩
theorem c29 : cFn Try.prog [] Try.f29 = some h29 := by kernel_rfl
/-- strings.IndexByte -/
def h40 : HFn :=
  ⟨8, [(.tmp 4)],
    (.seq (.region [
      ⟨(some 4), (.op (.mv (.cst (.int .i64 0)))), none⟩] [])
    (.seq (.region [
      ⟨(some 5), (.op (.mv (.tmp 0))), none⟩,
      ⟨(some 6), (.op (.mv (.tmp 1))), none⟩,
      ⟨(some 7), (.call (.cst (.func (.func 45) [] [])) [(.tmp 5), (.tmp 6)]), none⟩,
      ⟨(some 4), (.op (.mv (.tmp 7))), none⟩] [])
    .ret))⟩
theorem c40 : cFn Try.prog [] Try.f40 = some h40 := by kernel_rfl
/-- internal/stringslite.IndexByte -/
def h45 : HFn :=
  ⟨8, [(.tmp 4)],
    (.seq (.region [
      ⟨(some 4), (.op (.mv (.cst (.int .i64 0)))), none⟩] [])
    (.seq (.region [
      ⟨(some 5), (.op (.mv (.tmp 0))), none⟩,
      ⟨(some 6), (.op (.mv (.tmp 1))), none⟩,
      ⟨(some 7), (.call (.cst (.func (.func 57) [] [])) [(.tmp 5), (.tmp 6)]), none⟩,
      ⟨(some 4), (.op (.mv (.tmp 7))), none⟩] [])
    .ret))⟩
theorem c45 : cFn Try.prog [] Try.f45 = some h45 := by kernel_rfl
/-- stint/stintlaw05.NamesSums -/
def h5 : HFn :=
  ⟨154, [(.tmp 2)],
    (.seq (.region [
      ⟨(some 2), (.op (.mv (.cst (.bool false)))), none⟩] [])
    (.seq (.seq (.region [
      ⟨(some 17), (.call (.cst (.func (.func 8) [] [])) []), none⟩,
      ⟨(some 18), (.op (.un .not (.tmp 17))), none⟩] [])
    (.cond (.tmp 18)
      (.seq (.region [
        ⟨(some 2), (.op (.mv (.cst (.bool false)))), none⟩] [])
      .ret)
      .skip))
    (.seq (.region [
      ⟨(some 19), (.call (.cst (.func (.func 11) [] [])) []), none⟩,
      ⟨(some 3), (.op (.mv (.tmp 19))), none⟩] [])
    (.seq (.seq (.region [
      ⟨(some 20), (.op (.mv (.tmp 3))), none⟩,
      ⟨(some 21), (.op (.bin .eql (some .ptrN) (.tmp 20) (.cst .nilPtr))), none⟩] [])
    (.cond (.tmp 21)
      (.seq (.region [
        ⟨(some 2), (.op (.mv (.cst (.bool false)))), none⟩] [])
      .ret)
      .skip))
    (.seq (.region [
      ⟨(some 4), (.op (.mv (.cst (.int .i64 0)))), none⟩] [])
    (.seq (.seq (.region [
      ⟨(some 5), (.op (.mv (.cst (.int .i64 0)))), none⟩] [])
    (.block 0
      (.loop
        (.seq (.seq (.region [
          ⟨(some 22), (.op (.mv (.tmp 5))), none⟩,
          ⟨(some 23), (.op (.mv (.tmp 0))), none⟩,
          ⟨(some 24), (.op (.len .slice (.tmp 23))), none⟩,
          ⟨(some 25), (.op (.bin .lss none (.tmp 22) (.tmp 24))), none⟩] [])
        (.cond (.tmp 25)
          .skip
          (.exit 0)))
        (.seq (.block 1
          (.seq (.region [
            ⟨(some 28), (.op (.mv (.tmp 0))), none⟩,
            ⟨(some 29), (.op (.mv (.tmp 5))), none⟩,
            ⟨(some 30), (.op (.idxS 4 (.tmp 28) (.tmp 29))), none⟩,
            ⟨(some 31), (.op (.load (some 4) (.tmp 30))), none⟩,
            ⟨(some 6), (.op (.box (.cst (.agg [(.bool false), (.int .i64 0), (.str []), (.int .i64 0)])))), none⟩,
            ⟨none, (.op (.store 4 (.tmp 6) (.tmp 31))), none⟩] [])
          (.seq (.region [
            ⟨(some 32), (.op (.mv (.tmp 3))), none⟩,
            ⟨(some 33), (.op (.faddr 2 (.tmp 6))), none⟩,
            ⟨(some 34), (.op (.load none (.tmp 33))), none⟩,
            ⟨(some 35), (.call (.cst (.func (.func 12) [] [])) [(.tmp 32), (.tmp 34)]), none⟩,
            ⟨(some 7), (.op (.mv (.tmp 35))), none⟩] [])
          (.seq (.region [
            ⟨(some 36), (.op (.faddr 1 (.tmp 6))), none⟩,
            ⟨(some 37), (.op (.load none (.tmp 36))), none⟩,
            ⟨(some 38), (.op (.bin .and none (.tmp 37) (.cst (.int .i64 1)))), none⟩,
            ⟨(some 39), (.op (.bin .eql (some .int) (.tmp 38) (.cst (.int .i64 0)))), none⟩] [])
          (.cond (.tmp 39)
            (.seq (.region [
              ⟨(some 41), (.op (.mv (.tmp 3))), none⟩,
              ⟨(some 42), (.op (.faddr 2 (.tmp 6))), none⟩,
              ⟨(some 43), (.op (.load none (.tmp 42))), none⟩,
              ⟨(some 44), (.call (.cst (.func (.func 13) [] [])) [(.tmp 41), (.tmp 43)]), none⟩,
              ⟨(some 40), (.op (.mv (.tmp 44))), none⟩,
              ⟨(some 45), (.op (.ext 0 (.tmp 40))), none⟩,
              ⟨(some 46), (.op (.ext 1 (.tmp 40))), none⟩,
              ⟨(some 8), (.op (.mv (.tmp 45))), none⟩,
              ⟨(some 9), (.op (.mv (.tmp 46))), none⟩] [])
            (.seq (.region [
              ⟨(some 47), (.op (.faddr 2 (.tmp 6))), none⟩,
              ⟨(some 48), (.op (.load none (.tmp 47))), none⟩,
              ⟨(some 49), (.call (.cst (.func (.func 9) [] [])) [(.tmp 48)]), none⟩,
              ⟨(some 10), (.op (.mv (.tmp 49))), none⟩] [])
            (.seq (.seq (.region [
              ⟨(some 50), (.op (.mv (.tmp 10))), none⟩,
              ⟨(some 51), (.op (.mv (.tmp 9))), none⟩,
              ⟨(some 52), (.op (.bin .eql (some .int) (.tmp 51) (.cst (.int .i64 0)))), none⟩,
              ⟨(some 53), (.op (.bin .neq (some .bool) (.tmp 50) (.tmp 52))), none⟩,
              ⟨(some 54), (.op (.mv (.tmp 53))), none⟩,
              ⟨(some 55), (.op (.mv (.tmp 10))), (some (54, false))⟩,
              ⟨(some 56), (.op (.mv (.tmp 55))), (some (54, false))⟩,
              ⟨(some 57), (.op (.mv (.tmp 8))), (some (56, true))⟩,
              ⟨(some 58), (.op (.mv (.tmp 7))), (some (56, true))⟩,
              ⟨(some 59), (.op (.bin .add none (.tmp 58) (.cst (.int .i64 1)))), (some (56, true))⟩,
              ⟨(some 60), (.op (.bin .neq (some .int) (.tmp 57) (.tmp 59))), (some (56, true))⟩,
              ⟨(some 61), (.op (.pick (.tmp 56) (.tmp 60) (.cst (.bool false)))), (some (54, false))⟩,
              ⟨(some 62), (.op (.pick (.tmp 54) (.cst (.bool true)) (.tmp 61))), none⟩,
              ⟨(some 63), (.op (.mv (.tmp 62))), none⟩,
              ⟨(some 64), (.op (.mv (.tmp 10))), (some (63, false))⟩,
              ⟨(some 65), (.op (.un .not (.tmp 64))), (some (63, false))⟩,
              ⟨(some 66), (.op (.mv (.tmp 65))), (some (63, false))⟩,
              ⟨(some 67), (.op (.mv (.tmp 8))), (some (66, true))⟩,
              ⟨(some 68), (.op (.bin .neq (some .int) (.tmp 67) (.cst (.int .i64 0)))), (some (66, true))⟩,
              ⟨(some 69), (.op (.mv (.tmp 68))), (some (66, true))⟩,
              ⟨(some 70), (.op (.mv (.tmp 7))), (some (69, false))⟩,
              ⟨(some 71), (.op (.bin .neq (some .int) (.tmp 70) (.cst (.int .i64 0)))), (some (69, false))⟩,
              ⟨(some 72), (.op (.pick (.tmp 69) (.cst (.bool true)) (.tmp 71))), (some (66, true))⟩,
              ⟨(some 73), (.op (.pick (.tmp 66) (.tmp 72) (.cst (.bool false)))), (some (63, false))⟩,
              ⟨(some 74), (.op (.pick (.tmp 63) (.cst (.bool true)) (.tmp 73))), none⟩] [])
            (.cond (.tmp 74)
              (.seq (.region [
                ⟨(some 2), (.op (.mv (.cst (.bool false)))), none⟩] [])
              .ret)
              .skip))
            (.seq (.region [
              ⟨(some 75), (.op (.mv (.tmp 10))), none⟩] [])
            (.cond (.tmp 75)
              (.region [
                ⟨(some 76), (.op (.mv (.tmp 4))), none⟩,
                ⟨(some 77), (.op (.bin .add none (.tmp 76) (.cst (.int .i64 1)))), none⟩,
                ⟨(some 4), (.op (.mv (.tmp 77))), none⟩] [])
              .skip)))))
            (.seq (.region [
              ⟨(some 79), (.op (.mv (.tmp 3))), none⟩,
              ⟨(some 80), (.op (.faddr 2 (.tmp 6))), none⟩,
              ⟨(some 81), (.op (.load none (.tmp 80))), none⟩,
              ⟨(some 82), (.call (.cst (.func (.func 14) [] [])) [(.tmp 79), (.tmp 81)]), none⟩,
              ⟨(some 78), (.op (.mv (.tmp 82))), none⟩,
              ⟨(some 83), (.op (.ext 0 (.tmp 78))), none⟩,
              ⟨(some 84), (.op (.ext 1 (.tmp 78))), none⟩,
              ⟨(some 11), (.op (.mv (.tmp 83))), none⟩,
              ⟨(some 12), (.op (.mv (.tmp 84))), none⟩] [])
            (.seq (.seq (.region [
              ⟨(some 85), (.op (.mv (.tmp 12))), none⟩,
              ⟨(some 86), (.op (.mv (.tmp 7))), none⟩,
              ⟨(some 87), (.op (.bin .gtr none (.tmp 86) (.cst (.int .i64 0)))), none⟩,
              ⟨(some 88), (.op (.bin .neq (some .bool) (.tmp 85) (.tmp 87))), none⟩,
              ⟨(some 89), (.op (.mv (.tmp 88))), none⟩,
              ⟨(some 90), (.op (.mv (.tmp 12))), (some (89, false))⟩,
              ⟨(some 91), (.op (.mv (.tmp 90))), (some (89, false))⟩,
              ⟨(some 92), (.op (.mv (.tmp 11))), (some (91, true))⟩,
              ⟨(some 93), (.op (.mv (.tmp 7))), (some (91, true))⟩,
              ⟨(some 94), (.op (.bin .sub none (.tmp 93) (.cst (.int .i64 1)))), (some (91, true))⟩,
              ⟨(some 95), (.op (.bin .neq (some .int) (.tmp 92) (.tmp 94))), (some (91, true))⟩,
              ⟨(some 96), (.op (.pick (.tmp 91) (.tmp 95) (.cst (.bool false)))), (some (89, false))⟩,
              ⟨(some 97), (.op (.pick (.tmp 89) (.cst (.bool true)) (.tmp 96))), none⟩,
              ⟨(some 98), (.op (.mv (.tmp 97))), none⟩,
              ⟨(some 99), (.op (.mv (.tmp 12))), (some (98, false))⟩,
              ⟨(some 100), (.op (.un .not (.tmp 99))), (some (98, false))⟩,
              ⟨(some 101), (.op (.mv (.tmp 100))), (some (98, false))⟩,
              ⟨(some 102), (.op (.mv (.tmp 11))), (some (101, true))⟩,
              ⟨(some 103), (.op (.bin .neq (some .int) (.tmp 102) (.cst (.int .i64 0)))), (some (101, true))⟩,
              ⟨(some 104), (.op (.pick (.tmp 101) (.tmp 103) (.cst (.bool false)))), (some (98, false))⟩,
              ⟨(some 105), (.op (.pick (.tmp 98) (.cst (.bool true)) (.tmp 104))), none⟩] [])
            (.cond (.tmp 105)
              (.seq (.region [
                ⟨(some 2), (.op (.mv (.cst (.bool false)))), none⟩] [])
              .ret)
              .skip))
            (.seq (.region [
              ⟨(some 106), (.op (.mv (.tmp 12))), none⟩] [])
            (.cond (.tmp 106)
              (.region [
                ⟨(some 107), (.op (.mv (.tmp 4))), none⟩,
                ⟨(some 108), (.op (.bin .sub none (.tmp 107) (.cst (.int .i64 1)))), none⟩,
                ⟨(some 4), (.op (.mv (.tmp 108))), none⟩] [])
              .skip)))))))))
        (.region [
          ⟨(some 26), (.op (.mv (.tmp 5))), none⟩,
          ⟨(some 27), (.op (.bin .add none (.tmp 26) (.cst (.int .i64 1)))), none⟩,
          ⟨(some 5), (.op (.mv (.tmp 27))), none⟩] []))))))
    (.seq (.region [
      ⟨(some 109), (.op (.mv (.tmp 3))), none⟩,
      ⟨(some 110), (.call (.cst (.func (.func 15) [] [])) [(.tmp 109)]), none⟩,
      ⟨(some 13), (.op (.mv (.tmp 110))), none⟩] [])
    (.seq (.region [
      ⟨(some 14), (.op (.mv (.cst (.int .i64 0)))), none⟩] [])
    (.seq (.seq (.region [
      ⟨(some 15), (.op (.mv (.cst (.int .i64 0)))), none⟩] [])
    (.block 2
      (.loop
        (.seq (.seq (.region [
          ⟨(some 111), (.op (.mv (.tmp 15))), none⟩,
          ⟨(some 112), (.op (.mv (.tmp 13))), none⟩,
          ⟨(some 113), (.op (.len .slice (.tmp 112))), none⟩,
          ⟨(some 114), (.op (.bin .lss none (.tmp 111) (.tmp 113))), none⟩] [])
        (.cond (.tmp 114)
          .skip
          (.exit 2)))
        (.seq (.block 3
          (.seq (.region [
            ⟨(some 117), (.op (.mv (.tmp 3))), none⟩,
            ⟨(some 118), (.op (.mv (.tmp 13))), none⟩,
            ⟨(some 119), (.op (.mv (.tmp 15))), none⟩,
            ⟨(some 120), (.op (.idxS 1 (.tmp 118) (.tmp 119))), none⟩,
            ⟨(some 121), (.op (.load none (.tmp 120))), none⟩,
            ⟨(some 122), (.call (.cst (.func (.func 12) [] [])) [(.tmp 117), (.tmp 121)]), none⟩,
            ⟨(some 16), (.op (.mv (.tmp 122))), none⟩] [])
          (.seq (.seq (.draw [
            ⟨(some 123), (.op (.mv (.tmp 16))), none⟩,
            ⟨(some 124), (.op (.bin .lss none (.tmp 123) (.cst (.int .i64 1)))), none⟩,
            ⟨(some 125), (.op (.mv (.tmp 124))), none⟩,
            ⟨(some 126), (.op (.mv (.tmp 15))), (some (125, false))⟩,
            ⟨(some 127), (.op (.bin .gtr none (.tmp 126) (.cst (.int .i64 0)))), (some (125, false))⟩,
            ⟨(some 128), (.op (.mv (.tmp 127))), (some (125, false))⟩,
            ⟨(some 129), (.op (.mv (.tmp 13))), (some (128, true))⟩,
            ⟨(some 130), (.op (.mv (.tmp 15))), (some (128, true))⟩,
            ⟨(some 131), (.op (.bin .sub none (.tmp 130) (.cst (.int .i64 1)))), (some (128, true))⟩,
            ⟨(some 132), (.op (.idxS 1 (.tmp 129) (.tmp 131))), (some (128, true))⟩,
            ⟨(some 133), (.op (.load none (.tmp 132))), (some (128, true))⟩,
            ⟨(some 134), (.op (.mv (.tmp 13))), (some (128, true))⟩,
            ⟨(some 135), (.op (.mv (.tmp 15))), (some (128, true))⟩,
            ⟨(some 136), (.op (.idxS 1 (.tmp 134) (.tmp 135))), (some (128, true))⟩,
            ⟨(some 137), (.op (.load none (.tmp 136))), (some (128, true))⟩,
            ⟨(some 138), (.op (.bin .geq none (.tmp 133) (.tmp 137))), (some (128, true))⟩,
            ⟨(some 139), (.op (.pick (.tmp 128) (.tmp 138) (.cst (.bool false)))), (some (125, false))⟩,
            ⟨(some 140), (.op (.pick (.tmp 125) (.cst (.bool true)) (.tmp 139))), none⟩] [0, 1, 2, 3, 4, 5, 6, 7, 8, 9, 10, 11, 12, 13, 14, 15, 16, 17] [[], [], [], [], [], [], [], [], [], [], [], [], [], [], [], [], [], []] [])
          (.cond (.tmp 140)
            (.seq (.region [
              ⟨(some 2), (.op (.mv (.cst (.bool false)))), none⟩] [])
            .ret)
            .skip))
          (.region [
            ⟨(some 141), (.op (.mv (.tmp 14))), none⟩,
            ⟨(some 142), (.op (.mv (.tmp 16))), none⟩,
            ⟨(some 143), (.op (.bin .add none (.tmp 141) (.tmp 142))), none⟩,
            ⟨(some 14), (.op (.mv (.tmp 143))), none⟩] []))))
        (.region [
          ⟨(some 115), (.op (.mv (.tmp 15))), none⟩,
          ⟨(some 116), (.op (.bin .add none (.tmp 115) (.cst (.int .i64 1)))), none⟩,
          ⟨(some 15), (.op (.mv (.tmp 116))), none⟩] []))))))
    (.seq (.region [
      ⟨(some 144), (.op (.mv (.tmp 14))), none⟩,
      ⟨(some 145), (.op (.mv (.tmp 4))), none⟩,
      ⟨(some 146), (.op (.bin .eql (some .int) (.tmp 144) (.tmp 145))), none⟩,
      ⟨(some 147), (.op (.mv (.tmp 146))), none⟩,
      ⟨(some 148), (.op (.mv (.tmp 13))), (some (147, true))⟩,
      ⟨(some 149), (.op (.len .slice (.tmp 148))), (some (147, true))⟩,
      ⟨(some 150), (.op (.mv (.tmp 3))), (some (147, true))⟩,
      ⟨(some 151), (.call (.cst (.func (.func 16) [] [])) [(.tmp 150)]), (some (147, true))⟩,
      ⟨(some 152), (.op (.bin .eql (some .int) (.tmp 149) (.tmp 151))), (some (147, true))⟩,
      ⟨(some 153), (.op (.pick (.tmp 147) (.tmp 152) (.cst (.bool false)))), none⟩,
      ⟨(some 2), (.op (.mv (.tmp 153))), none⟩] [])
    .ret))))))))))⟩
theorem c5 : cFn Try.prog [] Try.f5 = some h5 := by kernel_rfl
def F : FuncId → Option HFn
  | 3 => some h3
  | 4 => some h4
  | 8 => some h8
  | 9 => some h9
  | 10 => some h10
  | 11 => some h11
  | 12 => some h12
  | 13 => some h13
  | 14 => some h14
  | 15 => some h15
  | 16 => some h16
  | 18 => some h18
  | 27 => some h27
  | 29 => some h29
  | 40 => some h40
  | 45 => some h45
  | 5 => some h5
  | _ => none
theorem F_ok : FOk Try.prog F := by
  intro f hf h
  unfold F at h
  split at h
  · simp at h; subst h; exact ⟨_, [], Try.func3, c3⟩
  · simp at h; subst h; exact ⟨_, [], Try.func4, c4⟩
  · simp at h; subst h; exact ⟨_, [], Try.func8, c8⟩
  · simp at h; subst h; exact ⟨_, [], Try.func9, c9⟩
  · simp at h; subst h; exact ⟨_, [], Try.func10, c10⟩
  · simp at h; subst h; exact ⟨_, [], Try.func11, c11⟩
  · simp at h; subst h; exact ⟨_, [], Try.func12, c12⟩
  · simp at h; subst h; exact ⟨_, [], Try.func13, c13⟩
  · simp at h; subst h; exact ⟨_, [], Try.func14, c14⟩
  · simp at h; subst h; exact ⟨_, [], Try.func15, c15⟩
  · simp at h; subst h; exact ⟨_, [], Try.func16, c16⟩
  · simp at h; subst h; exact ⟨_, [], Try.func18, c18⟩
  · simp at h; subst h; exact ⟨_, [], Try.func27, c27⟩
  · simp at h; subst h; exact ⟨_, [], Try.func29, c29⟩
  · simp at h; subst h; exact ⟨_, [], Try.func40, c40⟩
  · simp at h; subst h; exact ⟨_, [], Try.func45, c45⟩
  · simp at h; subst h; exact ⟨_, [], Try.func5, c5⟩
  · simp at h
end Go.Proofs.Ytalcaflkfpiehaa
