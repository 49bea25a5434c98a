import Derived.Test.YteedidafobfijaaDoorHLRound
import Derived.Test.YteedidafobfijaaDoorProg
import Derived.KernelRfl
/- The functions, turned (written by program, each checked by the kernel). -/
namespace Go.Proofs.YteedidafobfijaaDoor.P5
open Go Go.HL
/-- stint/stintlaw01.DigitsSplits -/
def h6 : HFn :=
  ⟨58, [(.tmp 4)],
    (.seq (.region [
      ⟨(some 4), (.op (.mv (.cst (.bool false)))), none⟩] [])
    (.seq (.region [
      ⟨(some 14), (.call (.cst (.func (.func 10) [] [])) []), none⟩,
      ⟨(some 5), (.op (.mv (.tmp 14))), none⟩] [])
    (.seq (.region [
      ⟨(some 15), (.op (.build [.nilSlice, .nilSlice, (.int .i64 0)] [])), none⟩,
      ⟨(some 16), (.op (.box (.tmp 15))), none⟩,
      ⟨(some 6), (.op (.mv (.tmp 16))), none⟩] [])
    (.seq (.region [
      ⟨(some 17), (.op (.mv (.tmp 6))), none⟩,
      ⟨(some 18), (.op (.mv (.tmp 0))), none⟩,
      ⟨(some 19), (.call (.cst (.func (.func 17) [] [])) [(.tmp 17), (.tmp 18)]), none⟩,
      ⟨(some 7), (.op (.mv (.tmp 19))), none⟩] [])
    (.seq (.region [
      ⟨(some 20), (.op (.mv (.tmp 6))), none⟩,
      ⟨(some 21), (.op (.mv (.tmp 1))), none⟩,
      ⟨(some 22), (.call (.cst (.func (.func 17) [] [])) [(.tmp 20), (.tmp 21)]), none⟩,
      ⟨(some 8), (.op (.mv (.tmp 22))), none⟩] [])
    (.seq (.region [
      ⟨(some 23), (.op (.mv (.tmp 6))), none⟩,
      ⟨(some 24), (.op (.mv (.tmp 0))), none⟩,
      ⟨(some 25), (.call (.cst (.func (.func 17) [] [])) [(.tmp 23), (.tmp 24)]), none⟩,
      ⟨(some 9), (.op (.mv (.tmp 25))), none⟩] [])
    (.seq (.region [
      ⟨(some 26), (.op (.mv (.tmp 6))), none⟩,
      ⟨(some 27), (.op (.mv (.tmp 0))), none⟩,
      ⟨(some 28), (.call (.cst (.func (.func 17) [] [])) [(.tmp 26), (.tmp 27)]), none⟩,
      ⟨(some 10), (.op (.mv (.tmp 28))), none⟩] [])
    (.seq (.region [
      ⟨(some 29), (.op (.mv (.tmp 6))), none⟩,
      ⟨(some 30), (.call (.cst (.func (.func 18) [] [])) [(.tmp 29)]), none⟩,
      ⟨(some 11), (.op (.mv (.tmp 30))), none⟩] [])
    (.seq (.region [
      ⟨(some 31), (.op (.mv (.tmp 6))), none⟩,
      ⟨(some 32), (.op (.mv (.tmp 0))), none⟩,
      ⟨(some 33), (.call (.cst (.func (.func 17) [] [])) [(.tmp 31), (.tmp 32)]), none⟩,
      ⟨(some 12), (.op (.mv (.tmp 33))), none⟩] [])
    (.seq (.region [
      ⟨(some 34), (.op (.mv (.tmp 6))), none⟩,
      ⟨(some 35), (.call (.cst (.func (.func 18) [] [])) [(.tmp 34)]), none⟩,
      ⟨(some 13), (.op (.mv (.tmp 35))), none⟩] [])
    (.seq (.region [
      ⟨(some 36), (.op (.mv (.tmp 5))), none⟩,
      ⟨(some 37), (.op (.mv (.tmp 36))), none⟩,
      ⟨(some 38), (.op (.mv (.tmp 7))), (some (37, true))⟩,
      ⟨(some 39), (.op (.pick (.tmp 37) (.tmp 38) (.cst (.bool false)))), none⟩,
      ⟨(some 40), (.op (.mv (.tmp 39))), none⟩,
      ⟨(some 41), (.op (.mv (.tmp 8))), (some (40, true))⟩,
      ⟨(some 42), (.op (.pick (.tmp 40) (.tmp 41) (.cst (.bool false)))), none⟩,
      ⟨(some 43), (.op (.mv (.tmp 42))), none⟩,
      ⟨(some 44), (.op (.mv (.tmp 9))), (some (43, true))⟩,
      ⟨(some 45), (.op (.pick (.tmp 43) (.tmp 44) (.cst (.bool false)))), none⟩,
      ⟨(some 46), (.op (.mv (.tmp 45))), none⟩,
      ⟨(some 47), (.op (.mv (.tmp 10))), (some (46, true))⟩,
      ⟨(some 48), (.op (.pick (.tmp 46) (.tmp 47) (.cst (.bool false)))), none⟩,
      ⟨(some 49), (.op (.mv (.tmp 48))), none⟩,
      ⟨(some 50), (.op (.mv (.tmp 11))), (some (49, true))⟩,
      ⟨(some 51), (.op (.pick (.tmp 49) (.tmp 50) (.cst (.bool false)))), none⟩,
      ⟨(some 52), (.op (.mv (.tmp 51))), none⟩,
      ⟨(some 53), (.op (.mv (.tmp 12))), (some (52, true))⟩,
      ⟨(some 54), (.op (.pick (.tmp 52) (.tmp 53) (.cst (.bool false)))), none⟩,
      ⟨(some 55), (.op (.mv (.tmp 54))), none⟩,
      ⟨(some 56), (.op (.mv (.tmp 13))), (some (55, true))⟩,
      ⟨(some 57), (.op (.pick (.tmp 55) (.tmp 56) (.cst (.bool false)))), none⟩,
      ⟨(some 4), (.op (.mv (.tmp 57))), none⟩] [])
    .ret)))))))))))⟩
theorem c6 : cFn Tryd.prog [] Tryd.f6 = some h6 := by kernel_rfl
/-- stint/stintlaw01.DigitsJoins -/
def h7 : HFn :=
  ⟨142, [(.tmp 2)],
    (.seq (.region [
      ⟨(some 2), (.op (.mv (.cst (.bool false)))), none⟩] [])
    (.seq (.seq (.region [
      ⟨(some 16), (.op (.mv (.tmp 0))), none⟩,
      ⟨(some 17), (.call (.cst (.func (.func 19) [] [])) [(.tmp 16)]), none⟩] [])
    (.cond (.tmp 17)
      (.seq (.region [
        ⟨(some 2), (.op (.mv (.cst (.bool true)))), none⟩] [])
      .ret)
      .skip))
    (.seq (.region [
      ⟨(some 18), (.call (.cst (.func (.func 10) [] [])) []), none⟩,
      ⟨(some 3), (.op (.mv (.tmp 18))), none⟩] [])
    (.seq (.region [
      ⟨(some 19), (.op (.mv (.tmp 0))), none⟩,
      ⟨(some 20), (.op (.len .slice (.tmp 19))), none⟩,
      ⟨(some 4), (.op (.mv (.tmp 20))), none⟩] [])
    (.seq (.region [
      ⟨(some 21), (.op (.mv (.tmp 4))), none⟩,
      ⟨(some 22), (.op (.bin .add none (.tmp 21) (.cst (.int .i64 2)))), none⟩,
      ⟨(some 23), (.op (.mkSlice 1 16 [(.str [])] (.tmp 22) (.tmp 22))), none⟩,
      ⟨(some 5), (.op (.mv (.tmp 23))), none⟩] [])
    (.seq (.region [
      ⟨(some 24), (.op (.mv (.tmp 5))), none⟩,
      ⟨(some 25), (.op (.mv (.tmp 0))), none⟩,
      ⟨(some 26), (.op (.copy 1 (.tmp 24) (.tmp 25))), none⟩] [])
    (.seq (.region [
      ⟨(some 27), (.op (.mv (.tmp 5))), none⟩,
      ⟨(some 28), (.op (.mv (.tmp 4))), none⟩,
      ⟨(some 29), (.op (.idxS 1 (.tmp 27) (.tmp 28))), none⟩,
      ⟨none, (.op (.store 1 (.tmp 29) (.cst (.str [98, 101, 104, 105, 110, 100])))), none⟩] [])
    (.seq (.region [
      ⟨(some 30), (.op (.mv (.tmp 5))), none⟩,
      ⟨(some 31), (.op (.mv (.tmp 4))), none⟩,
      ⟨(some 32), (.op (.bin .add none (.tmp 31) (.cst (.int .i64 1)))), none⟩,
      ⟨(some 33), (.op (.idxS 1 (.tmp 30) (.tmp 32))), none⟩,
      ⟨none, (.op (.store 1 (.tmp 33) (.cst (.str [105, 116])))), none⟩] [])
    (.seq (.region [
      ⟨(some 35), (.op (.mv (.tmp 5))), none⟩,
      ⟨(some 36), (.op (.mv (.tmp 4))), none⟩,
      ⟨(some 37), (.op (.sliceSl 1 (.tmp 35) none (some (.tmp 36)) none)), none⟩,
      ⟨(some 38), (.call (.cst (.func (.func 20) [] [])) [(.tmp 37)]), none⟩,
      ⟨(some 34), (.op (.mv (.tmp 38))), none⟩,
      ⟨(some 39), (.op (.ext 0 (.tmp 34))), none⟩,
      ⟨(some 40), (.op (.ext 1 (.tmp 34))), none⟩,
      ⟨(some 6), (.op (.mv (.tmp 39))), none⟩,
      ⟨(some 7), (.op (.mv (.tmp 40))), none⟩] [])
    (.seq (.region [
      ⟨(some 42), (.op (.mv (.tmp 5))), none⟩,
      ⟨(some 43), (.op (.mv (.tmp 4))), none⟩,
      ⟨(some 44), (.op (.sliceSl 1 (.tmp 42) none (some (.tmp 43)) none)), none⟩,
      ⟨(some 45), (.call (.cst (.func (.func 20) [] [])) [(.tmp 44)]), none⟩,
      ⟨(some 41), (.op (.mv (.tmp 45))), none⟩,
      ⟨(some 46), (.op (.ext 0 (.tmp 41))), none⟩,
      ⟨(some 47), (.op (.ext 1 (.tmp 41))), none⟩,
      ⟨(some 8), (.op (.mv (.tmp 46))), none⟩,
      ⟨(some 9), (.op (.mv (.tmp 47))), none⟩] [])
    (.seq (.region [
      ⟨(some 49), (.op (.mv (.tmp 0))), none⟩,
      ⟨(some 50), (.call (.cst (.func (.func 21) [] [])) [(.tmp 49)]), none⟩,
      ⟨(some 48), (.op (.mv (.tmp 50))), none⟩,
      ⟨(some 51), (.op (.ext 0 (.tmp 48))), none⟩,
      ⟨(some 52), (.op (.ext 1 (.tmp 48))), none⟩,
      ⟨(some 10), (.op (.mv (.tmp 51))), none⟩,
      ⟨(some 11), (.op (.mv (.tmp 52))), none⟩] [])
    (.seq (.region [
      ⟨(some 53), (.op (.mv (.tmp 5))), none⟩,
      ⟨(some 54), (.op (.mv (.tmp 4))), none⟩,
      ⟨(some 55), (.op (.sliceSl 1 (.tmp 53) none (some (.tmp 54)) none)), none⟩,
      ⟨(some 56), (.op (.mv (.tmp 0))), none⟩,
      ⟨(some 57), (.call (.cst (.func (.func 22) [] [])) [(.tmp 55), (.tmp 56)]), none⟩,
      ⟨(some 12), (.op (.mv (.tmp 57))), none⟩] [])
    (.seq (.region [
      ⟨(some 58), (.op (.mv (.tmp 5))), none⟩,
      ⟨(some 59), (.op (.mv (.tmp 4))), none⟩,
      ⟨(some 60), (.op (.idxS 1 (.tmp 58) (.tmp 59))), none⟩,
      ⟨(some 61), (.op (.load none (.tmp 60))), none⟩,
      ⟨(some 62), (.op (.bin .eql (some .str) (.tmp 61) (.cst (.str [98, 101, 104, 105, 110, 100])))), none⟩,
      ⟨(some 63), (.op (.mv (.tmp 62))), none⟩,
      ⟨(some 64), (.op (.mv (.tmp 5))), (some (63, true))⟩,
      ⟨(some 65), (.op (.mv (.tmp 4))), (some (63, true))⟩,
      ⟨(some 66), (.op (.bin .add none (.tmp 65) (.cst (.int .i64 1)))), (some (63, true))⟩,
      ⟨(some 67), (.op (.idxS 1 (.tmp 64) (.tmp 66))), (some (63, true))⟩,
      ⟨(some 68), (.op (.load none (.tmp 67))), (some (63, true))⟩,
      ⟨(some 69), (.op (.bin .eql (some .str) (.tmp 68) (.cst (.str [105, 116])))), (some (63, true))⟩,
      ⟨(some 70), (.op (.pick (.tmp 63) (.tmp 69) (.cst (.bool false)))), none⟩,
      ⟨(some 13), (.op (.mv (.tmp 70))), none⟩] [])
    (.seq (.seq (.region [
      ⟨(some 71), (.op (.mv (.tmp 3))), none⟩,
      ⟨(some 72), (.op (.un .not (.tmp 71))), none⟩,
      ⟨(some 73), (.op (.mv (.tmp 72))), none⟩,
      ⟨(some 74), (.op (.mv (.tmp 12))), (some (73, false))⟩,
      ⟨(some 75), (.op (.un .not (.tmp 74))), (some (73, false))⟩,
      ⟨(some 76), (.op (.pick (.tmp 73) (.cst (.bool true)) (.tmp 75))), none⟩,
      ⟨(some 77), (.op (.mv (.tmp 76))), none⟩,
      ⟨(some 78), (.op (.mv (.tmp 13))), (some (77, false))⟩,
      ⟨(some 79), (.op (.un .not (.tmp 78))), (some (77, false))⟩,
      ⟨(some 80), (.op (.pick (.tmp 77) (.cst (.bool true)) (.tmp 79))), none⟩,
      ⟨(some 81), (.op (.mv (.tmp 80))), none⟩,
      ⟨(some 82), (.op (.mv (.tmp 6))), (some (81, false))⟩,
      ⟨(some 83), (.op (.mv (.tmp 10))), (some (81, false))⟩,
      ⟨(some 84), (.op (.bin .neq (some .str) (.tmp 82) (.tmp 83))), (some (81, false))⟩,
      ⟨(some 85), (.op (.pick (.tmp 81) (.cst (.bool true)) (.tmp 84))), none⟩,
      ⟨(some 86), (.op (.mv (.tmp 85))), none⟩,
      ⟨(some 87), (.op (.mv (.tmp 8))), (some (86, false))⟩,
      ⟨(some 88), (.op (.mv (.tmp 10))), (some (86, false))⟩,
      ⟨(some 89), (.op (.bin .neq (some .str) (.tmp 87) (.tmp 88))), (some (86, false))⟩,
      ⟨(some 90), (.op (.pick (.tmp 86) (.cst (.bool true)) (.tmp 89))), none⟩,
      ⟨(some 91), (.op (.mv (.tmp 90))), none⟩,
      ⟨(some 92), (.op (.mv (.tmp 7))), (some (91, false))⟩,
      ⟨(some 93), (.op (.mv (.tmp 11))), (some (91, false))⟩,
      ⟨(some 94), (.op (.bin .neq (some .bool) (.tmp 92) (.tmp 93))), (some (91, false))⟩,
      ⟨(some 95), (.op (.pick (.tmp 91) (.cst (.bool true)) (.tmp 94))), none⟩,
      ⟨(some 96), (.op (.mv (.tmp 95))), none⟩,
      ⟨(some 97), (.op (.mv (.tmp 9))), (some (96, false))⟩,
      ⟨(some 98), (.op (.mv (.tmp 11))), (some (96, false))⟩,
      ⟨(some 99), (.op (.bin .neq (some .bool) (.tmp 97) (.tmp 98))), (some (96, false))⟩,
      ⟨(some 100), (.op (.pick (.tmp 96) (.cst (.bool true)) (.tmp 99))), none⟩] [])
    (.cond (.tmp 100)
      (.seq (.region [
        ⟨(some 2), (.op (.mv (.cst (.bool false)))), none⟩] [])
      .ret)
      .skip))
    (.seq (.seq (.region [
      ⟨(some 14), (.op (.mv (.cst (.int .i64 0)))), none⟩] [])
    (.block 0
      (.loop
        (.seq (.seq (.region [
          ⟨(some 101), (.op (.mv (.tmp 14))), none⟩,
          ⟨(some 102), (.op (.mv (.tmp 4))), none⟩,
          ⟨(some 103), (.op (.bin .lss none (.tmp 101) (.tmp 102))), none⟩] [])
        (.cond (.tmp 103)
          .skip
          (.exit 0)))
        (.seq (.block 1
          (.region [
            ⟨(some 106), (.op (.mv (.tmp 5))), none⟩,
            ⟨(some 107), (.op (.mv (.tmp 14))), none⟩,
            ⟨(some 108), (.op (.mv (.tmp 0))), none⟩,
            ⟨(some 109), (.op (.mv (.tmp 4))), none⟩,
            ⟨(some 110), (.op (.bin .sub none (.tmp 109) (.cst (.int .i64 1)))), none⟩,
            ⟨(some 111), (.op (.mv (.tmp 14))), none⟩,
            ⟨(some 112), (.op (.bin .sub none (.tmp 110) (.tmp 111))), none⟩,
            ⟨(some 113), (.op (.idxS 1 (.tmp 108) (.tmp 112))), none⟩,
            ⟨(some 114), (.op (.load none (.tmp 113))), none⟩,
            ⟨(some 115), (.op (.idxS 1 (.tmp 106) (.tmp 107))), none⟩,
            ⟨none, (.op (.store 1 (.tmp 115) (.tmp 114))), none⟩] []))
        (.region [
          ⟨(some 104), (.op (.mv (.tmp 14))), none⟩,
          ⟨(some 105), (.op (.bin .add none (.tmp 104) (.cst (.int .i64 1)))), none⟩,
          ⟨(some 14), (.op (.mv (.tmp 105))), none⟩] []))))))
    (.seq (.region [
      ⟨(some 117), (.op (.mv (.tmp 5))), none⟩,
      ⟨(some 118), (.op (.mv (.tmp 4))), none⟩,
      ⟨(some 119), (.op (.sliceSl 1 (.tmp 117) none (some (.tmp 118)) none)), none⟩,
      ⟨(some 120), (.call (.cst (.func (.func 20) [] [])) [(.tmp 119)]), none⟩,
      ⟨(some 116), (.op (.mv (.tmp 120))), none⟩,
      ⟨(some 121), (.op (.ext 0 (.tmp 116))), none⟩,
      ⟨(some 122), (.op (.ext 1 (.tmp 116))), none⟩,
      ⟨(some 6), (.op (.mv (.tmp 121))), none⟩,
      ⟨(some 7), (.op (.mv (.tmp 122))), none⟩] [])
    (.seq (.region [
      ⟨(some 123), (.op (.bslice 1 0 [] [])), none⟩,
      ⟨(some 15), (.op (.mv (.tmp 123))), none⟩] [])
    (.seq (.region [
      ⟨(some 124), (.op (.mv (.tmp 15))), none⟩,
      ⟨(some 125), (.op (.mv (.tmp 5))), none⟩,
      ⟨(some 126), (.op (.mv (.tmp 4))), none⟩,
      ⟨(some 127), (.op (.sliceSl 1 (.tmp 125) none (some (.tmp 126)) none)), none⟩,
      ⟨(some 128), (.op (.append 1 16 (.tmp 124) (.tmp 127))), none⟩,
      ⟨(some 15), (.op (.mv (.tmp 128))), none⟩] [])
    (.seq (.region [
      ⟨(some 130), (.op (.mv (.tmp 15))), none⟩,
      ⟨(some 131), (.call (.cst (.func (.func 21) [] [])) [(.tmp 130)]), none⟩,
      ⟨(some 129), (.op (.mv (.tmp 131))), none⟩,
      ⟨(some 132), (.op (.ext 0 (.tmp 129))), none⟩,
      ⟨(some 133), (.op (.ext 1 (.tmp 129))), none⟩,
      ⟨(some 10), (.op (.mv (.tmp 132))), none⟩,
      ⟨(some 11), (.op (.mv (.tmp 133))), none⟩] [])
    (.seq (.region [
      ⟨(some 134), (.op (.mv (.tmp 6))), none⟩,
      ⟨(some 135), (.op (.mv (.tmp 10))), none⟩,
      ⟨(some 136), (.op (.bin .eql (some .str) (.tmp 134) (.tmp 135))), none⟩,
      ⟨(some 137), (.op (.mv (.tmp 136))), none⟩,
      ⟨(some 138), (.op (.mv (.tmp 7))), (some (137, true))⟩,
      ⟨(some 139), (.op (.mv (.tmp 11))), (some (137, true))⟩,
      ⟨(some 140), (.op (.bin .eql (some .bool) (.tmp 138) (.tmp 139))), (some (137, true))⟩,
      ⟨(some 141), (.op (.pick (.tmp 137) (.tmp 140) (.cst (.bool false)))), none⟩,
      ⟨(some 2), (.op (.mv (.tmp 141))), none⟩] [])
    .ret))))))))))))))))))))⟩
theorem c7 : cFn Tryd.prog [] Tryd.f7 = some h7 := by kernel_rfl
/-- stint/stintlaw01.DigitsBack -/
def h8 : HFn :=
  ⟨85, [(.tmp 4)],
    (.seq (.region [
      ⟨(some 4), (.op (.mv (.cst (.bool false)))), none⟩] [])
    (.seq (.seq (.region [
      ⟨(some 17), (.op (.mv (.tmp 0))), none⟩,
      ⟨(some 18), (.call (.cst (.func (.func 19) [] [])) [(.tmp 17)]), none⟩] [])
    (.cond (.tmp 18)
      (.seq (.region [
        ⟨(some 4), (.op (.mv (.cst (.bool true)))), none⟩] [])
      .ret)
      .skip))
    (.seq (.region [
      ⟨(some 19), (.call (.cst (.func (.func 10) [] [])) []), none⟩,
      ⟨(some 5), (.op (.mv (.tmp 19))), none⟩] [])
    (.seq (.region [
      ⟨(some 20), (.op (.mv (.tmp 0))), none⟩,
      ⟨(some 21), (.op (.len .slice (.tmp 20))), none⟩,
      ⟨(some 22), (.op (.bin .gtr none (.tmp 21) (.cst (.int .i64 0)))), none⟩,
      ⟨(some 6), (.op (.mv (.tmp 22))), none⟩] [])
    (.seq (.seq (.region [
      ⟨(some 7), (.op (.mv (.cst (.int .i64 0)))), none⟩] [])
    (.block 0
      (.loop
        (.seq (.seq (.region [
          ⟨(some 23), (.op (.mv (.tmp 7))), none⟩,
          ⟨(some 24), (.op (.mv (.tmp 0))), none⟩,
          ⟨(some 25), (.op (.len .slice (.tmp 24))), none⟩,
          ⟨(some 26), (.op (.bin .lss none (.tmp 23) (.tmp 25))), none⟩] [])
        (.cond (.tmp 26)
          .skip
          (.exit 0)))
        (.seq (.block 1
          (.region [
            ⟨(some 29), (.op (.mv (.tmp 6))), none⟩,
            ⟨(some 30), (.op (.mv (.tmp 29))), none⟩,
            ⟨(some 31), (.op (.mv (.tmp 0))), (some (30, true))⟩,
            ⟨(some 32), (.op (.mv (.tmp 7))), (some (30, true))⟩,
            ⟨(some 33), (.op (.idxS 1 (.tmp 31) (.tmp 32))), (some (30, true))⟩,
            ⟨(some 34), (.op (.load none (.tmp 33))), (some (30, true))⟩,
            ⟨(some 35), (.call (.cst (.func (.func 15) [] [])) [(.tmp 34)]), (some (30, true))⟩,
            ⟨(some 36), (.op (.pick (.tmp 30) (.tmp 35) (.cst (.bool false)))), none⟩,
            ⟨(some 6), (.op (.mv (.tmp 36))), none⟩] []))
        (.region [
          ⟨(some 27), (.op (.mv (.tmp 7))), none⟩,
          ⟨(some 28), (.op (.bin .add none (.tmp 27) (.cst (.int .i64 1)))), none⟩,
          ⟨(some 7), (.op (.mv (.tmp 28))), none⟩] []))))))
    (.seq (.region [
      ⟨(some 38), (.op (.mv (.tmp 0))), none⟩,
      ⟨(some 39), (.call (.cst (.func (.func 20) [] [])) [(.tmp 38)]), none⟩,
      ⟨(some 37), (.op (.mv (.tmp 39))), none⟩,
      ⟨(some 40), (.op (.ext 0 (.tmp 37))), none⟩,
      ⟨(some 41), (.op (.ext 1 (.tmp 37))), none⟩,
      ⟨(some 8), (.op (.mv (.tmp 40))), none⟩,
      ⟨(some 9), (.op (.mv (.tmp 41))), none⟩] [])
    (.seq (.seq (.region [
      ⟨(some 42), (.op (.mv (.tmp 5))), none⟩,
      ⟨(some 43), (.op (.un .not (.tmp 42))), none⟩,
      ⟨(some 44), (.op (.mv (.tmp 43))), none⟩,
      ⟨(some 45), (.op (.mv (.tmp 9))), (some (44, false))⟩,
      ⟨(some 46), (.op (.mv (.tmp 6))), (some (44, false))⟩,
      ⟨(some 47), (.op (.bin .neq (some .bool) (.tmp 45) (.tmp 46))), (some (44, false))⟩,
      ⟨(some 48), (.op (.pick (.tmp 44) (.cst (.bool true)) (.tmp 47))), none⟩] [])
    (.cond (.tmp 48)
      (.seq (.region [
        ⟨(some 4), (.op (.mv (.cst (.bool false)))), none⟩] [])
      .ret)
      .skip))
    (.seq (.seq (.region [
      ⟨(some 49), (.op (.mv (.tmp 9))), none⟩] [])
    (.cond (.tmp 49)
      (.seq (.region [
        ⟨(some 51), (.op (.mv (.tmp 8))), none⟩,
        ⟨(some 52), (.call (.cst (.func (.func 23) [] [])) [(.tmp 51)]), none⟩,
        ⟨(some 50), (.op (.mv (.tmp 52))), none⟩,
        ⟨(some 53), (.op (.ext 0 (.tmp 50))), none⟩,
        ⟨(some 54), (.op (.ext 1 (.tmp 50))), none⟩,
        ⟨(some 10), (.op (.mv (.tmp 53))), none⟩,
        ⟨(some 11), (.op (.mv (.tmp 54))), none⟩] [])
      (.seq (.region [
        ⟨(some 55), (.op (.mv (.tmp 10))), none⟩,
        ⟨(some 56), (.op (.mv (.tmp 0))), none⟩,
        ⟨(some 57), (.call (.cst (.func (.func 22) [] [])) [(.tmp 55), (.tmp 56)]), none⟩,
        ⟨(some 12), (.op (.mv (.tmp 57))), none⟩] [])
      (.seq (.region [
        ⟨(some 58), (.op (.mv (.tmp 11))), none⟩,
        ⟨(some 59), (.op (.un .not (.tmp 58))), none⟩,
        ⟨(some 60), (.op (.mv (.tmp 59))), none⟩,
        ⟨(some 61), (.op (.mv (.tmp 12))), (some (60, false))⟩,
        ⟨(some 62), (.op (.un .not (.tmp 61))), (some (60, false))⟩,
        ⟨(some 63), (.op (.pick (.tmp 60) (.cst (.bool true)) (.tmp 62))), none⟩] [])
      (.cond (.tmp 63)
        (.seq (.region [
          ⟨(some 4), (.op (.mv (.cst (.bool false)))), none⟩] [])
        .ret)
        .skip))))
      .skip))
    (.seq (.region [
      ⟨(some 65), (.op (.mv (.tmp 1))), none⟩,
      ⟨(some 66), (.call (.cst (.func (.func 23) [] [])) [(.tmp 65)]), none⟩,
      ⟨(some 64), (.op (.mv (.tmp 66))), none⟩,
      ⟨(some 67), (.op (.ext 0 (.tmp 64))), none⟩,
      ⟨(some 68), (.op (.ext 1 (.tmp 64))), none⟩,
      ⟨(some 13), (.op (.mv (.tmp 67))), none⟩,
      ⟨(some 14), (.op (.mv (.tmp 68))), none⟩] [])
    (.seq (.seq (.region [
      ⟨(some 69), (.op (.mv (.tmp 14))), none⟩,
      ⟨(some 70), (.op (.un .not (.tmp 69))), none⟩] [])
    (.cond (.tmp 70)
      (.seq (.region [
        ⟨(some 71), (.op (.mv (.tmp 13))), none⟩,
        ⟨(some 72), (.op (.len .slice (.tmp 71))), none⟩,
        ⟨(some 73), (.op (.bin .eql (some .int) (.tmp 72) (.cst (.int .i64 0)))), none⟩,
        ⟨(some 4), (.op (.mv (.tmp 73))), none⟩] [])
      .ret)
      .skip))
    (.seq (.region [
      ⟨(some 75), (.op (.mv (.tmp 13))), none⟩,
      ⟨(some 76), (.call (.cst (.func (.func 20) [] [])) [(.tmp 75)]), none⟩,
      ⟨(some 74), (.op (.mv (.tmp 76))), none⟩,
      ⟨(some 77), (.op (.ext 0 (.tmp 74))), none⟩,
      ⟨(some 78), (.op (.ext 1 (.tmp 74))), none⟩,
      ⟨(some 15), (.op (.mv (.tmp 77))), none⟩,
      ⟨(some 16), (.op (.mv (.tmp 78))), none⟩] [])
    (.seq (.region [
      ⟨(some 79), (.op (.mv (.tmp 16))), none⟩,
      ⟨(some 80), (.op (.mv (.tmp 79))), none⟩,
      ⟨(some 81), (.op (.mv (.tmp 15))), (some (80, true))⟩,
      ⟨(some 82), (.op (.mv (.tmp 1))), (some (80, true))⟩,
      ⟨(some 83), (.op (.bin .eql (some .str) (.tmp 81) (.tmp 82))), (some (80, true))⟩,
      ⟨(some 84), (.op (.pick (.tmp 80) (.tmp 83) (.cst (.bool false)))), none⟩,
      ⟨(some 4), (.op (.mv (.tmp 84))), none⟩] [])
    .ret))))))))))))⟩
theorem c8 : cFn Tryd.prog [] Tryd.f8 = some h8 := by kernel_rfl
/-- (*stint/stintlaw01.book).split -/
def h17 : HFn :=
  ⟨32, [(.tmp 4)],
    (.seq (.region [
      ⟨(some 4), (.op (.mv (.cst (.bool false)))), none⟩] [])
    (.seq (.region [
      ⟨(some 11), (.op (.mv (.tmp 1))), none⟩,
      ⟨(some 12), (.call (.cst (.func (.func 23) [] [])) [(.tmp 11)]), none⟩,
      ⟨(some 10), (.op (.mv (.tmp 12))), none⟩,
      ⟨(some 13), (.op (.ext 0 (.tmp 10))), none⟩,
      ⟨(some 14), (.op (.ext 1 (.tmp 10))), none⟩,
      ⟨(some 5), (.op (.mv (.tmp 13))), none⟩,
      ⟨(some 6), (.op (.mv (.tmp 14))), none⟩] [])
    (.seq (.region [
      ⟨(some 16), (.op (.mv (.tmp 1))), none⟩,
      ⟨(some 17), (.call (.cst (.func (.func 25) [] [])) [(.tmp 16)]), none⟩,
      ⟨(some 15), (.op (.mv (.tmp 17))), none⟩,
      ⟨(some 18), (.op (.ext 0 (.tmp 15))), none⟩,
      ⟨(some 19), (.op (.ext 1 (.tmp 15))), none⟩,
      ⟨(some 7), (.op (.mv (.tmp 18))), none⟩,
      ⟨(some 8), (.op (.mv (.tmp 19))), none⟩] [])
    (.seq (.region [
      ⟨(some 20), (.op (.mv (.tmp 5))), none⟩,
      ⟨(some 21), (.op (.mv (.tmp 7))), none⟩,
      ⟨(some 22), (.call (.cst (.func (.func 22) [] [])) [(.tmp 20), (.tmp 21)]), none⟩,
      ⟨(some 9), (.op (.mv (.tmp 22))), none⟩] [])
    (.seq (.region [
      ⟨(some 23), (.op (.mv (.tmp 0))), none⟩,
      ⟨(some 24), (.op (.mv (.tmp 5))), none⟩,
      ⟨(some 25), (.call (.cst (.func (.func 26) [] [])) [(.tmp 23), (.tmp 24)]), none⟩] [])
    (.seq (.region [
      ⟨(some 26), (.op (.mv (.tmp 9))), none⟩,
      ⟨(some 27), (.op (.mv (.tmp 26))), none⟩,
      ⟨(some 28), (.op (.mv (.tmp 6))), (some (27, true))⟩,
      ⟨(some 29), (.op (.mv (.tmp 8))), (some (27, true))⟩,
      ⟨(some 30), (.op (.bin .eql (some .bool) (.tmp 28) (.tmp 29))), (some (27, true))⟩,
      ⟨(some 31), (.op (.pick (.tmp 27) (.tmp 30) (.cst (.bool false)))), none⟩,
      ⟨(some 4), (.op (.mv (.tmp 31))), none⟩] [])
    .ret))))))⟩
theorem c17 : cFn Tryd.prog [] Tryd.f17 = some h17 := by kernel_rfl
/-- (*stint/stintlaw01.book).spoil -/
def h18 : HFn :=
  ⟨142, [(.tmp 2)],
    (.seq (.region [
      ⟨(some 2), (.op (.mv (.cst (.bool false)))), none⟩] [])
    (.seq (.region [
      ⟨(some 12), (.op (.mv (.tmp 0))), none⟩,
      ⟨(some 13), (.call (.cst (.func (.func 27) [] [])) [(.tmp 12)]), none⟩,
      ⟨(some 3), (.op (.mv (.tmp 13))), none⟩] [])
    (.seq (.region [
      ⟨(some 14), (.op (.mv (.tmp 0))), none⟩,
      ⟨(some 15), (.op (.nilc (.tmp 14))), none⟩,
      ⟨(some 16), (.op (.faddr 2 (.tmp 15))), none⟩,
      ⟨(some 17), (.op (.load none (.tmp 16))), none⟩,
      ⟨(some 4), (.op (.mv (.tmp 17))), none⟩] [])
    (.seq (.region [
      ⟨(some 18), (.op (.mv (.tmp 0))), none⟩,
      ⟨(some 19), (.op (.nilc (.tmp 18))), none⟩,
      ⟨(some 20), (.op (.faddr 0 (.tmp 19))), none⟩,
      ⟨(some 21), (.op (.load none (.tmp 20))), none⟩,
      ⟨(some 22), (.op (.len .slice (.tmp 21))), none⟩,
      ⟨(some 5), (.op (.mv (.tmp 22))), none⟩] [])
    (.seq (.seq (.region [
      ⟨(some 23), (.op (.mv (.tmp 4))), none⟩,
      ⟨(some 6), (.op (.mv (.tmp 23))), none⟩] [])
    (.block 0
      (.loop
        (.seq (.seq (.region [
          ⟨(some 24), (.op (.mv (.tmp 6))), none⟩,
          ⟨(some 25), (.op (.mv (.tmp 5))), none⟩,
          ⟨(some 26), (.op (.bin .lss none (.tmp 24) (.tmp 25))), none⟩] [])
        (.cond (.tmp 26)
          .skip
          (.exit 0)))
        (.seq (.block 1
          (.seq (.region [
            ⟨(some 7), (.op (.mv (.cst (.int .i64 0)))), none⟩] [])
          (.block 2
            (.loop
              (.seq (.seq (.region [
                ⟨(some 29), (.op (.mv (.tmp 7))), none⟩,
                ⟨(some 30), (.op (.mv (.tmp 0))), none⟩,
                ⟨(some 31), (.op (.nilc (.tmp 30))), none⟩,
                ⟨(some 32), (.op (.faddr 0 (.tmp 31))), none⟩,
                ⟨(some 33), (.op (.load none (.tmp 32))), none⟩,
                ⟨(some 34), (.op (.mv (.tmp 6))), none⟩,
                ⟨(some 35), (.op (.idxS 1 (.tmp 33) (.tmp 34))), none⟩,
                ⟨(some 36), (.op (.load none (.tmp 35))), none⟩,
                ⟨(some 37), (.op (.len .slice (.tmp 36))), none⟩,
                ⟨(some 38), (.op (.bin .lss none (.tmp 29) (.tmp 37))), none⟩] [])
              (.cond (.tmp 38)
                .skip
                (.exit 2)))
              (.seq (.block 3
                (.seq (.draw [
                  ⟨(some 41), (.op (.mv (.tmp 0))), none⟩,
                  ⟨(some 42), (.op (.nilc (.tmp 41))), none⟩,
                  ⟨(some 43), (.op (.faddr 0 (.tmp 42))), none⟩,
                  ⟨(some 44), (.op (.load none (.tmp 43))), none⟩,
                  ⟨(some 45), (.op (.mv (.tmp 6))), none⟩,
                  ⟨(some 46), (.op (.idxS 1 (.tmp 44) (.tmp 45))), none⟩,
                  ⟨(some 47), (.op (.load none (.tmp 46))), none⟩,
                  ⟨(some 48), (.op (.mv (.tmp 7))), none⟩,
                  ⟨(some 49), (.op (.mv (.tmp 6))), none⟩,
                  ⟨(some 50), (.call (.cst (.func (.func 28) [] [])) [(.tmp 49)]), none⟩,
                  ⟨(some 51), (.op (.idxS 1 (.tmp 47) (.tmp 48))), none⟩,
                  ⟨none, (.op (.store 1 (.tmp 51) (.tmp 50))), none⟩] [0, 1, 2, 3, 4, 5, 6, 7, 8, 9, 10, 11] [[], [], [], [], [], [], [], [], [], [], [], [10, 6, 5, 3]] [])
                (.draw [
                  ⟨(some 52), (.op (.mv (.tmp 0))), none⟩,
                  ⟨(some 53), (.op (.nilc (.tmp 52))), none⟩,
                  ⟨(some 54), (.op (.faddr 1 (.tmp 53))), none⟩,
                  ⟨(some 55), (.op (.load none (.tmp 54))), none⟩,
                  ⟨(some 56), (.op (.mv (.tmp 6))), none⟩,
                  ⟨(some 57), (.op (.idxS 1 (.tmp 55) (.tmp 56))), none⟩,
                  ⟨(some 58), (.op (.load none (.tmp 57))), none⟩,
                  ⟨(some 59), (.op (.mv (.tmp 7))), none⟩,
                  ⟨(some 60), (.op (.mv (.tmp 6))), none⟩,
                  ⟨(some 61), (.call (.cst (.func (.func 28) [] [])) [(.tmp 60)]), none⟩,
                  ⟨(some 62), (.op (.idxS 1 (.tmp 58) (.tmp 59))), none⟩,
                  ⟨none, (.op (.store 1 (.tmp 62) (.tmp 61))), none⟩] [0, 1, 2, 3, 4, 5, 6, 7, 8, 9, 10, 11] [[], [], [], [], [], [], [], [], [], [], [], [10, 6, 5, 3]] [])))
              (.region [
                ⟨(some 39), (.op (.mv (.tmp 7))), none⟩,
                ⟨(some 40), (.op (.bin .add none (.tmp 39) (.cst (.int .i64 1)))), none⟩,
                ⟨(some 7), (.op (.mv (.tmp 40))), none⟩] [])))))))
        (.region [
          ⟨(some 27), (.op (.mv (.tmp 6))), none⟩,
          ⟨(some 28), (.op (.bin .add none (.tmp 27) (.cst (.int .i64 1)))), none⟩,
          ⟨(some 6), (.op (.mv (.tmp 28))), none⟩] []))))))
    (.seq (.region [
      ⟨(some 63), (.op (.mv (.tmp 3))), none⟩,
      ⟨(some 64), (.op (.mv (.tmp 63))), none⟩,
      ⟨(some 65), (.op (.mv (.tmp 0))), (some (64, true))⟩,
      ⟨(some 66), (.call (.cst (.func (.func 27) [] [])) [(.tmp 65)]), (some (64, true))⟩,
      ⟨(some 67), (.op (.pick (.tmp 64) (.tmp 66) (.cst (.bool false)))), none⟩,
      ⟨(some 3), (.op (.mv (.tmp 67))), none⟩] [])
    (.seq (.seq (.region [
      ⟨(some 68), (.op (.mv (.tmp 4))), none⟩,
      ⟨(some 8), (.op (.mv (.tmp 68))), none⟩] [])
    (.block 4
      (.loop
        (.seq (.seq (.region [
          ⟨(some 69), (.op (.mv (.tmp 8))), none⟩,
          ⟨(some 70), (.op (.mv (.tmp 5))), none⟩,
          ⟨(some 71), (.op (.bin .lss none (.tmp 69) (.tmp 70))), none⟩] [])
        (.cond (.tmp 71)
          .skip
          (.exit 4)))
        (.seq (.block 5
          (.seq (.region [
            ⟨(some 74), (.op (.mv (.tmp 0))), none⟩,
            ⟨(some 75), (.op (.nilc (.tmp 74))), none⟩,
            ⟨(some 76), (.op (.faddr 0 (.tmp 75))), none⟩,
            ⟨(some 77), (.op (.load none (.tmp 76))), none⟩,
            ⟨(some 78), (.op (.mv (.tmp 8))), none⟩,
            ⟨(some 79), (.op (.idxS 1 (.tmp 77) (.tmp 78))), none⟩,
            ⟨(some 80), (.op (.load none (.tmp 79))), none⟩,
            ⟨(some 9), (.op (.mv (.tmp 80))), none⟩] [])
          (.seq (.region [
            ⟨(some 81), (.op (.bslice 1 0 [] [])), none⟩,
            ⟨(some 10), (.op (.mv (.tmp 81))), none⟩] [])
          (.seq (.region [
            ⟨(some 82), (.op (.mv (.tmp 10))), none⟩,
            ⟨(some 83), (.op (.mv (.tmp 0))), none⟩,
            ⟨(some 84), (.op (.nilc (.tmp 83))), none⟩,
            ⟨(some 85), (.op (.faddr 1 (.tmp 84))), none⟩,
            ⟨(some 86), (.op (.load none (.tmp 85))), none⟩,
            ⟨(some 87), (.op (.mv (.tmp 8))), none⟩,
            ⟨(some 88), (.op (.idxS 1 (.tmp 86) (.tmp 87))), none⟩,
            ⟨(some 89), (.op (.load none (.tmp 88))), none⟩,
            ⟨(some 90), (.op (.append 1 16 (.tmp 82) (.tmp 89))), none⟩,
            ⟨(some 10), (.op (.mv (.tmp 90))), none⟩] [])
          (.seq (.seq (.region [
            ⟨(some 11), (.op (.mv (.cst (.int .i64 0)))), none⟩] [])
          (.block 6
            (.loop
              (.seq (.seq (.region [
                ⟨(some 91), (.op (.mv (.tmp 11))), none⟩,
                ⟨(some 92), (.op (.bin .lss none (.tmp 91) (.cst (.int .i64 12)))), none⟩] [])
              (.cond (.tmp 92)
                .skip
                (.exit 6)))
              (.seq (.block 7
                (.seq (.region [
                  ⟨(some 95), (.op (.mv (.tmp 9))), none⟩,
                  ⟨(some 96), (.op (.mv (.tmp 5))), none⟩,
                  ⟨(some 97), (.op (.mv (.tmp 8))), none⟩,
                  ⟨(some 98), (.op (.bin .add none (.tmp 96) (.tmp 97))), none⟩,
                  ⟨(some 99), (.call (.cst (.func (.func 28) [] [])) [(.tmp 98)]), none⟩,
                  ⟨(some 100), (.op (.bslice 1 1 [(.str [])] [(0, 1, (.tmp 99))])), none⟩,
                  ⟨(some 101), (.op (.append 1 16 (.tmp 95) (.tmp 100))), none⟩,
                  ⟨(some 9), (.op (.mv (.tmp 101))), none⟩] [])
                (.region [
                  ⟨(some 102), (.op (.mv (.tmp 10))), none⟩,
                  ⟨(some 103), (.op (.mv (.tmp 5))), none⟩,
                  ⟨(some 104), (.op (.mv (.tmp 8))), none⟩,
                  ⟨(some 105), (.op (.bin .add none (.tmp 103) (.tmp 104))), none⟩,
                  ⟨(some 106), (.call (.cst (.func (.func 28) [] [])) [(.tmp 105)]), none⟩,
                  ⟨(some 107), (.op (.bslice 1 1 [(.str [])] [(0, 1, (.tmp 106))])), none⟩,
                  ⟨(some 108), (.op (.append 1 16 (.tmp 102) (.tmp 107))), none⟩,
                  ⟨(some 10), (.op (.mv (.tmp 108))), none⟩] [])))
              (.region [
                ⟨(some 93), (.op (.mv (.tmp 11))), none⟩,
                ⟨(some 94), (.op (.bin .add none (.tmp 93) (.cst (.int .i64 1)))), none⟩,
                ⟨(some 11), (.op (.mv (.tmp 94))), none⟩] []))))))
          (.seq (.region [
            ⟨(some 109), (.op (.mv (.tmp 0))), none⟩,
            ⟨(some 110), (.op (.mv (.tmp 0))), none⟩,
            ⟨(some 111), (.op (.nilc (.tmp 110))), none⟩,
            ⟨(some 112), (.op (.faddr 0 (.tmp 111))), none⟩,
            ⟨(some 113), (.op (.load none (.tmp 112))), none⟩,
            ⟨(some 114), (.op (.mv (.tmp 9))), none⟩,
            ⟨(some 115), (.op (.bslice 1 1 [.nilSlice] [(0, 1, (.tmp 114))])), none⟩,
            ⟨(some 116), (.op (.append 1 24 (.tmp 113) (.tmp 115))), none⟩,
            ⟨(some 117), (.op (.nilc (.tmp 109))), none⟩,
            ⟨(some 118), (.op (.faddr 0 (.tmp 117))), none⟩,
            ⟨none, (.op (.store 1 (.tmp 118) (.tmp 116))), none⟩] [])
          (.region [
            ⟨(some 119), (.op (.mv (.tmp 0))), none⟩,
            ⟨(some 120), (.op (.mv (.tmp 0))), none⟩,
            ⟨(some 121), (.op (.nilc (.tmp 120))), none⟩,
            ⟨(some 122), (.op (.faddr 1 (.tmp 121))), none⟩,
            ⟨(some 123), (.op (.load none (.tmp 122))), none⟩,
            ⟨(some 124), (.op (.mv (.tmp 10))), none⟩,
            ⟨(some 125), (.op (.bslice 1 1 [.nilSlice] [(0, 1, (.tmp 124))])), none⟩,
            ⟨(some 126), (.op (.append 1 24 (.tmp 123) (.tmp 125))), none⟩,
            ⟨(some 127), (.op (.nilc (.tmp 119))), none⟩,
            ⟨(some 128), (.op (.faddr 1 (.tmp 127))), none⟩,
            ⟨none, (.op (.store 1 (.tmp 128) (.tmp 126))), none⟩] [])))))))
        (.region [
          ⟨(some 72), (.op (.mv (.tmp 8))), none⟩,
          ⟨(some 73), (.op (.bin .add none (.tmp 72) (.cst (.int .i64 1)))), none⟩,
          ⟨(some 8), (.op (.mv (.tmp 73))), none⟩] []))))))
    (.seq (.region [
      ⟨(some 129), (.op (.mv (.tmp 0))), none⟩,
      ⟨(some 130), (.op (.mv (.tmp 0))), none⟩,
      ⟨(some 131), (.op (.nilc (.tmp 130))), none⟩,
      ⟨(some 132), (.op (.faddr 0 (.tmp 131))), none⟩,
      ⟨(some 133), (.op (.load none (.tmp 132))), none⟩,
      ⟨(some 134), (.op (.len .slice (.tmp 133))), none⟩,
      ⟨(some 135), (.op (.nilc (.tmp 129))), none⟩,
      ⟨(some 136), (.op (.faddr 2 (.tmp 135))), none⟩,
      ⟨none, (.op (.store 1 (.tmp 136) (.tmp 134))), none⟩] [])
    (.seq (.region [
      ⟨(some 137), (.op (.mv (.tmp 3))), none⟩,
      ⟨(some 138), (.op (.mv (.tmp 137))), none⟩,
      ⟨(some 139), (.op (.mv (.tmp 0))), (some (138, true))⟩,
      ⟨(some 140), (.call (.cst (.func (.func 27) [] [])) [(.tmp 139)]), (some (138, true))⟩,
      ⟨(some 141), (.op (.pick (.tmp 138) (.tmp 140) (.cst (.bool false)))), none⟩,
      ⟨(some 2), (.op (.mv (.tmp 141))), none⟩] [])
    .ret)))))))))⟩
theorem c18 : cFn Tryd.prog [] Tryd.f18 = some h18 := by kernel_rfl
/-- stint/stintlaw01.beyond -/
def h19 : HFn :=
  ⟨32, [(.tmp 2)],
    (.seq (.region [
      ⟨(some 2), (.op (.mv (.cst (.bool false)))), none⟩] [])
    (.seq (.region [
      ⟨(some 3), (.op (.mv (.cst (.int .i64 0)))), none⟩] [])
    (.seq (.seq (.region [
      ⟨(some 4), (.op (.mv (.cst (.int .i64 0)))), none⟩] [])
    (.block 0
      (.loop
        (.seq (.seq (.region [
          ⟨(some 5), (.op (.mv (.tmp 4))), none⟩,
          ⟨(some 6), (.op (.mv (.tmp 0))), none⟩,
          ⟨(some 7), (.op (.len .slice (.tmp 6))), none⟩,
          ⟨(some 8), (.op (.bin .lss none (.tmp 5) (.tmp 7))), none⟩] [])
        (.cond (.tmp 8)
          .skip
          (.exit 0)))
        (.seq (.block 1
          (.seq (.region [
            ⟨(some 11), (.op (.mv (.tmp 3))), none⟩,
            ⟨(some 12), (.op (.bin .add none (.tmp 11) (.cst (.int .i64 1)))), none⟩,
            ⟨(some 3), (.op (.mv (.tmp 12))), none⟩] [])
          (.seq (.seq (.region [
            ⟨(some 13), (.op (.mv (.tmp 3))), none⟩,
            ⟨(some 14), (.op (.bin .geq none (.tmp 13) (.cst (.int .i64 2147483647)))), none⟩,
            ⟨(some 15), (.op (.mv (.tmp 14))), none⟩,
            ⟨(some 16), (.op (.mv (.tmp 0))), (some (15, false))⟩,
            ⟨(some 17), (.op (.mv (.tmp 4))), (some (15, false))⟩,
            ⟨(some 18), (.op (.idxS 1 (.tmp 16) (.tmp 17))), (some (15, false))⟩,
            ⟨(some 19), (.op (.load none (.tmp 18))), (some (15, false))⟩,
            ⟨(some 20), (.op (.len .str (.tmp 19))), (some (15, false))⟩,
            ⟨(some 21), (.op (.mv (.tmp 3))), (some (15, false))⟩,
            ⟨(some 22), (.op (.bin .sub none (.cst (.int .i64 2147483647)) (.tmp 21))), (some (15, false))⟩,
            ⟨(some 23), (.op (.bin .gtr none (.tmp 20) (.tmp 22))), (some (15, false))⟩,
            ⟨(some 24), (.op (.pick (.tmp 15) (.cst (.bool true)) (.tmp 23))), none⟩] [])
          (.cond (.tmp 24)
            (.seq (.region [
              ⟨(some 2), (.op (.mv (.cst (.bool true)))), none⟩] [])
            .ret)
            .skip))
          (.region [
            ⟨(some 25), (.op (.mv (.tmp 3))), none⟩,
            ⟨(some 26), (.op (.mv (.tmp 0))), none⟩,
            ⟨(some 27), (.op (.mv (.tmp 4))), none⟩,
            ⟨(some 28), (.op (.idxS 1 (.tmp 26) (.tmp 27))), none⟩,
            ⟨(some 29), (.op (.load none (.tmp 28))), none⟩,
            ⟨(some 30), (.op (.len .str (.tmp 29))), none⟩,
            ⟨(some 31), (.op (.bin .add none (.tmp 25) (.tmp 30))), none⟩,
            ⟨(some 3), (.op (.mv (.tmp 31))), none⟩] []))))
        (.region [
          ⟨(some 9), (.op (.mv (.tmp 4))), none⟩,
          ⟨(some 10), (.op (.bin .add none (.tmp 9) (.cst (.int .i64 1)))), none⟩,
          ⟨(some 4), (.op (.mv (.tmp 10))), none⟩] []))))))
    (.seq (.region [
      ⟨(some 2), (.op (.mv (.cst (.bool false)))), none⟩] [])
    .ret))))⟩
theorem c19 : cFn Tryd.prog [] Tryd.f19 = some h19 := by kernel_rfl
/-- stint/stintref01.Join -/
def h21 : HFn :=
  ⟨35, [(.tmp 2), (.tmp 3)],
    (.seq (.region [
      ⟨(some 2), (.op (.mv (.cst (.str [])))), none⟩,
      ⟨(some 3), (.op (.mv (.cst (.bool false)))), none⟩] [])
    (.seq (.seq (.region [
      ⟨(some 6), (.op (.mv (.tmp 0))), none⟩,
      ⟨(some 7), (.op (.len .slice (.tmp 6))), none⟩,
      ⟨(some 8), (.op (.bin .eql (some .int) (.tmp 7) (.cst (.int .i64 0)))), none⟩] [])
    (.cond (.tmp 8)
      (.seq (.region [
        ⟨(some 2), (.op (.mv (.cst (.str [])))), none⟩,
        ⟨(some 3), (.op (.mv (.cst (.bool false)))), none⟩] [])
      .ret)
      .skip))
    (.seq (.region [
      ⟨(some 9), (.op (.bslice 1 0 [] [])), none⟩,
      ⟨(some 4), (.op (.mv (.tmp 9))), none⟩] [])
    (.seq (.seq (.region [
      ⟨(some 5), (.op (.mv (.cst (.int .i64 0)))), none⟩] [])
    (.block 0
      (.loop
        (.seq (.seq (.region [
          ⟨(some 10), (.op (.mv (.tmp 5))), none⟩,
          ⟨(some 11), (.op (.mv (.tmp 0))), none⟩,
          ⟨(some 12), (.op (.len .slice (.tmp 11))), none⟩,
          ⟨(some 13), (.op (.bin .lss none (.tmp 10) (.tmp 12))), none⟩] [])
        (.cond (.tmp 13)
          .skip
          (.exit 0)))
        (.seq (.block 1
          (.seq (.seq (.region [
            ⟨(some 16), (.op (.mv (.tmp 0))), none⟩,
            ⟨(some 17), (.op (.mv (.tmp 5))), none⟩,
            ⟨(some 18), (.op (.idxS 1 (.tmp 16) (.tmp 17))), none⟩,
            ⟨(some 19), (.op (.load none (.tmp 18))), none⟩,
            ⟨(some 20), (.call (.cst (.func (.func 16) [] [])) [(.tmp 19)]), none⟩,
            ⟨(some 21), (.op (.un .not (.tmp 20))), none⟩] [])
          (.cond (.tmp 21)
            (.seq (.region [
              ⟨(some 2), (.op (.mv (.cst (.str [])))), none⟩,
              ⟨(some 3), (.op (.mv (.cst (.bool false)))), none⟩] [])
            .ret)
            .skip))
          (.seq (.seq (.region [
            ⟨(some 22), (.op (.mv (.tmp 5))), none⟩,
            ⟨(some 23), (.op (.bin .gtr none (.tmp 22) (.cst (.int .i64 0)))), none⟩] [])
          (.cond (.tmp 23)
            (.region [
              ⟨(some 24), (.op (.mv (.tmp 4))), none⟩,
              ⟨(some 25), (.op (.bslice 1 1 [(.int .u8 0)] [(0, 1, (.cst (.int .u8 32)))])), none⟩,
              ⟨(some 26), (.op (.append 1 1 (.tmp 24) (.tmp 25))), none⟩,
              ⟨(some 4), (.op (.mv (.tmp 26))), none⟩] [])
            .skip))
          (.region [
            ⟨(some 27), (.op (.mv (.tmp 4))), none⟩,
            ⟨(some 28), (.op (.mv (.tmp 0))), none⟩,
            ⟨(some 29), (.op (.mv (.tmp 5))), none⟩,
            ⟨(some 30), (.op (.idxS 1 (.tmp 28) (.tmp 29))), none⟩,
            ⟨(some 31), (.op (.load none (.tmp 30))), none⟩,
            ⟨(some 32), (.op (.append 1 1 (.tmp 27) (.tmp 31))), none⟩,
            ⟨(some 4), (.op (.mv (.tmp 32))), none⟩] []))))
        (.region [
          ⟨(some 14), (.op (.mv (.tmp 5))), none⟩,
          ⟨(some 15), (.op (.bin .add none (.tmp 14) (.cst (.int .i64 1)))), none⟩,
          ⟨(some 5), (.op (.mv (.tmp 15))), none⟩] []))))))
    (.seq (.region [
      ⟨(some 33), (.op (.mv (.tmp 4))), none⟩,
      ⟨(some 34), (.op (.b2s (.tmp 33))), none⟩,
      ⟨(some 2), (.op (.mv (.tmp 34))), none⟩,
      ⟨(some 3), (.op (.mv (.cst (.bool true)))), none⟩] [])
    .ret)))))⟩
theorem c21 : cFn Tryd.prog [] Tryd.f21 = some h21 := by kernel_rfl
/-- stint/stintlaw01.same -/
def h22 : HFn :=
  ⟨26, [(.tmp 4)],
    (.seq (.region [
      ⟨(some 4), (.op (.mv (.cst (.bool false)))), none⟩] [])
    (.seq (.seq (.region [
      ⟨(some 6), (.op (.mv (.tmp 0))), none⟩,
      ⟨(some 7), (.op (.len .slice (.tmp 6))), none⟩,
      ⟨(some 8), (.op (.mv (.tmp 1))), none⟩,
      ⟨(some 9), (.op (.len .slice (.tmp 8))), none⟩,
      ⟨(some 10), (.op (.bin .neq (some .int) (.tmp 7) (.tmp 9))), none⟩] [])
    (.cond (.tmp 10)
      (.seq (.region [
        ⟨(some 4), (.op (.mv (.cst (.bool false)))), none⟩] [])
      .ret)
      .skip))
    (.seq (.seq (.region [
      ⟨(some 5), (.op (.mv (.cst (.int .i64 0)))), none⟩] [])
    (.block 0
      (.loop
        (.seq (.seq (.region [
          ⟨(some 11), (.op (.mv (.tmp 5))), none⟩,
          ⟨(some 12), (.op (.mv (.tmp 0))), none⟩,
          ⟨(some 13), (.op (.len .slice (.tmp 12))), none⟩,
          ⟨(some 14), (.op (.bin .lss none (.tmp 11) (.tmp 13))), none⟩] [])
        (.cond (.tmp 14)
          .skip
          (.exit 0)))
        (.seq (.block 1
          (.seq (.draw [
            ⟨(some 17), (.op (.mv (.tmp 0))), none⟩,
            ⟨(some 18), (.op (.mv (.tmp 5))), none⟩,
            ⟨(some 19), (.op (.idxS 1 (.tmp 17) (.tmp 18))), none⟩,
            ⟨(some 20), (.op (.load none (.tmp 19))), none⟩,
            ⟨(some 21), (.op (.mv (.tmp 1))), none⟩,
            ⟨(some 22), (.op (.mv (.tmp 5))), none⟩,
            ⟨(some 23), (.op (.idxS 1 (.tmp 21) (.tmp 22))), none⟩,
            ⟨(some 24), (.op (.load none (.tmp 23))), none⟩,
            ⟨(some 25), (.op (.bin .neq (some .str) (.tmp 20) (.tmp 24))), none⟩] [0, 1, 2, 3, 4, 5, 6, 7, 8] [[], [], [], [], [], [], [], [], []] [])
          (.cond (.tmp 25)
            (.seq (.region [
              ⟨(some 4), (.op (.mv (.cst (.bool false)))), none⟩] [])
            .ret)
            .skip)))
        (.region [
          ⟨(some 15), (.op (.mv (.tmp 5))), none⟩,
          ⟨(some 16), (.op (.bin .add none (.tmp 15) (.cst (.int .i64 1)))), none⟩,
          ⟨(some 5), (.op (.mv (.tmp 16))), none⟩] []))))))
    (.seq (.region [
      ⟨(some 4), (.op (.mv (.cst (.bool true)))), none⟩] [])
    .ret))))⟩
theorem c22 : cFn Tryd.prog [] Tryd.f22 = some h22 := by kernel_rfl
/-- stint/stintref01.Split -/
def h25 : HFn :=
  ⟨40, [(.tmp 2), (.tmp 3)],
    (.seq (.region [
      ⟨(some 2), (.op (.mv (.cst .nilSlice))), none⟩,
      ⟨(some 3), (.op (.mv (.cst (.bool false)))), none⟩] [])
    (.seq (.region [
      ⟨(some 7), (.op (.bslice 1 0 [] [])), none⟩,
      ⟨(some 4), (.op (.mv (.tmp 7))), none⟩] [])
    (.seq (.region [
      ⟨(some 5), (.op (.mv (.cst (.int .i64 0)))), none⟩] [])
    (.seq (.seq (.region [
      ⟨(some 6), (.op (.mv (.cst (.int .i64 0)))), none⟩] [])
    (.block 0
      (.loop
        (.seq (.seq (.region [
          ⟨(some 8), (.op (.mv (.tmp 6))), none⟩,
          ⟨(some 9), (.op (.mv (.tmp 0))), none⟩,
          ⟨(some 10), (.op (.len .str (.tmp 9))), none⟩,
          ⟨(some 11), (.op (.bin .leq none (.tmp 8) (.tmp 10))), none⟩] [])
        (.cond (.tmp 11)
          .skip
          (.exit 0)))
        (.seq (.block 1
          (.seq (.seq (.region [
            ⟨(some 14), (.op (.mv (.tmp 6))), none⟩,
            ⟨(some 15), (.op (.mv (.tmp 0))), none⟩,
            ⟨(some 16), (.op (.len .str (.tmp 15))), none⟩,
            ⟨(some 17), (.op (.bin .lss none (.tmp 14) (.tmp 16))), none⟩,
            ⟨(some 18), (.op (.mv (.tmp 17))), none⟩,
            ⟨(some 19), (.op (.mv (.tmp 0))), (some (18, true))⟩,
            ⟨(some 20), (.op (.mv (.tmp 6))), (some (18, true))⟩,
            ⟨(some 21), (.op (.idxStr (.tmp 19) (.tmp 20))), (some (18, true))⟩,
            ⟨(some 22), (.op (.bin .neq (some .int) (.tmp 21) (.cst (.int .u8 32)))), (some (18, true))⟩,
            ⟨(some 23), (.op (.pick (.tmp 18) (.tmp 22) (.cst (.bool false)))), none⟩] [])
          (.cond (.tmp 23)
            (.exit 1)
            .skip))
          (.seq (.seq (.region [
            ⟨(some 24), (.op (.mv (.tmp 0))), none⟩,
            ⟨(some 25), (.op (.mv (.tmp 5))), none⟩,
            ⟨(some 26), (.op (.mv (.tmp 6))), none⟩,
            ⟨(some 27), (.op (.sliceStr (.tmp 24) (some (.tmp 25)) (some (.tmp 26)))), none⟩,
            ⟨(some 28), (.call (.cst (.func (.func 16) [] [])) [(.tmp 27)]), none⟩,
            ⟨(some 29), (.op (.un .not (.tmp 28))), none⟩] [])
          (.cond (.tmp 29)
            (.seq (.region [
              ⟨(some 2), (.op (.mv (.cst .nilSlice))), none⟩,
              ⟨(some 3), (.op (.mv (.cst (.bool false)))), none⟩] [])
            .ret)
            .skip))
          (.seq (.region [
            ⟨(some 30), (.op (.mv (.tmp 4))), none⟩,
            ⟨(some 31), (.op (.mv (.tmp 0))), none⟩,
            ⟨(some 32), (.op (.mv (.tmp 5))), none⟩,
            ⟨(some 33), (.op (.mv (.tmp 6))), none⟩,
            ⟨(some 34), (.op (.sliceStr (.tmp 31) (some (.tmp 32)) (some (.tmp 33)))), none⟩,
            ⟨(some 35), (.op (.bslice 1 1 [(.str [])] [(0, 1, (.tmp 34))])), none⟩,
            ⟨(some 36), (.op (.append 1 16 (.tmp 30) (.tmp 35))), none⟩,
            ⟨(some 4), (.op (.mv (.tmp 36))), none⟩] [])
          (.region [
            ⟨(some 37), (.op (.mv (.tmp 6))), none⟩,
            ⟨(some 38), (.op (.bin .add none (.tmp 37) (.cst (.int .i64 1)))), none⟩,
            ⟨(some 5), (.op (.mv (.tmp 38))), none⟩] [])))))
        (.region [
          ⟨(some 12), (.op (.mv (.tmp 6))), none⟩,
          ⟨(some 13), (.op (.bin .add none (.tmp 12) (.cst (.int .i64 1)))), none⟩,
          ⟨(some 6), (.op (.mv (.tmp 13))), none⟩] []))))))
    (.seq (.region [
      ⟨(some 39), (.op (.mv (.tmp 4))), none⟩,
      ⟨(some 2), (.op (.mv (.tmp 39))), none⟩,
      ⟨(some 3), (.op (.mv (.cst (.bool true)))), none⟩] [])
    .ret)))))⟩
theorem c25 : cFn Tryd.prog [] Tryd.f25 = some h25 := by kernel_rfl
/-- (*stint/stintlaw01.book).keep -/
def h26 : HFn :=
  ⟨29, [],
    (.seq (.region [
      ⟨(some 5), (.op (.bslice 1 0 [] [])), none⟩,
      ⟨(some 4), (.op (.mv (.tmp 5))), none⟩] [])
    (.seq (.region [
      ⟨(some 6), (.op (.mv (.tmp 4))), none⟩,
      ⟨(some 7), (.op (.mv (.tmp 1))), none⟩,
      ⟨(some 8), (.op (.append 1 16 (.tmp 6) (.tmp 7))), none⟩,
      ⟨(some 4), (.op (.mv (.tmp 8))), none⟩] [])
    (.seq (.region [
      ⟨(some 9), (.op (.mv (.tmp 0))), none⟩,
      ⟨(some 10), (.op (.mv (.tmp 0))), none⟩,
      ⟨(some 11), (.op (.nilc (.tmp 10))), none⟩,
      ⟨(some 12), (.op (.faddr 0 (.tmp 11))), none⟩,
      ⟨(some 13), (.op (.load none (.tmp 12))), none⟩,
      ⟨(some 14), (.op (.mv (.tmp 1))), none⟩,
      ⟨(some 15), (.op (.bslice 1 1 [.nilSlice] [(0, 1, (.tmp 14))])), none⟩,
      ⟨(some 16), (.op (.append 1 24 (.tmp 13) (.tmp 15))), none⟩,
      ⟨(some 17), (.op (.nilc (.tmp 9))), none⟩,
      ⟨(some 18), (.op (.faddr 0 (.tmp 17))), none⟩,
      ⟨none, (.op (.store 1 (.tmp 18) (.tmp 16))), none⟩] [])
    (.region [
      ⟨(some 19), (.op (.mv (.tmp 0))), none⟩,
      ⟨(some 20), (.op (.mv (.tmp 0))), none⟩,
      ⟨(some 21), (.op (.nilc (.tmp 20))), none⟩,
      ⟨(some 22), (.op (.faddr 1 (.tmp 21))), none⟩,
      ⟨(some 23), (.op (.load none (.tmp 22))), none⟩,
      ⟨(some 24), (.op (.mv (.tmp 4))), none⟩,
      ⟨(some 25), (.op (.bslice 1 1 [.nilSlice] [(0, 1, (.tmp 24))])), none⟩,
      ⟨(some 26), (.op (.append 1 24 (.tmp 23) (.tmp 25))), none⟩,
      ⟨(some 27), (.op (.nilc (.tmp 19))), none⟩,
      ⟨(some 28), (.op (.faddr 1 (.tmp 27))), none⟩,
      ⟨none, (.op (.store 1 (.tmp 28) (.tmp 26))), none⟩] []))))⟩
theorem c26 : cFn Tryd.prog [] Tryd.f26 = some h26 := by kernel_rfl
/-- (*stint/stintlaw01.book).holds -/
def h27 : HFn :=
  ⟨31, [(.tmp 2)],
    (.seq (.region [
      ⟨(some 2), (.op (.mv (.cst (.bool false)))), none⟩] [])
    (.seq (.seq (.region [
      ⟨(some 3), (.op (.mv (.cst (.int .i64 0)))), none⟩] [])
    (.block 0
      (.loop
        (.seq (.seq (.region [
          ⟨(some 5), (.op (.mv (.tmp 3))), none⟩,
          ⟨(some 6), (.op (.mv (.tmp 0))), none⟩,
          ⟨(some 7), (.op (.nilc (.tmp 6))), none⟩,
          ⟨(some 8), (.op (.faddr 0 (.tmp 7))), none⟩,
          ⟨(some 9), (.op (.load none (.tmp 8))), none⟩,
          ⟨(some 10), (.op (.len .slice (.tmp 9))), none⟩,
          ⟨(some 11), (.op (.bin .lss none (.tmp 5) (.tmp 10))), none⟩] [])
        (.cond (.tmp 11)
          .skip
          (.exit 0)))
        (.seq (.block 1
          (.seq (.draw [
            ⟨(some 14), (.op (.mv (.tmp 0))), none⟩,
            ⟨(some 15), (.op (.nilc (.tmp 14))), none⟩,
            ⟨(some 16), (.op (.faddr 0 (.tmp 15))), none⟩,
            ⟨(some 17), (.op (.load none (.tmp 16))), none⟩,
            ⟨(some 18), (.op (.mv (.tmp 3))), none⟩,
            ⟨(some 19), (.op (.idxS 1 (.tmp 17) (.tmp 18))), none⟩,
            ⟨(some 20), (.op (.load none (.tmp 19))), none⟩,
            ⟨(some 21), (.op (.mv (.tmp 0))), none⟩,
            ⟨(some 22), (.op (.nilc (.tmp 21))), none⟩,
            ⟨(some 23), (.op (.faddr 1 (.tmp 22))), none⟩,
            ⟨(some 24), (.op (.load none (.tmp 23))), none⟩,
            ⟨(some 25), (.op (.mv (.tmp 3))), none⟩,
            ⟨(some 26), (.op (.idxS 1 (.tmp 24) (.tmp 25))), none⟩,
            ⟨(some 27), (.op (.load none (.tmp 26))), none⟩,
            ⟨(some 28), (.call (.cst (.func (.func 22) [] [])) [(.tmp 20), (.tmp 27)]), none⟩,
            ⟨(some 4), (.op (.mv (.tmp 28))), none⟩] [0, 1, 2, 3, 4, 5, 6, 7, 8, 9, 10, 11, 12, 13, 14, 15] [[], [], [], [], [], [], [], [], [], [], [], [], [], [], [6, 5, 3, 13, 12, 10], []] [])
          (.seq (.region [
            ⟨(some 29), (.op (.mv (.tmp 4))), none⟩,
            ⟨(some 30), (.op (.un .not (.tmp 29))), none⟩] [])
          (.cond (.tmp 30)
            (.seq (.region [
              ⟨(some 2), (.op (.mv (.cst (.bool false)))), none⟩] [])
            .ret)
            .skip))))
        (.region [
          ⟨(some 12), (.op (.mv (.tmp 3))), none⟩,
          ⟨(some 13), (.op (.bin .add none (.tmp 12) (.cst (.int .i64 1)))), none⟩,
          ⟨(some 3), (.op (.mv (.tmp 13))), none⟩] []))))))
    (.seq (.region [
      ⟨(some 2), (.op (.mv (.cst (.bool true)))), none⟩] [])
    .ret)))⟩
theorem c27 : cFn Tryd.prog [] Tryd.f27 = some h27 := by kernel_rfl
/-- stint/stintlaw01.mark -/
def h28 : HFn :=
  ⟨20, [(.tmp 2)],
    (.seq (.region [
      ⟨(some 2), (.op (.mv (.cst (.str [])))), none⟩] [])
    (.seq (.region [
      ⟨(some 3), (.op (.mv (.cst (.str [109, 97, 114, 107, 32])))), none⟩] [])
    (.seq (.seq (.region [
      ⟨(some 5), (.op (.mv (.tmp 0))), none⟩,
      ⟨(some 6), (.op (.bin .add none (.tmp 5) (.cst (.int .i64 1)))), none⟩,
      ⟨(some 4), (.op (.mv (.tmp 6))), none⟩] [])
    (.block 0
      (.loop
        (.seq (.seq (.region [
          ⟨(some 7), (.op (.mv (.tmp 4))), none⟩,
          ⟨(some 8), (.op (.bin .gtr none (.tmp 7) (.cst (.int .i64 0)))), none⟩] [])
        (.cond (.tmp 8)
          .skip
          (.exit 0)))
        (.seq (.block 1
          (.region [
            ⟨(some 11), (.op (.mv (.tmp 3))), none⟩,
            ⟨(some 12), (.op (.mv (.tmp 4))), none⟩,
            ⟨(some 13), (.op (.bin .rem none (.tmp 12) (.cst (.int .i64 26)))), none⟩,
            ⟨(some 14), (.op (.bin .add none (.cst (.int .i64 97)) (.tmp 13))), none⟩,
            ⟨(some 15), (.op (.cInt .u8 (.tmp 14))), none⟩,
            ⟨(some 16), (.op (.bslice 1 1 [(.int .u8 0)] [(0, 1, (.tmp 15))])), none⟩,
            ⟨(some 17), (.op (.b2s (.tmp 16))), none⟩,
            ⟨(some 18), (.op (.bin .add none (.tmp 11) (.tmp 17))), none⟩,
            ⟨(some 3), (.op (.mv (.tmp 18))), none⟩] []))
        (.region [
          ⟨(some 9), (.op (.mv (.tmp 4))), none⟩,
          ⟨(some 10), (.op (.bin .quo none (.tmp 9) (.cst (.int .i64 26)))), none⟩,
          ⟨(some 4), (.op (.mv (.tmp 10))), none⟩] []))))))
    (.seq (.region [
      ⟨(some 19), (.op (.mv (.tmp 3))), none⟩,
      ⟨(some 2), (.op (.mv (.tmp 19))), none⟩] [])
    .ret))))⟩
theorem c28 : cFn Tryd.prog [] Tryd.f28 = some h28 := by kernel_rfl
def F : FuncId → Option HFn
  | 6 => some h6
  | 7 => some h7
  | 8 => some h8
  | 17 => some h17
  | 18 => some h18
  | 19 => some h19
  | 21 => some h21
  | 22 => some h22
  | 25 => some h25
  | 26 => some h26
  | 27 => some h27
  | 28 => some h28
  | _ => none
theorem F_ok : FOk Tryd.prog F := by
  intro f hf h
  unfold F at h
  split at h
  · simp at h; subst h; exact ⟨_, [], Tryd.func6, c6⟩
  · simp at h; subst h; exact ⟨_, [], Tryd.func7, c7⟩
  · simp at h; subst h; exact ⟨_, [], Tryd.func8, c8⟩
  · simp at h; subst h; exact ⟨_, [], Tryd.func17, c17⟩
  · simp at h; subst h; exact ⟨_, [], Tryd.func18, c18⟩
  · simp at h; subst h; exact ⟨_, [], Tryd.func19, c19⟩
  · simp at h; subst h; exact ⟨_, [], Tryd.func21, c21⟩
  · simp at h; subst h; exact ⟨_, [], Tryd.func22, c22⟩
  · simp at h; subst h; exact ⟨_, [], Tryd.func25, c25⟩
  · simp at h; subst h; exact ⟨_, [], Tryd.func26, c26⟩
  · simp at h; subst h; exact ⟨_, [], Tryd.func27, c27⟩
  · simp at h; subst h; exact ⟨_, [], Tryd.func28, c28⟩
  · simp at h
end Go.Proofs.YteedidafobfijaaDoor.P5
