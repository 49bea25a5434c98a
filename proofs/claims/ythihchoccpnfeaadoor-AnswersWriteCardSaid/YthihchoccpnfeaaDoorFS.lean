import Derived.Test.YthihchoccpnfeaaDoorHLRound
import Derived.Test.YthihchoccpnfeaaDoorProg
import Derived.KernelRfl
/- The functions, turned (written by program, each checked by the kernel). -/
namespace Go.Proofs.YthihchoccpnfeaaDoor
open Go Go.HL
namespace S
/-- stint/stintlaw08.shown -/
def h9 : HFn :=
  ⟨88, [(.tmp 0)],
    (.seq (.region [
      ⟨(some 0), (.op (.mv (.cst (.bool false)))), none⟩] [])
    (.seq (.region [
      ⟨(some 13), (.op (.bslice 1 2 [(.int .u8 0), (.int .u8 0)] [(0, 1, (.cst (.int .u8 97))), (1, 1, (.cst (.int .u8 98)))])), none⟩,
      ⟨(some 14), (.op (.build [(.int .i64 0), (.int .i64 0), (.int .i64 0), (.str []), .nilSlice] [(0, 1, (.cst (.int .i64 3))), (1, 1, (.cst (.int .i64 7))), (4, 1, (.tmp 13))])), none⟩,
      ⟨(some 15), (.call (.cst (.func (.func 12) [] [])) [(.tmp 14)]), none⟩,
      ⟨(some 12), (.op (.mv (.tmp 15))), none⟩,
      ⟨(some 16), (.op (.ext 0 (.tmp 12))), none⟩,
      ⟨(some 17), (.op (.ext 1 (.tmp 12))), none⟩,
      ⟨(some 1), (.op (.mv (.tmp 16))), none⟩,
      ⟨(some 2), (.op (.mv (.tmp 17))), none⟩] [])
    (.seq (.region [
      ⟨(some 19), (.op (.build [(.int .i64 0), (.int .i64 0), (.int .i64 0), (.str []), .nilSlice] [(0, 1, (.cst (.int .i64 14)))])), none⟩,
      ⟨(some 20), (.call (.cst (.func (.func 12) [] [])) [(.tmp 19)]), none⟩,
      ⟨(some 18), (.op (.mv (.tmp 20))), none⟩,
      ⟨(some 21), (.op (.ext 0 (.tmp 18))), none⟩,
      ⟨(some 22), (.op (.ext 1 (.tmp 18))), none⟩,
      ⟨(some 3), (.op (.mv (.tmp 21))), none⟩,
      ⟨(some 4), (.op (.mv (.tmp 22))), none⟩] [])
    (.seq (.region [
      ⟨(some 23), (.call (.cst (.func (.func 21) [] [])) []), none⟩,
      ⟨(some 5), (.op (.mv (.tmp 23))), none⟩] [])
    (.seq (.seq (.region [
      ⟨(some 24), (.op (.mv (.tmp 5))), none⟩,
      ⟨(some 25), (.op (.bin .eql (some .ptrN) (.tmp 24) (.cst .nilPtr))), none⟩,
      ⟨(some 26), (.op (.mv (.tmp 25))), none⟩,
      ⟨(some 27), (.op (.mv (.tmp 2))), (some (26, false))⟩,
      ⟨(some 28), (.op (.bin .neq (some .int) (.tmp 27) (.cst (.int .i64 0)))), (some (26, false))⟩,
      ⟨(some 29), (.op (.pick (.tmp 26) (.cst (.bool true)) (.tmp 28))), none⟩,
      ⟨(some 30), (.op (.mv (.tmp 29))), none⟩,
      ⟨(some 31), (.op (.mv (.tmp 4))), (some (30, false))⟩,
      ⟨(some 32), (.op (.bin .neq (some .int) (.tmp 31) (.cst (.int .i64 0)))), (some (30, false))⟩,
      ⟨(some 33), (.op (.pick (.tmp 30) (.cst (.bool true)) (.tmp 32))), none⟩] [])
    (.cond (.tmp 33)
      (.seq (.region [
        ⟨(some 0), (.op (.mv (.cst (.bool false)))), none⟩] [])
      .ret)
      .skip))
    (.seq (.region [
      ⟨(some 34), (.op (.mv (.tmp 5))), none⟩,
      ⟨(some 35), (.op (.bslice 1 14 [(.int .u8 0), (.int .u8 0), (.int .u8 0), (.int .u8 0), (.int .u8 0), (.int .u8 0), (.int .u8 0), (.int .u8 0), (.int .u8 0), (.int .u8 0), (.int .u8 0), (.int .u8 0), (.int .u8 0), (.int .u8 0)] [(0, 1, (.cst (.int .u8 75))), (1, 1, (.cst (.int .u8 73))), (2, 1, (.cst (.int .u8 67))), (3, 1, (.cst (.int .u8 75))), (4, 1, (.cst (.int .u8 69))), (5, 1, (.cst (.int .u8 68))), (6, 1, (.cst (.int .u8 32))), (7, 1, (.cst (.int .u8 49))), (8, 1, (.cst (.int .u8 50))), (9, 1, (.cst (.int .u8 13))), (10, 1, (.cst (.int .u8 10))), (11, 1, (.cst (.int .u8 75))), (12, 1, (.cst (.int .u8 73))), (13, 1, (.cst (.int .u8 88)))])), none⟩,
      ⟨(some 36), (.op (.mark (.tmp 35))), none⟩,
      ⟨(some 37), (.call (.cst (.func (.func 22) [] [])) [(.tmp 34), (.tmp 36)]), none⟩] [])
    (.seq (.region [
      ⟨(some 39), (.op (.mv (.tmp 5))), none⟩,
      ⟨(some 40), (.call (.cst (.func (.func 23) [] [])) [(.tmp 39)]), none⟩,
      ⟨(some 38), (.op (.mv (.tmp 40))), none⟩,
      ⟨(some 41), (.op (.ext 0 (.tmp 38))), none⟩,
      ⟨(some 42), (.op (.ext 1 (.tmp 38))), none⟩,
      ⟨(some 43), (.op (.ext 2 (.tmp 38))), none⟩,
      ⟨(some 6), (.op (.box (.cst (.agg [(.int .i64 0), (.int .i64 0), (.int .i64 0), (.str []), .nilSlice])))), none⟩,
      ⟨none, (.op (.store 5 (.tmp 6) (.tmp 41))), none⟩,
      ⟨(some 7), (.op (.mv (.tmp 42))), none⟩,
      ⟨(some 8), (.op (.mv (.tmp 43))), none⟩] [])
    (.seq (.region [
      ⟨(some 45), (.op (.mv (.tmp 5))), none⟩,
      ⟨(some 46), (.call (.cst (.func (.func 23) [] [])) [(.tmp 45)]), none⟩,
      ⟨(some 44), (.op (.mv (.tmp 46))), none⟩,
      ⟨(some 47), (.op (.ext 0 (.tmp 44))), none⟩,
      ⟨(some 48), (.op (.ext 1 (.tmp 44))), none⟩,
      ⟨(some 49), (.op (.ext 2 (.tmp 44))), none⟩,
      ⟨(some 9), (.op (.box (.cst (.agg [(.int .i64 0), (.int .i64 0), (.int .i64 0), (.str []), .nilSlice])))), none⟩,
      ⟨none, (.op (.store 5 (.tmp 9) (.tmp 47))), none⟩,
      ⟨(some 10), (.op (.mv (.tmp 48))), none⟩,
      ⟨(some 11), (.op (.mv (.tmp 49))), none⟩] [])
    (.seq (.region [
      ⟨(some 50), (.op (.mv (.tmp 1))), none⟩,
      ⟨(some 51), (.op (.b2s (.tmp 50))), none⟩,
      ⟨(some 52), (.op (.bin .eql (some .str) (.tmp 51) (.cst (.str [82, 69, 83, 69, 82, 86, 69, 68, 32, 55, 32, 50, 13, 10, 97, 98, 13, 10])))), none⟩,
      ⟨(some 53), (.op (.mv (.tmp 52))), none⟩,
      ⟨(some 54), (.op (.mv (.tmp 3))), (some (53, true))⟩,
      ⟨(some 55), (.op (.b2s (.tmp 54))), (some (53, true))⟩,
      ⟨(some 56), (.op (.bin .eql (some .str) (.tmp 55) (.cst (.str [75, 73, 67, 75, 69, 68, 13, 10])))), (some (53, true))⟩,
      ⟨(some 57), (.op (.pick (.tmp 53) (.tmp 56) (.cst (.bool false)))), none⟩,
      ⟨(some 58), (.op (.mv (.tmp 57))), none⟩,
      ⟨(some 59), (.op (.mv (.tmp 7))), (some (58, true))⟩,
      ⟨(some 60), (.op (.pick (.tmp 58) (.tmp 59) (.cst (.bool false)))), none⟩,
      ⟨(some 61), (.op (.mv (.tmp 60))), none⟩,
      ⟨(some 62), (.op (.mv (.tmp 8))), (some (61, true))⟩,
      ⟨(some 63), (.op (.bin .eql (some .int) (.tmp 62) (.cst (.int .i64 0)))), (some (61, true))⟩,
      ⟨(some 64), (.op (.pick (.tmp 61) (.tmp 63) (.cst (.bool false)))), none⟩,
      ⟨(some 65), (.op (.mv (.tmp 64))), none⟩,
      ⟨(some 66), (.op (.faddr 0 (.tmp 6))), (some (65, true))⟩,
      ⟨(some 67), (.op (.load none (.tmp 66))), (some (65, true))⟩,
      ⟨(some 68), (.op (.bin .eql (some .int) (.tmp 67) (.cst (.int .i64 13)))), (some (65, true))⟩,
      ⟨(some 69), (.op (.pick (.tmp 65) (.tmp 68) (.cst (.bool false)))), none⟩,
      ⟨(some 70), (.op (.mv (.tmp 69))), none⟩,
      ⟨(some 71), (.op (.faddr 2 (.tmp 6))), (some (70, true))⟩,
      ⟨(some 72), (.op (.load none (.tmp 71))), (some (70, true))⟩,
      ⟨(some 73), (.op (.bin .eql (some .int) (.tmp 72) (.cst (.int .i64 12)))), (some (70, true))⟩,
      ⟨(some 74), (.op (.pick (.tmp 70) (.tmp 73) (.cst (.bool false)))), none⟩,
      ⟨(some 75), (.op (.mv (.tmp 74))), none⟩,
      ⟨(some 76), (.op (.mv (.tmp 10))), (some (75, true))⟩,
      ⟨(some 77), (.op (.un .not (.tmp 76))), (some (75, true))⟩,
      ⟨(some 78), (.op (.pick (.tmp 75) (.tmp 77) (.cst (.bool false)))), none⟩,
      ⟨(some 79), (.op (.mv (.tmp 78))), none⟩,
      ⟨(some 80), (.op (.mv (.tmp 11))), (some (79, true))⟩,
      ⟨(some 81), (.op (.bin .eql (some .int) (.tmp 80) (.cst (.int .i64 82)))), (some (79, true))⟩,
      ⟨(some 82), (.op (.pick (.tmp 79) (.tmp 81) (.cst (.bool false)))), none⟩,
      ⟨(some 83), (.op (.mv (.tmp 82))), none⟩,
      ⟨(some 84), (.op (.mv (.tmp 5))), (some (83, true))⟩,
      ⟨(some 85), (.call (.cst (.func (.func 25) [] [])) [(.tmp 84)]), (some (83, true))⟩,
      ⟨(some 86), (.op (.bin .eql (some .int) (.tmp 85) (.cst (.int .i64 3)))), (some (83, true))⟩,
      ⟨(some 87), (.op (.pick (.tmp 83) (.tmp 86) (.cst (.bool false)))), none⟩,
      ⟨(some 0), (.op (.mv (.tmp 87))), none⟩] [])
    .ret)))))))))⟩
theorem c9 : cFn Tryd.prog [] Tryd.f9 = some h9 := by kernel_rfl
/-- stint/answers.Check -/
def h11 : HFn :=
  ⟨93, [(.tmp 2)],
    (.seq (.region [
      ⟨(some 1), (.op (.box (.tmp 0))), none⟩,
      ⟨(some 2), (.op (.mv (.cst (.int .i64 0)))), none⟩] [])
    (.seq (.seq (.region [
      ⟨(some 7), (.op (.faddr 0 (.tmp 1))), none⟩,
      ⟨(some 8), (.op (.load none (.tmp 7))), none⟩,
      ⟨(some 9), (.call (.cst (.func (.func 35) [] [])) [(.tmp 8)]), none⟩,
      ⟨(some 10), (.op (.bin .eql (some .str) (.tmp 9) (.cst (.str [])))), none⟩] [])
    (.cond (.tmp 10)
      (.seq (.region [
        ⟨(some 2), (.op (.mv (.cst (.int .i64 80)))), none⟩] [])
      .ret)
      .skip))
    (.seq (.draw [
      ⟨(some 11), (.op (.faddr 1 (.tmp 1))), none⟩,
      ⟨(some 12), (.op (.load none (.tmp 11))), none⟩,
      ⟨(some 13), (.op (.bin .eql (some .int) (.tmp 12) (.cst (.int .i64 0)))), none⟩,
      ⟨(some 14), (.op (.faddr 2 (.tmp 1))), none⟩,
      ⟨(some 15), (.op (.load none (.tmp 14))), none⟩,
      ⟨(some 16), (.op (.bin .eql (some .int) (.tmp 15) (.cst (.int .i64 0)))), none⟩,
      ⟨(some 17), (.op (.faddr 3 (.tmp 1))), none⟩,
      ⟨(some 18), (.op (.load none (.tmp 17))), none⟩,
      ⟨(some 19), (.op (.bin .eql (some .str) (.tmp 18) (.cst (.str [])))), none⟩,
      ⟨(some 20), (.op (.faddr 4 (.tmp 1))), none⟩,
      ⟨(some 21), (.op (.load none (.tmp 20))), none⟩,
      ⟨(some 22), (.op (.len .slice (.tmp 21))), none⟩,
      ⟨(some 23), (.op (.bin .eql (some .int) (.tmp 22) (.cst (.int .i64 0)))), none⟩,
      ⟨(some 3), (.op (.mv (.tmp 13))), none⟩,
      ⟨(some 4), (.op (.mv (.tmp 16))), none⟩,
      ⟨(some 5), (.op (.mv (.tmp 19))), none⟩,
      ⟨(some 6), (.op (.mv (.tmp 23))), none⟩] [0, 1, 2, 3, 4, 5, 6, 7, 8, 9, 10, 11, 12, 13, 14, 15, 16] [[], [], [], [], [], [], [], [], [], [], [], [], [], [], [], [], []] [])
    (.seq (.seq (.region [
      ⟨(some 24), (.op (.faddr 0 (.tmp 1))), none⟩,
      ⟨(some 25), (.op (.load none (.tmp 24))), none⟩] [])
    (.block 0
      (.seq (.seq (.region [
        ⟨(some 27), (.op (.bin .eql (some .int) (.tmp 25) (.cst (.int .i64 3)))), none⟩,
        ⟨(some 26), (.op (.mv (.tmp 27))), none⟩] [])
      (.cond (.tmp 26)
        .skip
        (.region [
          ⟨(some 28), (.op (.bin .eql (some .int) (.tmp 25) (.cst (.int .i64 12)))), none⟩,
          ⟨(some 26), (.op (.mv (.tmp 28))), none⟩] [])))
      (.cond (.tmp 26)
        (.draw [
          ⟨(some 29), (.op (.faddr 1 (.tmp 1))), none⟩,
          ⟨(some 30), (.op (.load none (.tmp 29))), none⟩,
          ⟨(some 31), (.op (.bin .geq none (.tmp 30) (.cst (.int .i64 1)))), none⟩,
          ⟨(some 32), (.op (.mv (.tmp 31))), none⟩,
          ⟨(some 33), (.op (.faddr 1 (.tmp 1))), (some (32, true))⟩,
          ⟨(some 34), (.op (.load none (.tmp 33))), (some (32, true))⟩,
          ⟨(some 35), (.op (.bin .leq none (.tmp 34) (.cst (.int .i64 1099511627776)))), (some (32, true))⟩,
          ⟨(some 36), (.op (.pick (.tmp 32) (.tmp 35) (.cst (.bool false)))), none⟩,
          ⟨(some 37), (.op (.faddr 4 (.tmp 1))), none⟩,
          ⟨(some 38), (.op (.load none (.tmp 37))), none⟩,
          ⟨(some 39), (.op (.len .slice (.tmp 38))), none⟩,
          ⟨(some 40), (.op (.faddr 0 (.tmp 1))), none⟩,
          ⟨(some 41), (.op (.load none (.tmp 40))), none⟩,
          ⟨(some 42), (.call (.cst (.func (.func 36) [] [])) [(.tmp 41)]), none⟩,
          ⟨(some 43), (.op (.bin .leq none (.tmp 39) (.tmp 42))), none⟩,
          ⟨(some 3), (.op (.mv (.tmp 36))), none⟩,
          ⟨(some 6), (.op (.mv (.tmp 43))), none⟩] [0, 1, 2, 3, 4, 5, 6, 7, 8, 9, 10, 11, 12, 13, 14, 15, 16] [[], [], [], [], [], [], [], [], [], [], [], [], [], [12, 1], [], [], []] [])
        (.seq (.region [
          ⟨(some 45), (.op (.bin .eql (some .int) (.tmp 25) (.cst (.int .i64 16)))), none⟩,
          ⟨(some 44), (.op (.mv (.tmp 45))), none⟩] [])
        (.cond (.tmp 44)
          (.draw [
            ⟨(some 46), (.op (.faddr 4 (.tmp 1))), none⟩,
            ⟨(some 47), (.op (.load none (.tmp 46))), none⟩,
            ⟨(some 48), (.op (.len .slice (.tmp 47))), none⟩,
            ⟨(some 49), (.op (.faddr 0 (.tmp 1))), none⟩,
            ⟨(some 50), (.op (.load none (.tmp 49))), none⟩,
            ⟨(some 51), (.call (.cst (.func (.func 36) [] [])) [(.tmp 50)]), none⟩,
            ⟨(some 52), (.op (.bin .leq none (.tmp 48) (.tmp 51))), none⟩,
            ⟨(some 6), (.op (.mv (.tmp 52))), none⟩] [0, 1, 2, 3, 4, 5, 6, 7] [[], [], [], [], [], [4], [], []] [])
          (.seq (.region [
            ⟨(some 54), (.op (.bin .eql (some .int) (.tmp 25) (.cst (.int .i64 1)))), none⟩,
            ⟨(some 53), (.op (.mv (.tmp 54))), none⟩] [])
          (.cond (.tmp 53)
            (.region [
              ⟨(some 55), (.op (.faddr 1 (.tmp 1))), none⟩,
              ⟨(some 56), (.op (.load none (.tmp 55))), none⟩,
              ⟨(some 57), (.op (.bin .geq none (.tmp 56) (.cst (.int .i64 1)))), none⟩,
              ⟨(some 58), (.op (.mv (.tmp 57))), none⟩,
              ⟨(some 59), (.op (.faddr 1 (.tmp 1))), (some (58, true))⟩,
              ⟨(some 60), (.op (.load none (.tmp 59))), (some (58, true))⟩,
              ⟨(some 61), (.op (.bin .leq none (.tmp 60) (.cst (.int .i64 1099511627776)))), (some (58, true))⟩,
              ⟨(some 62), (.op (.pick (.tmp 58) (.tmp 61) (.cst (.bool false)))), none⟩,
              ⟨(some 3), (.op (.mv (.tmp 62))), none⟩] [])
            (.seq (.region [
              ⟨(some 64), (.op (.bin .eql (some .int) (.tmp 25) (.cst (.int .i64 2)))), none⟩,
              ⟨(some 63), (.op (.mv (.tmp 64))), none⟩] [])
            (.cond (.tmp 63)
              (.region [
                ⟨(some 65), (.op (.faddr 3 (.tmp 1))), none⟩,
                ⟨(some 66), (.op (.load none (.tmp 65))), none⟩,
                ⟨(some 67), (.call (.cst (.func (.func 37) [] [])) [(.tmp 66)]), none⟩,
                ⟨(some 5), (.op (.mv (.tmp 67))), none⟩] [])
              (.seq (.seq (.region [
                ⟨(some 69), (.op (.bin .eql (some .int) (.tmp 25) (.cst (.int .i64 10)))), none⟩,
                ⟨(some 68), (.op (.mv (.tmp 69))), none⟩] [])
              (.cond (.tmp 68)
                .skip
                (.region [
                  ⟨(some 70), (.op (.bin .eql (some .int) (.tmp 25) (.cst (.int .i64 13)))), none⟩,
                  ⟨(some 68), (.op (.mv (.tmp 70))), none⟩] [])))
              (.cond (.tmp 68)
                (.region [
                  ⟨(some 71), (.op (.faddr 2 (.tmp 1))), none⟩,
                  ⟨(some 72), (.op (.load none (.tmp 71))), none⟩,
                  ⟨(some 73), (.op (.bin .geq none (.tmp 72) (.cst (.int .i64 0)))), none⟩,
                  ⟨(some 74), (.op (.mv (.tmp 73))), none⟩,
                  ⟨(some 75), (.op (.faddr 2 (.tmp 1))), (some (74, true))⟩,
                  ⟨(some 76), (.op (.load none (.tmp 75))), (some (74, true))⟩,
                  ⟨(some 77), (.op (.bin .leq none (.tmp 76) (.cst (.int .i64 4294967295)))), (some (74, true))⟩,
                  ⟨(some 78), (.op (.pick (.tmp 74) (.tmp 77) (.cst (.bool false)))), none⟩,
                  ⟨(some 4), (.op (.mv (.tmp 78))), none⟩] [])
                .skip))))))))))))
    (.seq (.seq (.region [
      ⟨(some 79), (.op (.mv (.tmp 3))), none⟩,
      ⟨(some 80), (.op (.un .not (.tmp 79))), none⟩,
      ⟨(some 81), (.op (.mv (.tmp 80))), none⟩,
      ⟨(some 82), (.op (.mv (.tmp 4))), (some (81, false))⟩,
      ⟨(some 83), (.op (.un .not (.tmp 82))), (some (81, false))⟩,
      ⟨(some 84), (.op (.pick (.tmp 81) (.cst (.bool true)) (.tmp 83))), none⟩,
      ⟨(some 85), (.op (.mv (.tmp 84))), none⟩,
      ⟨(some 86), (.op (.mv (.tmp 5))), (some (85, false))⟩,
      ⟨(some 87), (.op (.un .not (.tmp 86))), (some (85, false))⟩,
      ⟨(some 88), (.op (.pick (.tmp 85) (.cst (.bool true)) (.tmp 87))), none⟩,
      ⟨(some 89), (.op (.mv (.tmp 88))), none⟩,
      ⟨(some 90), (.op (.mv (.tmp 6))), (some (89, false))⟩,
      ⟨(some 91), (.op (.un .not (.tmp 90))), (some (89, false))⟩,
      ⟨(some 92), (.op (.pick (.tmp 89) (.cst (.bool true)) (.tmp 91))), none⟩] [])
    (.cond (.tmp 92)
      (.seq (.region [
        ⟨(some 2), (.op (.mv (.cst (.int .i64 81)))), none⟩] [])
      .ret)
      .skip))
    (.seq (.region [
      ⟨(some 2), (.op (.mv (.cst (.int .i64 0)))), none⟩] [])
    .ret))))))⟩
theorem c11 : cFn Tryd.prog [] Tryd.f11 = some h11 := by kernel_rfl
/-- stint/answers.Put -/
def h12 : HFn :=
  ⟨66, [(.tmp 2), (.tmp 3)],
    (.seq (.region [
      ⟨(some 1), (.op (.box (.tmp 0))), none⟩,
      ⟨(some 2), (.op (.mv (.cst .nilSlice))), none⟩,
      ⟨(some 3), (.op (.mv (.cst (.int .i64 0)))), none⟩] [])
    (.seq (.seq (.region [
      ⟨(some 6), (.op (.load (some 5) (.tmp 1))), none⟩,
      ⟨(some 7), (.call (.cst (.func (.func 11) [] [])) [(.tmp 6)]), none⟩,
      ⟨(some 4), (.op (.mv (.tmp 7))), none⟩] [])
    (.seq (.region [
      ⟨(some 8), (.op (.mv (.tmp 4))), none⟩,
      ⟨(some 9), (.op (.bin .neq (some .int) (.tmp 8) (.cst (.int .i64 0)))), none⟩] [])
    (.cond (.tmp 9)
      (.seq (.region [
        ⟨(some 10), (.op (.mv (.tmp 4))), none⟩,
        ⟨(some 2), (.op (.mv (.cst .nilSlice))), none⟩,
        ⟨(some 3), (.op (.mv (.tmp 10))), none⟩] [])
      .ret)
      .skip)))
    (.seq (.region [
      ⟨(some 11), (.op (.faddr 0 (.tmp 1))), none⟩,
      ⟨(some 12), (.op (.load none (.tmp 11))), none⟩,
      ⟨(some 13), (.call (.cst (.func (.func 35) [] [])) [(.tmp 12)]), none⟩,
      ⟨(some 14), (.op (.s2b (.tmp 13))), none⟩,
      ⟨(some 5), (.op (.mv (.tmp 14))), none⟩] [])
    (.seq (.seq (.region [
      ⟨(some 15), (.op (.faddr 0 (.tmp 1))), none⟩,
      ⟨(some 16), (.op (.load none (.tmp 15))), none⟩] [])
    (.block 0
      (.seq (.block 5
        (.seq (.block 4
          (.seq (.block 3
            (.seq (.block 2
              (.seq (.block 1
                (.seq (.seq (.seq (.seq (.region [
                  ⟨(some 18), (.op (.bin .eql (some .int) (.tmp 16) (.cst (.int .i64 3)))), none⟩,
                  ⟨(some 17), (.op (.mv (.tmp 18))), none⟩] [])
                (.cond (.tmp 17)
                  .skip
                  (.region [
                    ⟨(some 19), (.op (.bin .eql (some .int) (.tmp 16) (.cst (.int .i64 12)))), none⟩,
                    ⟨(some 17), (.op (.mv (.tmp 19))), none⟩] [])))
                (.cond (.tmp 17)
                  (.exit 1)
                  .skip))
                (.seq (.seq (.region [
                  ⟨(some 21), (.op (.bin .eql (some .int) (.tmp 16) (.cst (.int .i64 16)))), none⟩,
                  ⟨(some 20), (.op (.mv (.tmp 21))), none⟩] [])
                (.cond (.tmp 20)
                  (.exit 2)
                  .skip))
                (.seq (.seq (.region [
                  ⟨(some 23), (.op (.bin .eql (some .int) (.tmp 16) (.cst (.int .i64 1)))), none⟩,
                  ⟨(some 22), (.op (.mv (.tmp 23))), none⟩] [])
                (.cond (.tmp 22)
                  (.exit 3)
                  .skip))
                (.seq (.seq (.region [
                  ⟨(some 25), (.op (.bin .eql (some .int) (.tmp 16) (.cst (.int .i64 2)))), none⟩,
                  ⟨(some 24), (.op (.mv (.tmp 25))), none⟩] [])
                (.cond (.tmp 24)
                  (.exit 4)
                  .skip))
                (.seq (.seq (.region [
                  ⟨(some 27), (.op (.bin .eql (some .int) (.tmp 16) (.cst (.int .i64 10)))), none⟩,
                  ⟨(some 26), (.op (.mv (.tmp 27))), none⟩] [])
                (.cond (.tmp 26)
                  .skip
                  (.region [
                    ⟨(some 28), (.op (.bin .eql (some .int) (.tmp 16) (.cst (.int .i64 13)))), none⟩,
                    ⟨(some 26), (.op (.mv (.tmp 28))), none⟩] [])))
                (.cond (.tmp 26)
                  (.exit 5)
                  .skip))))))
                (.exit 0)))
              (.region [
                ⟨(some 29), (.op (.mv (.tmp 5))), none⟩,
                ⟨(some 30), (.op (.faddr 1 (.tmp 1))), none⟩,
                ⟨(some 31), (.op (.load none (.tmp 30))), none⟩,
                ⟨(some 32), (.call (.cst (.func (.func 38) [] [])) [(.tmp 31)]), none⟩,
                ⟨(some 33), (.op (.bin .add none (.cst (.str [32])) (.tmp 32))), none⟩,
                ⟨(some 34), (.op (.append 1 1 (.tmp 29) (.tmp 33))), none⟩,
                ⟨(some 5), (.op (.mv (.tmp 34))), none⟩] [])))
            (.seq (.seq (.region [
              ⟨(some 35), (.op (.mv (.tmp 5))), none⟩,
              ⟨(some 36), (.op (.faddr 4 (.tmp 1))), none⟩,
              ⟨(some 37), (.op (.load none (.tmp 36))), none⟩,
              ⟨(some 38), (.op (.len .slice (.tmp 37))), none⟩,
              ⟨(some 39), (.call (.cst (.func (.func 38) [] [])) [(.tmp 38)]), none⟩,
              ⟨(some 40), (.op (.bin .add none (.cst (.str [32])) (.tmp 39))), none⟩,
              ⟨(some 41), (.op (.bin .add none (.tmp 40) (.cst (.str [13, 10])))), none⟩,
              ⟨(some 42), (.op (.append 1 1 (.tmp 35) (.tmp 41))), none⟩,
              ⟨(some 5), (.op (.mv (.tmp 42))), none⟩] [])
            (.region [
              ⟨(some 43), (.op (.mv (.tmp 5))), none⟩,
              ⟨(some 44), (.op (.faddr 4 (.tmp 1))), none⟩,
              ⟨(some 45), (.op (.load none (.tmp 44))), none⟩,
              ⟨(some 46), (.op (.append 1 1 (.tmp 43) (.tmp 45))), none⟩,
              ⟨(some 5), (.op (.mv (.tmp 46))), none⟩] []))
            (.exit 0))))
          (.seq (.region [
            ⟨(some 47), (.op (.mv (.tmp 5))), none⟩,
            ⟨(some 48), (.op (.faddr 1 (.tmp 1))), none⟩,
            ⟨(some 49), (.op (.load none (.tmp 48))), none⟩,
            ⟨(some 50), (.call (.cst (.func (.func 38) [] [])) [(.tmp 49)]), none⟩,
            ⟨(some 51), (.op (.bin .add none (.cst (.str [32])) (.tmp 50))), none⟩,
            ⟨(some 52), (.op (.append 1 1 (.tmp 47) (.tmp 51))), none⟩,
            ⟨(some 5), (.op (.mv (.tmp 52))), none⟩] [])
          (.exit 0))))
        (.seq (.region [
          ⟨(some 53), (.op (.mv (.tmp 5))), none⟩,
          ⟨(some 54), (.op (.faddr 3 (.tmp 1))), none⟩,
          ⟨(some 55), (.op (.load none (.tmp 54))), none⟩,
          ⟨(some 56), (.op (.bin .add none (.cst (.str [32])) (.tmp 55))), none⟩,
          ⟨(some 57), (.op (.append 1 1 (.tmp 53) (.tmp 56))), none⟩,
          ⟨(some 5), (.op (.mv (.tmp 57))), none⟩] [])
        (.exit 0))))
      (.seq (.region [
        ⟨(some 58), (.op (.mv (.tmp 5))), none⟩,
        ⟨(some 59), (.op (.faddr 2 (.tmp 1))), none⟩,
        ⟨(some 60), (.op (.load none (.tmp 59))), none⟩,
        ⟨(some 61), (.call (.cst (.func (.func 38) [] [])) [(.tmp 60)]), none⟩,
        ⟨(some 62), (.op (.bin .add none (.cst (.str [32])) (.tmp 61))), none⟩,
        ⟨(some 63), (.op (.append 1 1 (.tmp 58) (.tmp 62))), none⟩,
        ⟨(some 5), (.op (.mv (.tmp 63))), none⟩] [])
      (.exit 0)))))
    (.seq (.region [
      ⟨(some 64), (.op (.mv (.tmp 5))), none⟩,
      ⟨(some 65), (.op (.append 1 1 (.tmp 64) (.cst (.str [13, 10])))), none⟩,
      ⟨(some 2), (.op (.mv (.tmp 65))), none⟩,
      ⟨(some 3), (.op (.mv (.cst (.int .i64 0)))), none⟩] [])
    .ret)))))⟩
theorem c12 : cFn Tryd.prog [] Tryd.f12 = some h12 := by kernel_rfl
/-- stint/answers.New -/
def h21 : HFn :=
  ⟨3, [(.tmp 0)],
    (.seq (.region [
      ⟨(some 0), (.op (.mv (.cst .nilPtr))), none⟩] [])
    (.seq (.region [
      ⟨(some 1), (.op (.build [.nilSlice, .nilSlice, (.bool false)] [])), none⟩,
      ⟨(some 2), (.op (.box (.tmp 1))), none⟩,
      ⟨(some 0), (.op (.mv (.tmp 2))), none⟩] [])
    .ret))⟩
theorem c21 : cFn Tryd.prog [] Tryd.f21 = some h21 := by kernel_rfl
/-- (*stint/answers.Reader).Feed -/
def h22 : HFn :=
  ⟨85, [],
    (.seq (.seq (.region [
      ⟨(some 8), (.op (.mv (.tmp 0))), none⟩,
      ⟨(some 9), (.op (.nilc (.tmp 8))), none⟩,
      ⟨(some 10), (.op (.faddr 2 (.tmp 9))), none⟩,
      ⟨(some 11), (.op (.load none (.tmp 10))), none⟩] [])
    (.cond (.tmp 11)
      .ret
      .skip))
    (.seq (.region [
      ⟨(some 12), (.op (.mv (.tmp 0))), none⟩,
      ⟨(some 13), (.op (.mv (.tmp 0))), none⟩,
      ⟨(some 14), (.op (.nilc (.tmp 13))), none⟩,
      ⟨(some 15), (.op (.faddr 1 (.tmp 14))), none⟩,
      ⟨(some 16), (.op (.load none (.tmp 15))), none⟩,
      ⟨(some 17), (.op (.mv (.tmp 1))), none⟩,
      ⟨(some 18), (.op (.append 1 1 (.tmp 16) (.tmp 17))), none⟩,
      ⟨(some 19), (.op (.nilc (.tmp 12))), none⟩,
      ⟨(some 20), (.op (.faddr 1 (.tmp 19))), none⟩,
      ⟨none, (.op (.store 1 (.tmp 20) (.tmp 18))), none⟩] [])
    (.seq (.region [
      ⟨(some 4), (.op (.mv (.cst (.int .i64 0)))), none⟩] [])
    (.seq (.block 0
      (.loop
        (.block 1
          (.seq (.region [
            ⟨(some 22), (.op (.mv (.tmp 0))), none⟩,
            ⟨(some 23), (.op (.nilc (.tmp 22))), none⟩,
            ⟨(some 24), (.op (.faddr 1 (.tmp 23))), none⟩,
            ⟨(some 25), (.op (.load none (.tmp 24))), none⟩,
            ⟨(some 26), (.op (.mv (.tmp 4))), none⟩,
            ⟨(some 27), (.op (.sliceSl 1 (.tmp 25) (some (.tmp 26)) none none)), none⟩,
            ⟨(some 28), (.call (.cst (.func (.func 46) [] [])) [(.tmp 27)]), none⟩,
            ⟨(some 21), (.op (.mv (.tmp 28))), none⟩,
            ⟨(some 29), (.op (.ext 0 (.tmp 21))), none⟩,
            ⟨(some 30), (.op (.ext 1 (.tmp 21))), none⟩,
            ⟨(some 31), (.op (.ext 2 (.tmp 21))), none⟩,
            ⟨(some 5), (.op (.box (.cst (.agg [(.int .i64 0), (.int .i64 0), (.int .i64 0), (.str []), .nilSlice])))), none⟩,
            ⟨none, (.op (.store 5 (.tmp 5) (.tmp 29))), none⟩,
            ⟨(some 6), (.op (.mv (.tmp 30))), none⟩,
            ⟨(some 7), (.op (.mv (.tmp 31))), none⟩] [])
          (.seq (.seq (.region [
            ⟨(some 32), (.op (.mv (.tmp 7))), none⟩,
            ⟨(some 33), (.op (.un .not (.tmp 32))), none⟩] [])
          (.cond (.tmp 33)
            (.seq (.seq (.region [
              ⟨(some 34), (.op (.mv (.tmp 4))), none⟩,
              ⟨(some 35), (.op (.mv (.tmp 6))), none⟩,
              ⟨(some 36), (.op (.bin .add none (.tmp 34) (.tmp 35))), none⟩,
              ⟨(some 37), (.op (.mv (.tmp 0))), none⟩,
              ⟨(some 38), (.op (.nilc (.tmp 37))), none⟩,
              ⟨(some 39), (.op (.faddr 1 (.tmp 38))), none⟩,
              ⟨(some 40), (.op (.load none (.tmp 39))), none⟩,
              ⟨(some 41), (.op (.len .slice (.tmp 40))), none⟩,
              ⟨(some 42), (.op (.bin .lss none (.tmp 36) (.tmp 41))), none⟩] [])
            (.cond (.tmp 42)
              (.region [
                ⟨(some 43), (.op (.mv (.tmp 0))), none⟩,
                ⟨(some 44), (.op (.mv (.tmp 0))), none⟩,
                ⟨(some 45), (.op (.mv (.tmp 0))), none⟩,
                ⟨(some 46), (.op (.nilc (.tmp 45))), none⟩,
                ⟨(some 47), (.op (.faddr 1 (.tmp 46))), none⟩,
                ⟨(some 48), (.op (.load none (.tmp 47))), none⟩,
                ⟨(some 49), (.op (.mv (.tmp 4))), none⟩,
                ⟨(some 50), (.op (.mv (.tmp 6))), none⟩,
                ⟨(some 51), (.op (.bin .add none (.tmp 49) (.tmp 50))), none⟩,
                ⟨(some 52), (.op (.bin .add none (.tmp 51) (.cst (.int .i64 1)))), none⟩,
                ⟨(some 53), (.op (.sliceSl 1 (.tmp 48) none (some (.tmp 52)) none)), none⟩,
                ⟨(some 54), (.op (.nilc (.tmp 43))), none⟩,
                ⟨(some 55), (.op (.faddr 1 (.tmp 54))), none⟩,
                ⟨none, (.op (.store 1 (.tmp 55) (.tmp 53))), none⟩,
                ⟨(some 56), (.op (.nilc (.tmp 44))), none⟩,
                ⟨(some 57), (.op (.faddr 2 (.tmp 56))), none⟩,
                ⟨none, (.op (.store 1 (.tmp 57) (.cst (.bool true)))), none⟩] [])
              .skip))
            (.exit 0))
            .skip))
          (.seq (.draw [
            ⟨(some 58), (.op (.mv (.tmp 0))), none⟩,
            ⟨(some 59), (.op (.mv (.tmp 0))), none⟩,
            ⟨(some 60), (.op (.nilc (.tmp 59))), none⟩,
            ⟨(some 61), (.op (.faddr 0 (.tmp 60))), none⟩,
            ⟨(some 62), (.op (.load none (.tmp 61))), none⟩,
            ⟨(some 63), (.op (.load (some 5) (.tmp 5))), none⟩,
            ⟨(some 64), (.op (.mv (.tmp 6))), none⟩,
            ⟨(some 65), (.op (.build [(.int .i64 0), (.int .i64 0), (.int .i64 0), (.str []), .nilSlice, (.int .i64 0)] [(0, 5, (.tmp 63)), (5, 1, (.tmp 64))])), none⟩,
            ⟨(some 66), (.op (.bslice 6 1 [(.int .i64 0), (.int .i64 0), (.int .i64 0), (.str []), .nilSlice, (.int .i64 0)] [(0, 6, (.tmp 65))])), none⟩,
            ⟨(some 67), (.op (.append 6 72 (.tmp 62) (.tmp 66))), none⟩,
            ⟨(some 68), (.op (.nilc (.tmp 58))), none⟩,
            ⟨(some 69), (.op (.faddr 0 (.tmp 68))), none⟩,
            ⟨none, (.op (.store 1 (.tmp 69) (.tmp 67))), none⟩] [0, 1, 2, 3, 4, 5, 6, 7, 8, 9, 10, 11, 12] [[], [], [], [], [], [], [], [], [5], [4, 5], [], [], [4, 5]] [])
          (.region [
            ⟨(some 70), (.op (.mv (.tmp 4))), none⟩,
            ⟨(some 71), (.op (.mv (.tmp 6))), none⟩,
            ⟨(some 72), (.op (.bin .add none (.tmp 70) (.tmp 71))), none⟩,
            ⟨(some 4), (.op (.mv (.tmp 72))), none⟩] [])))))))
    (.seq (.region [
      ⟨(some 73), (.op (.mv (.tmp 4))), none⟩,
      ⟨(some 74), (.op (.bin .gtr none (.tmp 73) (.cst (.int .i64 0)))), none⟩] [])
    (.cond (.tmp 74)
      (.region [
        ⟨(some 75), (.op (.mv (.tmp 0))), none⟩,
        ⟨(some 76), (.op (.mv (.tmp 0))), none⟩,
        ⟨(some 77), (.op (.nilc (.tmp 76))), none⟩,
        ⟨(some 78), (.op (.faddr 1 (.tmp 77))), none⟩,
        ⟨(some 79), (.op (.load none (.tmp 78))), none⟩,
        ⟨(some 80), (.op (.mv (.tmp 4))), none⟩,
        ⟨(some 81), (.op (.sliceSl 1 (.tmp 79) (some (.tmp 80)) none none)), none⟩,
        ⟨(some 82), (.call (.cst (.func (.func 47) [] [])) [(.tmp 81)]), none⟩,
        ⟨(some 83), (.op (.nilc (.tmp 75))), none⟩,
        ⟨(some 84), (.op (.faddr 1 (.tmp 83))), none⟩,
        ⟨none, (.op (.store 1 (.tmp 84) (.tmp 82))), none⟩] [])
      .skip))))))⟩
theorem c22 : cFn Tryd.prog [] Tryd.f22 = some h22 := by kernel_rfl
/-- (*stint/answers.Reader).Next -/
def h23 : HFn :=
  ⟨40, [(.cell 2 (some 5)), (.tmp 3), (.tmp 4)],
    (.seq (.region [
      ⟨(some 2), (.op (.box (.cst (.agg [(.int .i64 0), (.int .i64 0), (.int .i64 0), (.str []), .nilSlice])))), none⟩,
      ⟨(some 3), (.op (.mv (.cst (.bool false)))), none⟩,
      ⟨(some 4), (.op (.mv (.cst (.int .i64 0)))), none⟩] [])
    (.seq (.block 0
      (.seq (.region [
        ⟨(some 7), (.op (.mv (.tmp 0))), none⟩,
        ⟨(some 8), (.op (.nilc (.tmp 7))), none⟩,
        ⟨(some 9), (.op (.faddr 0 (.tmp 8))), none⟩,
        ⟨(some 10), (.op (.load none (.tmp 9))), none⟩,
        ⟨(some 11), (.op (.len .slice (.tmp 10))), none⟩,
        ⟨(some 12), (.op (.bin .gtr none (.tmp 11) (.cst (.int .i64 0)))), none⟩,
        ⟨(some 6), (.op (.mv (.tmp 12))), none⟩] [])
      (.cond (.tmp 6)
        (.seq (.region [
          ⟨(some 13), (.op (.mv (.tmp 0))), none⟩,
          ⟨(some 14), (.op (.nilc (.tmp 13))), none⟩,
          ⟨(some 15), (.op (.faddr 0 (.tmp 14))), none⟩,
          ⟨(some 16), (.op (.load none (.tmp 15))), none⟩,
          ⟨(some 17), (.op (.idxS 6 (.tmp 16) (.cst (.int .i64 0)))), none⟩,
          ⟨(some 18), (.op (.faddr 0 (.tmp 17))), none⟩,
          ⟨(some 19), (.op (.load (some 5) (.tmp 18))), none⟩,
          ⟨(some 5), (.op (.box (.cst (.agg [(.int .i64 0), (.int .i64 0), (.int .i64 0), (.str []), .nilSlice])))), none⟩,
          ⟨none, (.op (.store 5 (.tmp 5) (.tmp 19))), none⟩] [])
        (.seq (.region [
          ⟨(some 20), (.op (.mv (.tmp 0))), none⟩,
          ⟨(some 21), (.op (.mv (.tmp 0))), none⟩,
          ⟨(some 22), (.op (.nilc (.tmp 21))), none⟩,
          ⟨(some 23), (.op (.faddr 0 (.tmp 22))), none⟩,
          ⟨(some 24), (.op (.load none (.tmp 23))), none⟩,
          ⟨(some 25), (.op (.sliceSl 6 (.tmp 24) (some (.cst (.int .i64 1))) none none)), none⟩,
          ⟨(some 26), (.op (.nilc (.tmp 20))), none⟩,
          ⟨(some 27), (.op (.faddr 0 (.tmp 26))), none⟩,
          ⟨none, (.op (.store 1 (.tmp 27) (.tmp 25))), none⟩] [])
        (.seq (.region [
          ⟨(some 28), (.op (.faddr 4 (.tmp 5))), none⟩,
          ⟨(some 29), (.op (.load none (.tmp 28))), none⟩,
          ⟨(some 30), (.call (.cst (.func (.func 47) [] [])) [(.tmp 29)]), none⟩,
          ⟨(some 31), (.op (.faddr 4 (.tmp 5))), none⟩,
          ⟨none, (.op (.store 1 (.tmp 31) (.tmp 30))), none⟩] [])
        (.seq (.region [
          ⟨(some 32), (.op (.load (some 5) (.tmp 5))), none⟩,
          ⟨none, (.op (.store 5 (.tmp 2) (.tmp 32))), none⟩,
          ⟨(some 3), (.op (.mv (.cst (.bool true)))), none⟩,
          ⟨(some 4), (.op (.mv (.cst (.int .i64 0)))), none⟩] [])
        .ret))))
        (.seq (.region [
          ⟨(some 34), (.op (.mv (.tmp 0))), none⟩,
          ⟨(some 35), (.op (.nilc (.tmp 34))), none⟩,
          ⟨(some 36), (.op (.faddr 2 (.tmp 35))), none⟩,
          ⟨(some 37), (.op (.load none (.tmp 36))), none⟩,
          ⟨(some 33), (.op (.mv (.tmp 37))), none⟩] [])
        (.cond (.tmp 33)
          (.seq (.region [
            ⟨(some 38), (.op (.build [(.int .i64 0), (.int .i64 0), (.int .i64 0), (.str []), .nilSlice] [])), none⟩,
            ⟨none, (.op (.store 5 (.tmp 2) (.tmp 38))), none⟩,
            ⟨(some 3), (.op (.mv (.cst (.bool false)))), none⟩,
            ⟨(some 4), (.op (.mv (.cst (.int .i64 82)))), none⟩] [])
          .ret)
          .skip)))))
    (.seq (.region [
      ⟨(some 39), (.op (.build [(.int .i64 0), (.int .i64 0), (.int .i64 0), (.str []), .nilSlice] [])), none⟩,
      ⟨none, (.op (.store 5 (.tmp 2) (.tmp 39))), none⟩,
      ⟨(some 3), (.op (.mv (.cst (.bool false)))), none⟩,
      ⟨(some 4), (.op (.mv (.cst (.int .i64 0)))), none⟩] [])
    .ret)))⟩
theorem c23 : cFn Tryd.prog [] Tryd.f23 = some h23 := by kernel_rfl
/-- (*stint/answers.Reader).Held -/
def h25 : HFn :=
  ⟨26, [(.tmp 2)],
    (.seq (.region [
      ⟨(some 2), (.op (.mv (.cst (.int .i64 0)))), none⟩] [])
    (.seq (.region [
      ⟨(some 6), (.op (.mv (.tmp 0))), none⟩,
      ⟨(some 7), (.op (.nilc (.tmp 6))), none⟩,
      ⟨(some 8), (.op (.faddr 1 (.tmp 7))), none⟩,
      ⟨(some 9), (.op (.load none (.tmp 8))), none⟩,
      ⟨(some 10), (.op (.len .slice (.tmp 9))), none⟩,
      ⟨(some 3), (.op (.mv (.tmp 10))), none⟩] [])
    (.seq (.seq (.region [
      ⟨(some 11), (.op (.mv (.tmp 0))), none⟩,
      ⟨(some 12), (.op (.nilc (.tmp 11))), none⟩,
      ⟨(some 13), (.op (.faddr 0 (.tmp 12))), none⟩,
      ⟨(some 14), (.op (.load none (.tmp 13))), none⟩,
      ⟨(some 15), (.op (.len .slice (.tmp 14))), none⟩,
      ⟨(some 16), (.op (.mv (.cst (.int .i64 0)))), none⟩] [])
    (.block 0
      (.loop
        (.seq (.region [
          ⟨(some 17), (.op (.bin .lss none (.tmp 16) (.tmp 15))), none⟩] [])
        (.seq (.cond (.tmp 17)
          .skip
          (.exit 0))
        (.seq (.block 1
          (.seq (.region [
            ⟨(some 18), (.op (.idxS 6 (.tmp 14) (.tmp 16))), none⟩,
            ⟨(some 19), (.op (.load (some 6) (.tmp 18))), none⟩,
            ⟨(some 5), (.op (.box (.cst (.agg [(.int .i64 0), (.int .i64 0), (.int .i64 0), (.str []), .nilSlice, (.int .i64 0)])))), none⟩,
            ⟨none, (.op (.store 6 (.tmp 5) (.tmp 19))), none⟩] [])
          (.region [
            ⟨(some 20), (.op (.mv (.tmp 3))), none⟩,
            ⟨(some 21), (.op (.faddr 5 (.tmp 5))), none⟩,
            ⟨(some 22), (.op (.load none (.tmp 21))), none⟩,
            ⟨(some 23), (.op (.bin .add none (.tmp 20) (.tmp 22))), none⟩,
            ⟨(some 3), (.op (.mv (.tmp 23))), none⟩] [])))
        (.region [
          ⟨(some 24), (.op (.bin .add none (.tmp 16) (.cst (.int .i64 1)))), none⟩,
          ⟨(some 16), (.op (.mv (.tmp 24))), none⟩] [])))))))
    (.seq (.region [
      ⟨(some 25), (.op (.mv (.tmp 3))), none⟩,
      ⟨(some 2), (.op (.mv (.tmp 25))), none⟩] [])
    .ret))))⟩
theorem c25 : cFn Tryd.prog [] Tryd.f25 = some h25 := by kernel_rfl
/-- stint/answers.word -/
def h35 : HFn :=
  ⟨14, [(.tmp 2)],
    (.seq (.region [
      ⟨(some 2), (.op (.mv (.cst (.str [])))), none⟩] [])
    (.seq (.region [
      ⟨(some 4), (.op (.build [(.str []), (.str []), (.str []), (.str []), (.str []), (.str []), (.str []), (.str []), (.str []), (.str []), (.str []), (.str []), (.str []), (.str []), (.str []), (.str []), (.str []), (.str []), (.str []), (.str []), (.str []), (.str []), (.str []), (.str [])] [(1, 1, (.cst (.str [73, 78, 83, 69, 82, 84, 69, 68]))), (2, 1, (.cst (.str [85, 83, 73, 78, 71]))), (3, 1, (.cst (.str [82, 69, 83, 69, 82, 86, 69, 68]))), (4, 1, (.cst (.str [68, 69, 65, 68, 76, 73, 78, 69, 95, 83, 79, 79, 78]))), (5, 1, (.cst (.str [84, 73, 77, 69, 68, 95, 79, 85, 84]))), (6, 1, (.cst (.str [68, 69, 76, 69, 84, 69, 68]))), (7, 1, (.cst (.str [82, 69, 76, 69, 65, 83, 69, 68]))), (8, 1, (.cst (.str [66, 85, 82, 73, 69, 68]))), (9, 1, (.cst (.str [84, 79, 85, 67, 72, 69, 68]))), (10, 1, (.cst (.str [87, 65, 84, 67, 72, 73, 78, 71]))), (11, 1, (.cst (.str [78, 79, 84, 95, 73, 71, 78, 79, 82, 69, 68]))), (12, 1, (.cst (.str [70, 79, 85, 78, 68]))), (13, 1, (.cst (.str [75, 73, 67, 75, 69, 68]))), (14, 1, (.cst (.str [75, 73, 67, 75, 69, 68]))), (15, 1, (.cst (.str [80, 65, 85, 83, 69, 68]))), (16, 1, (.cst (.str [79, 75]))), (17, 1, (.cst (.str [78, 79, 84, 95, 70, 79, 85, 78, 68]))), (18, 1, (.cst (.str [79, 85, 84, 95, 79, 70, 95, 77, 69, 77, 79, 82, 89]))), (19, 1, (.cst (.str [66, 65, 68, 95, 70, 79, 82, 77, 65, 84]))), (20, 1, (.cst (.str [85, 78, 75, 78, 79, 87, 78, 95, 67, 79, 77, 77, 65, 78, 68]))), (21, 1, (.cst (.str [69, 88, 80, 69, 67, 84, 69, 68, 95, 67, 82, 76, 70]))), (22, 1, (.cst (.str [74, 79, 66, 95, 84, 79, 79, 95, 66, 73, 71]))), (23, 1, (.cst (.str [68, 82, 65, 73, 78, 73, 78, 71])))])), none⟩,
      ⟨(some 3), (.op (.box (.cst (.agg [(.str []), (.str []), (.str []), (.str []), (.str []), (.str []), (.str []), (.str []), (.str []), (.str []), (.str []), (.str []), (.str []), (.str []), (.str []), (.str []), (.str []), (.str []), (.str []), (.str []), (.str []), (.str []), (.str []), (.str [])])))), none⟩,
      ⟨none, (.op (.store 24 (.tmp 3) (.tmp 4))), none⟩] [])
    (.seq (.seq (.region [
      ⟨(some 5), (.op (.mv (.tmp 0))), none⟩,
      ⟨(some 6), (.op (.bin .lss none (.tmp 5) (.cst (.int .i64 1)))), none⟩,
      ⟨(some 7), (.op (.mv (.tmp 6))), none⟩,
      ⟨(some 8), (.op (.mv (.tmp 0))), (some (7, false))⟩,
      ⟨(some 9), (.op (.bin .geq none (.tmp 8) (.cst (.int .i64 24)))), (some (7, false))⟩,
      ⟨(some 10), (.op (.pick (.tmp 7) (.cst (.bool true)) (.tmp 9))), none⟩] [])
    (.cond (.tmp 10)
      (.seq (.region [
        ⟨(some 2), (.op (.mv (.cst (.str [])))), none⟩] [])
      .ret)
      .skip))
    (.seq (.region [
      ⟨(some 11), (.op (.mv (.tmp 0))), none⟩,
      ⟨(some 12), (.op (.idxA 24 1 (.tmp 3) (.tmp 11))), none⟩,
      ⟨(some 13), (.op (.load none (.tmp 12))), none⟩,
      ⟨(some 2), (.op (.mv (.tmp 13))), none⟩] [])
    .ret))))⟩
theorem c35 : cFn Tryd.prog [] Tryd.f35 = some h35 := by kernel_rfl
/-- stint/answers.most -/
def h36 : HFn :=
  ⟨5, [(.tmp 2)],
    (.seq (.region [
      ⟨(some 2), (.op (.mv (.cst (.int .i64 0)))), none⟩] [])
    (.seq (.seq (.region [
      ⟨(some 3), (.op (.mv (.tmp 0))), none⟩,
      ⟨(some 4), (.op (.bin .eql (some .int) (.tmp 3) (.cst (.int .i64 16)))), none⟩] [])
    (.cond (.tmp 4)
      (.seq (.region [
        ⟨(some 2), (.op (.mv (.cst (.int .i64 4294967295)))), none⟩] [])
      .ret)
      .skip))
    (.seq (.region [
      ⟨(some 2), (.op (.mv (.cst (.int .i64 65535)))), none⟩] [])
    .ret)))⟩
theorem c36 : cFn Tryd.prog [] Tryd.f36 = some h36 := by kernel_rfl
/-- stint/names.Valid -/
def h37 : HFn :=
  ⟨28, [(.tmp 2)],
    (.seq (.region [
      ⟨(some 2), (.op (.mv (.cst (.bool false)))), none⟩] [])
    (.seq (.seq (.region [
      ⟨(some 4), (.op (.mv (.tmp 0))), none⟩,
      ⟨(some 5), (.op (.len .str (.tmp 4))), none⟩,
      ⟨(some 6), (.op (.bin .lss none (.tmp 5) (.cst (.int .i64 1)))), none⟩,
      ⟨(some 7), (.op (.mv (.tmp 6))), none⟩,
      ⟨(some 8), (.op (.mv (.tmp 0))), (some (7, false))⟩,
      ⟨(some 9), (.op (.len .str (.tmp 8))), (some (7, false))⟩,
      ⟨(some 10), (.op (.bin .gtr none (.tmp 9) (.cst (.int .i64 200)))), (some (7, false))⟩,
      ⟨(some 11), (.op (.pick (.tmp 7) (.cst (.bool true)) (.tmp 10))), none⟩,
      ⟨(some 12), (.op (.mv (.tmp 11))), none⟩,
      ⟨(some 13), (.op (.mv (.tmp 0))), (some (12, false))⟩,
      ⟨(some 14), (.op (.idxStr (.tmp 13) (.cst (.int .i64 0)))), (some (12, false))⟩,
      ⟨(some 15), (.op (.bin .eql (some .int) (.tmp 14) (.cst (.int .u8 45)))), (some (12, false))⟩,
      ⟨(some 16), (.op (.pick (.tmp 12) (.cst (.bool true)) (.tmp 15))), none⟩] [])
    (.cond (.tmp 16)
      (.seq (.region [
        ⟨(some 2), (.op (.mv (.cst (.bool false)))), none⟩] [])
      .ret)
      .skip))
    (.seq (.seq (.region [
      ⟨(some 17), (.op (.mv (.tmp 0))), none⟩,
      ⟨(some 18), (.op (.len .str (.tmp 17))), none⟩,
      ⟨(some 19), (.op (.mv (.cst (.int .i64 0)))), none⟩] [])
    (.block 0
      (.loop
        (.seq (.region [
          ⟨(some 20), (.op (.bin .lss none (.tmp 19) (.tmp 18))), none⟩] [])
        (.seq (.cond (.tmp 20)
          .skip
          (.exit 0))
        (.seq (.block 1
          (.seq (.region [
            ⟨(some 21), (.op (.mv (.tmp 19))), none⟩,
            ⟨(some 3), (.op (.mv (.tmp 21))), none⟩] [])
          (.seq (.region [
            ⟨(some 22), (.op (.mv (.tmp 0))), none⟩,
            ⟨(some 23), (.op (.mv (.tmp 3))), none⟩,
            ⟨(some 24), (.op (.idxStr (.tmp 22) (.tmp 23))), none⟩,
            ⟨(some 25), (.call (.cst (.func (.func 52) [] [])) [(.tmp 24)]), none⟩,
            ⟨(some 26), (.op (.un .not (.tmp 25))), none⟩] [])
          (.cond (.tmp 26)
            (.seq (.region [
              ⟨(some 2), (.op (.mv (.cst (.bool false)))), none⟩] [])
            .ret)
            .skip))))
        (.region [
          ⟨(some 27), (.op (.bin .add none (.tmp 19) (.cst (.int .i64 1)))), none⟩,
          ⟨(some 19), (.op (.mv (.tmp 27))), none⟩] [])))))))
    (.seq (.region [
      ⟨(some 2), (.op (.mv (.cst (.bool true)))), none⟩] [])
    .ret))))⟩
theorem c37 : cFn Tryd.prog [] Tryd.f37 = some h37 := by kernel_rfl
/-- stint/digits.Print -/
def h38 : HFn :=
  ⟨7, [(.tmp 2)],
    (.seq (.region [
      ⟨(some 2), (.op (.mv (.cst (.str [])))), none⟩] [])
    (.seq (.seq (.region [
      ⟨(some 3), (.op (.mv (.tmp 0))), none⟩,
      ⟨(some 4), (.op (.bin .lss none (.tmp 3) (.cst (.int .i64 0)))), none⟩] [])
    (.cond (.tmp 4)
      (.seq (.region [
        ⟨(some 2), (.op (.mv (.cst (.str [])))), none⟩] [])
      .ret)
      .skip))
    (.seq (.region [
      ⟨(some 5), (.op (.mv (.tmp 0))), none⟩,
      ⟨(some 6), (.call (.cst (.func (.func 53) [] [])) [(.tmp 5)]), none⟩,
      ⟨(some 2), (.op (.mv (.tmp 6))), none⟩] [])
    .ret)))⟩
theorem c38 : cFn Tryd.prog [] Tryd.f38 = some h38 := by kernel_rfl
/-- stint/answers.first -/
def h46 : HFn :=
  ⟨37, [(.cell 2 (some 5)), (.tmp 3), (.tmp 4)],
    (.seq (.region [
      ⟨(some 2), (.op (.box (.cst (.agg [(.int .i64 0), (.int .i64 0), (.int .i64 0), (.str []), .nilSlice])))), none⟩,
      ⟨(some 3), (.op (.mv (.cst (.int .i64 0)))), none⟩,
      ⟨(some 4), (.op (.mv (.cst (.bool false)))), none⟩] [])
    (.seq (.region [
      ⟨(some 5), (.op (.mv (.cst (.int .i64 0)))), none⟩] [])
    (.seq (.seq (.region [
      ⟨(some 6), (.op (.mv (.cst (.int .i64 1)))), none⟩] [])
    (.block 0
      (.loop
        (.seq (.seq (.region [
          ⟨(some 9), (.op (.mv (.tmp 6))), none⟩,
          ⟨(some 10), (.op (.bin .leq none (.tmp 9) (.cst (.int .i64 23)))), none⟩] [])
        (.cond (.tmp 10)
          .skip
          (.exit 0)))
        (.seq (.block 1
          (.seq (.region [
            ⟨(some 14), (.op (.mv (.tmp 6))), none⟩,
            ⟨(some 15), (.op (.mv (.tmp 0))), none⟩,
            ⟨(some 16), (.call (.cst (.func (.func 57) [] [])) [(.tmp 14), (.tmp 15)]), none⟩,
            ⟨(some 13), (.op (.mv (.tmp 16))), none⟩,
            ⟨(some 17), (.op (.ext 0 (.tmp 13))), none⟩,
            ⟨(some 18), (.op (.ext 1 (.tmp 13))), none⟩,
            ⟨(some 7), (.op (.box (.cst (.agg [(.int .i64 0), (.int .i64 0), (.int .i64 0), (.str []), .nilSlice])))), none⟩,
            ⟨none, (.op (.store 5 (.tmp 7) (.tmp 17))), none⟩,
            ⟨(some 8), (.op (.mv (.tmp 18))), none⟩] [])
          (.seq (.seq (.region [
            ⟨(some 19), (.op (.mv (.tmp 8))), none⟩,
            ⟨(some 20), (.op (.nilc (.tmp 19))), none⟩,
            ⟨(some 21), (.op (.faddr 2 (.tmp 20))), none⟩,
            ⟨(some 22), (.op (.load none (.tmp 21))), none⟩,
            ⟨(some 23), (.op (.un .not (.tmp 22))), none⟩] [])
          (.cond (.tmp 23)
            (.seq (.draw [
              ⟨(some 24), (.op (.load (some 5) (.tmp 7))), none⟩,
              ⟨(some 25), (.op (.mv (.tmp 8))), none⟩,
              ⟨(some 26), (.op (.nilc (.tmp 25))), none⟩,
              ⟨(some 27), (.op (.faddr 1 (.tmp 26))), none⟩,
              ⟨(some 28), (.op (.load none (.tmp 27))), none⟩,
              ⟨none, (.op (.store 5 (.tmp 2) (.tmp 24))), none⟩,
              ⟨(some 3), (.op (.mv (.tmp 28))), none⟩,
              ⟨(some 4), (.op (.mv (.cst (.bool true)))), none⟩] [0, 1, 2, 3, 4, 5, 6, 7] [[], [], [], [], [], [0], [], []] [])
            .ret)
            .skip))
          (.region [
            ⟨(some 29), (.op (.mv (.tmp 5))), none⟩,
            ⟨(some 30), (.op (.mv (.tmp 8))), none⟩,
            ⟨(some 31), (.op (.nilc (.tmp 30))), none⟩,
            ⟨(some 32), (.op (.faddr 1 (.tmp 31))), none⟩,
            ⟨(some 33), (.op (.load none (.tmp 32))), none⟩,
            ⟨(some 34), (.op (.minmax false [(.tmp 29), (.tmp 33)])), none⟩,
            ⟨(some 5), (.op (.mv (.tmp 34))), none⟩] []))))
        (.region [
          ⟨(some 11), (.op (.mv (.tmp 6))), none⟩,
          ⟨(some 12), (.op (.bin .add none (.tmp 11) (.cst (.int .i64 1)))), none⟩,
          ⟨(some 6), (.op (.mv (.tmp 12))), none⟩] []))))))
    (.seq (.region [
      ⟨(some 35), (.op (.build [(.int .i64 0), (.int .i64 0), (.int .i64 0), (.str []), .nilSlice] [])), none⟩,
      ⟨(some 36), (.op (.mv (.tmp 5))), none⟩,
      ⟨none, (.op (.store 5 (.tmp 2) (.tmp 35))), none⟩,
      ⟨(some 3), (.op (.mv (.tmp 36))), none⟩,
      ⟨(some 4), (.op (.mv (.cst (.bool false)))), none⟩] [])
    .ret))))⟩
theorem c46 : cFn Tryd.prog [] Tryd.f46 = some h46 := by kernel_rfl
/-- bytes.Clone -/
def h47 : HFn :=
  ⟨8, [(.tmp 2)],
    (.seq (.region [
      ⟨(some 2), (.op (.mv (.cst .nilSlice))), none⟩] [])
    (.seq (.seq (.region [
      ⟨(some 3), (.op (.mv (.tmp 0))), none⟩,
      ⟨(some 4), (.op (.bin .eql (some .slice) (.tmp 3) (.cst .nilSlice))), none⟩] [])
    (.cond (.tmp 4)
      (.seq (.region [
        ⟨(some 2), (.op (.mv (.cst .nilSlice))), none⟩] [])
      .ret)
      .skip))
    (.seq (.region [
      ⟨(some 5), (.op (.bslice 1 0 [] [])), none⟩,
      ⟨(some 6), (.op (.mv (.tmp 0))), none⟩,
      ⟨(some 7), (.op (.append 1 1 (.tmp 5) (.tmp 6))), none⟩,
      ⟨(some 2), (.op (.mv (.tmp 7))), none⟩] [])
    .ret)))⟩
theorem c47 : cFn Tryd.prog [] Tryd.f47 = some h47 := by kernel_rfl
/-- stint/names.may -/
def h52 : HFn :=
  ⟨25, [(.tmp 2)],
    (.seq (.region [
      ⟨(some 2), (.op (.mv (.cst (.bool false)))), none⟩] [])
    (.seq (.block 0
      (.seq (.seq (.region [
        ⟨(some 4), (.op (.mv (.tmp 0))), none⟩,
        ⟨(some 5), (.op (.bin .geq none (.tmp 4) (.cst (.int .u8 97)))), none⟩,
        ⟨(some 6), (.op (.mv (.tmp 5))), none⟩,
        ⟨(some 7), (.op (.mv (.tmp 0))), (some (6, true))⟩,
        ⟨(some 8), (.op (.bin .leq none (.tmp 7) (.cst (.int .u8 122)))), (some (6, true))⟩,
        ⟨(some 9), (.op (.pick (.tmp 6) (.tmp 8) (.cst (.bool false)))), none⟩,
        ⟨(some 3), (.op (.mv (.tmp 9))), none⟩] [])
      (.cond (.tmp 3)
        .skip
        (.seq (.region [
          ⟨(some 10), (.op (.mv (.tmp 0))), none⟩,
          ⟨(some 11), (.op (.bin .geq none (.tmp 10) (.cst (.int .u8 65)))), none⟩,
          ⟨(some 12), (.op (.mv (.tmp 11))), none⟩,
          ⟨(some 13), (.op (.mv (.tmp 0))), (some (12, true))⟩,
          ⟨(some 14), (.op (.bin .leq none (.tmp 13) (.cst (.int .u8 90)))), (some (12, true))⟩,
          ⟨(some 15), (.op (.pick (.tmp 12) (.tmp 14) (.cst (.bool false)))), none⟩,
          ⟨(some 3), (.op (.mv (.tmp 15))), none⟩] [])
        (.cond (.tmp 3)
          .skip
          (.region [
            ⟨(some 16), (.op (.mv (.tmp 0))), none⟩,
            ⟨(some 17), (.op (.bin .geq none (.tmp 16) (.cst (.int .u8 48)))), none⟩,
            ⟨(some 18), (.op (.mv (.tmp 17))), none⟩,
            ⟨(some 19), (.op (.mv (.tmp 0))), (some (18, true))⟩,
            ⟨(some 20), (.op (.bin .leq none (.tmp 19) (.cst (.int .u8 57)))), (some (18, true))⟩,
            ⟨(some 21), (.op (.pick (.tmp 18) (.tmp 20) (.cst (.bool false)))), none⟩,
            ⟨(some 3), (.op (.mv (.tmp 21))), none⟩] [])))))
      (.cond (.tmp 3)
        (.seq (.region [
          ⟨(some 2), (.op (.mv (.cst (.bool true)))), none⟩] [])
        .ret)
        .skip)))
    (.seq (.region [
      ⟨(some 22), (.op (.mv (.tmp 0))), none⟩,
      ⟨(some 23), (.call (.cst (.func (.func 59) [] [])) [(.cst (.str [45, 43, 47, 59, 46, 36, 95, 40, 41])), (.tmp 22)]), none⟩,
      ⟨(some 24), (.op (.bin .geq none (.tmp 23) (.cst (.int .i64 0)))), none⟩,
      ⟨(some 2), (.op (.mv (.tmp 24))), none⟩] [])
    .ret)))⟩
theorem c52 : cFn Tryd.prog [] Tryd.f52 = some h52 := by kernel_rfl
/-- strconv.Itoa -/
def h53 : HFn :=
  ⟨5, [(.tmp 2)],
    (.seq (.region [
      ⟨(some 2), (.op (.mv (.cst (.str [])))), none⟩] [])
    (.seq (.region [
      ⟨(some 3), (.op (.mv (.tmp 0))), none⟩,
      ⟨(some 4), (.call (.cst (.func (.func 60) [] [])) [(.tmp 3)]), none⟩,
      ⟨(some 2), (.op (.mv (.tmp 4))), none⟩] [])
    .ret))⟩
theorem c53 : cFn Tryd.prog [] Tryd.f53 = some h53 := by kernel_rfl
/-- stint/answers.form -/
def h57 : HFn :=
  ⟨67, [(.cell 4 (some 5)), (.tmp 5)],
    (.seq (.region [
      ⟨(some 4), (.op (.box (.cst (.agg [(.int .i64 0), (.int .i64 0), (.int .i64 0), (.str []), .nilSlice])))), none⟩,
      ⟨(some 5), (.op (.mv (.cst .nilPtr))), none⟩] [])
    (.seq (.region [
      ⟨(some 9), (.op (.mv (.tmp 1))), none⟩,
      ⟨(some 10), (.op (.build [.nilSlice, (.int .i64 0), (.bool false)] [(0, 1, (.tmp 9))])), none⟩,
      ⟨(some 11), (.op (.box (.tmp 10))), none⟩,
      ⟨(some 6), (.op (.mv (.tmp 11))), none⟩] [])
    (.seq (.region [
      ⟨(some 12), (.op (.mv (.tmp 0))), none⟩,
      ⟨(some 13), (.op (.build [(.int .i64 0), (.int .i64 0), (.int .i64 0), (.str []), .nilSlice] [(0, 1, (.tmp 12))])), none⟩,
      ⟨(some 7), (.op (.box (.cst (.agg [(.int .i64 0), (.int .i64 0), (.int .i64 0), (.str []), .nilSlice])))), none⟩,
      ⟨none, (.op (.store 5 (.tmp 7) (.tmp 13))), none⟩] [])
    (.seq (.region [
      ⟨(some 14), (.op (.mv (.tmp 6))), none⟩,
      ⟨(some 15), (.op (.mv (.tmp 0))), none⟩,
      ⟨(some 16), (.call (.cst (.func (.func 35) [] [])) [(.tmp 15)]), none⟩,
      ⟨(some 17), (.call (.cst (.func (.func 61) [] [])) [(.tmp 14), (.tmp 16)]), none⟩] [])
    (.seq (.seq (.region [
      ⟨(some 18), (.op (.mv (.tmp 0))), none⟩] [])
    (.block 0
      (.seq (.block 5
        (.seq (.block 4
          (.seq (.block 3
            (.seq (.block 2
              (.seq (.block 1
                (.seq (.seq (.seq (.seq (.region [
                  ⟨(some 20), (.op (.bin .eql (some .int) (.tmp 18) (.cst (.int .i64 3)))), none⟩,
                  ⟨(some 19), (.op (.mv (.tmp 20))), none⟩] [])
                (.cond (.tmp 19)
                  .skip
                  (.region [
                    ⟨(some 21), (.op (.bin .eql (some .int) (.tmp 18) (.cst (.int .i64 12)))), none⟩,
                    ⟨(some 19), (.op (.mv (.tmp 21))), none⟩] [])))
                (.cond (.tmp 19)
                  (.exit 1)
                  .skip))
                (.seq (.seq (.region [
                  ⟨(some 23), (.op (.bin .eql (some .int) (.tmp 18) (.cst (.int .i64 16)))), none⟩,
                  ⟨(some 22), (.op (.mv (.tmp 23))), none⟩] [])
                (.cond (.tmp 22)
                  (.exit 2)
                  .skip))
                (.seq (.seq (.region [
                  ⟨(some 25), (.op (.bin .eql (some .int) (.tmp 18) (.cst (.int .i64 1)))), none⟩,
                  ⟨(some 24), (.op (.mv (.tmp 25))), none⟩] [])
                (.cond (.tmp 24)
                  (.exit 3)
                  .skip))
                (.seq (.seq (.region [
                  ⟨(some 27), (.op (.bin .eql (some .int) (.tmp 18) (.cst (.int .i64 2)))), none⟩,
                  ⟨(some 26), (.op (.mv (.tmp 27))), none⟩] [])
                (.cond (.tmp 26)
                  (.exit 4)
                  .skip))
                (.seq (.seq (.region [
                  ⟨(some 29), (.op (.bin .eql (some .int) (.tmp 18) (.cst (.int .i64 10)))), none⟩,
                  ⟨(some 28), (.op (.mv (.tmp 29))), none⟩] [])
                (.cond (.tmp 28)
                  .skip
                  (.region [
                    ⟨(some 30), (.op (.bin .eql (some .int) (.tmp 18) (.cst (.int .i64 13)))), none⟩,
                    ⟨(some 28), (.op (.mv (.tmp 30))), none⟩] [])))
                (.cond (.tmp 28)
                  (.exit 5)
                  .skip))))))
                (.exit 0)))
              (.seq (.region [
                ⟨(some 31), (.op (.mv (.tmp 6))), none⟩,
                ⟨(some 32), (.call (.cst (.func (.func 61) [] [])) [(.tmp 31), (.cst (.str [32]))]), none⟩] [])
              (.region [
                ⟨(some 33), (.op (.mv (.tmp 6))), none⟩,
                ⟨(some 34), (.call (.cst (.func (.func 62) [] [])) [(.tmp 33), (.cst (.int .i64 1)), (.cst (.int .i64 1099511627776))]), none⟩,
                ⟨(some 35), (.op (.faddr 1 (.tmp 7))), none⟩,
                ⟨none, (.op (.store 1 (.tmp 35) (.tmp 34))), none⟩] []))))
            (.seq (.seq (.region [
              ⟨(some 36), (.op (.mv (.tmp 6))), none⟩,
              ⟨(some 37), (.call (.cst (.func (.func 61) [] [])) [(.tmp 36), (.cst (.str [32]))]), none⟩] [])
            (.seq (.region [
              ⟨(some 38), (.op (.mv (.tmp 6))), none⟩,
              ⟨(some 39), (.op (.mv (.tmp 0))), none⟩,
              ⟨(some 40), (.call (.cst (.func (.func 36) [] [])) [(.tmp 39)]), none⟩,
              ⟨(some 41), (.call (.cst (.func (.func 62) [] [])) [(.tmp 38), (.cst (.int .i64 0)), (.tmp 40)]), none⟩,
              ⟨(some 8), (.op (.mv (.tmp 41))), none⟩] [])
            (.seq (.region [
              ⟨(some 42), (.op (.mv (.tmp 6))), none⟩,
              ⟨(some 43), (.call (.cst (.func (.func 61) [] [])) [(.tmp 42), (.cst (.str [13, 10]))]), none⟩] [])
            (.region [
              ⟨(some 44), (.op (.mv (.tmp 6))), none⟩,
              ⟨(some 45), (.op (.mv (.tmp 8))), none⟩,
              ⟨(some 46), (.call (.cst (.func (.func 63) [] [])) [(.tmp 44), (.tmp 45)]), none⟩,
              ⟨(some 47), (.op (.faddr 4 (.tmp 7))), none⟩,
              ⟨none, (.op (.store 1 (.tmp 47) (.tmp 46))), none⟩] []))))
            (.exit 0))))
          (.seq (.seq (.region [
            ⟨(some 48), (.op (.mv (.tmp 6))), none⟩,
            ⟨(some 49), (.call (.cst (.func (.func 61) [] [])) [(.tmp 48), (.cst (.str [32]))]), none⟩] [])
          (.region [
            ⟨(some 50), (.op (.mv (.tmp 6))), none⟩,
            ⟨(some 51), (.call (.cst (.func (.func 62) [] [])) [(.tmp 50), (.cst (.int .i64 1)), (.cst (.int .i64 1099511627776))]), none⟩,
            ⟨(some 52), (.op (.faddr 1 (.tmp 7))), none⟩,
            ⟨none, (.op (.store 1 (.tmp 52) (.tmp 51))), none⟩] []))
          (.exit 0))))
        (.seq (.seq (.region [
          ⟨(some 53), (.op (.mv (.tmp 6))), none⟩,
          ⟨(some 54), (.call (.cst (.func (.func 61) [] [])) [(.tmp 53), (.cst (.str [32]))]), none⟩] [])
        (.region [
          ⟨(some 55), (.op (.mv (.tmp 6))), none⟩,
          ⟨(some 56), (.call (.cst (.func (.func 64) [] [])) [(.tmp 55)]), none⟩,
          ⟨(some 57), (.op (.faddr 3 (.tmp 7))), none⟩,
          ⟨none, (.op (.store 1 (.tmp 57) (.tmp 56))), none⟩] []))
        (.exit 0))))
      (.seq (.seq (.region [
        ⟨(some 58), (.op (.mv (.tmp 6))), none⟩,
        ⟨(some 59), (.call (.cst (.func (.func 61) [] [])) [(.tmp 58), (.cst (.str [32]))]), none⟩] [])
      (.region [
        ⟨(some 60), (.op (.mv (.tmp 6))), none⟩,
        ⟨(some 61), (.call (.cst (.func (.func 62) [] [])) [(.tmp 60), (.cst (.int .i64 0)), (.cst (.int .i64 4294967295))]), none⟩,
        ⟨(some 62), (.op (.faddr 2 (.tmp 7))), none⟩,
        ⟨none, (.op (.store 1 (.tmp 62) (.tmp 61))), none⟩] []))
      (.exit 0)))))
    (.seq (.region [
      ⟨(some 63), (.op (.mv (.tmp 6))), none⟩,
      ⟨(some 64), (.call (.cst (.func (.func 61) [] [])) [(.tmp 63), (.cst (.str [13, 10]))]), none⟩] [])
    (.seq (.region [
      ⟨(some 65), (.op (.load (some 5) (.tmp 7))), none⟩,
      ⟨(some 66), (.op (.mv (.tmp 6))), none⟩,
      ⟨none, (.op (.store 5 (.tmp 4) (.tmp 65))), none⟩,
      ⟨(some 5), (.op (.mv (.tmp 66))), none⟩] [])
    .ret)))))))⟩
theorem c57 : cFn Tryd.prog [] Tryd.f57 = some h57 := by kernel_rfl
/-- strings.IndexByte -/
def h59 : HFn :=
  ⟨8, [(.tmp 4)],
    (.seq (.region [
      ⟨(some 4), (.op (.mv (.cst (.int .i64 0)))), none⟩] [])
    (.seq (.region [
      ⟨(some 5), (.op (.mv (.tmp 0))), none⟩,
      ⟨(some 6), (.op (.mv (.tmp 1))), none⟩,
      ⟨(some 7), (.call (.cst (.func (.func 68) [] [])) [(.tmp 5), (.tmp 6)]), none⟩,
      ⟨(some 4), (.op (.mv (.tmp 7))), none⟩] [])
    .ret))⟩
theorem c59 : cFn Tryd.prog [] Tryd.f59 = some h59 := by kernel_rfl
/-- internal/strconv.Itoa -/
def h60 : HFn :=
  ⟨5, [(.tmp 2)],
    (.seq (.region [
      ⟨(some 2), (.op (.mv (.cst (.str [])))), none⟩] [])
    (.seq (.region [
      ⟨(some 3), (.op (.mv (.tmp 0))), none⟩,
      ⟨(some 4), (.call (.cst (.func (.func 69) [] [])) [(.tmp 3), (.cst (.int .i64 10))]), none⟩,
      ⟨(some 2), (.op (.mv (.tmp 4))), none⟩] [])
    .ret))⟩
theorem c60 : cFn Tryd.prog [] Tryd.f60 = some h60 := by kernel_rfl
/-- (*stint/answers.cursor).text -/
def h61 : HFn :=
  ⟨54, [],
    (.seq (.region [
      ⟨(some 4), (.op (.mv (.cst (.int .i64 0)))), none⟩] [])
    (.block 0
      (.loop
        (.seq (.seq (.region [
          ⟨(some 5), (.op (.mv (.tmp 4))), none⟩,
          ⟨(some 6), (.op (.mv (.tmp 1))), none⟩,
          ⟨(some 7), (.op (.len .str (.tmp 6))), none⟩,
          ⟨(some 8), (.op (.bin .lss none (.tmp 5) (.tmp 7))), none⟩,
          ⟨(some 9), (.op (.mv (.tmp 8))), none⟩,
          ⟨(some 10), (.op (.mv (.tmp 0))), (some (9, true))⟩,
          ⟨(some 11), (.op (.nilc (.tmp 10))), (some (9, true))⟩,
          ⟨(some 12), (.op (.faddr 2 (.tmp 11))), (some (9, true))⟩,
          ⟨(some 13), (.op (.load none (.tmp 12))), (some (9, true))⟩,
          ⟨(some 14), (.op (.un .not (.tmp 13))), (some (9, true))⟩,
          ⟨(some 15), (.op (.pick (.tmp 9) (.tmp 14) (.cst (.bool false)))), none⟩] [])
        (.cond (.tmp 15)
          .skip
          (.exit 0)))
        (.seq (.block 1
          (.seq (.seq (.draw [
            ⟨(some 18), (.op (.mv (.tmp 0))), none⟩,
            ⟨(some 19), (.op (.nilc (.tmp 18))), none⟩,
            ⟨(some 20), (.op (.faddr 1 (.tmp 19))), none⟩,
            ⟨(some 21), (.op (.load none (.tmp 20))), none⟩,
            ⟨(some 22), (.op (.mv (.tmp 0))), none⟩,
            ⟨(some 23), (.op (.nilc (.tmp 22))), none⟩,
            ⟨(some 24), (.op (.faddr 0 (.tmp 23))), none⟩,
            ⟨(some 25), (.op (.load none (.tmp 24))), none⟩,
            ⟨(some 26), (.op (.len .slice (.tmp 25))), none⟩,
            ⟨(some 27), (.op (.bin .eql (some .int) (.tmp 21) (.tmp 26))), none⟩,
            ⟨(some 28), (.op (.mv (.tmp 27))), none⟩,
            ⟨(some 29), (.op (.mv (.tmp 0))), (some (28, false))⟩,
            ⟨(some 30), (.op (.nilc (.tmp 29))), (some (28, false))⟩,
            ⟨(some 31), (.op (.faddr 0 (.tmp 30))), (some (28, false))⟩,
            ⟨(some 32), (.op (.load none (.tmp 31))), (some (28, false))⟩,
            ⟨(some 33), (.op (.mv (.tmp 0))), (some (28, false))⟩,
            ⟨(some 34), (.op (.nilc (.tmp 33))), (some (28, false))⟩,
            ⟨(some 35), (.op (.faddr 1 (.tmp 34))), (some (28, false))⟩,
            ⟨(some 36), (.op (.load none (.tmp 35))), (some (28, false))⟩,
            ⟨(some 37), (.op (.idxS 1 (.tmp 32) (.tmp 36))), (some (28, false))⟩,
            ⟨(some 38), (.op (.load none (.tmp 37))), (some (28, false))⟩,
            ⟨(some 39), (.op (.mv (.tmp 1))), (some (28, false))⟩,
            ⟨(some 40), (.op (.mv (.tmp 4))), (some (28, false))⟩,
            ⟨(some 41), (.op (.idxStr (.tmp 39) (.tmp 40))), (some (28, false))⟩,
            ⟨(some 42), (.op (.bin .neq (some .int) (.tmp 38) (.tmp 41))), (some (28, false))⟩,
            ⟨(some 43), (.op (.pick (.tmp 28) (.cst (.bool true)) (.tmp 42))), none⟩] [0, 1, 2, 3, 4, 5, 6, 7, 8, 9, 10, 11, 12, 13, 14, 15, 16, 17, 18, 19, 20, 21, 22, 23, 24, 25] [[], [], [], [], [], [], [], [], [], [], [], [], [], [], [], [], [], [], [], [], [], [], [], [], [], []] [])
          (.cond (.tmp 43)
            (.seq (.region [
              ⟨(some 44), (.op (.mv (.tmp 0))), none⟩,
              ⟨(some 45), (.op (.nilc (.tmp 44))), none⟩,
              ⟨(some 46), (.op (.faddr 2 (.tmp 45))), none⟩,
              ⟨none, (.op (.store 1 (.tmp 46) (.cst (.bool true)))), none⟩] [])
            .ret)
            .skip))
          (.region [
            ⟨(some 47), (.op (.mv (.tmp 0))), none⟩,
            ⟨(some 48), (.op (.nilc (.tmp 47))), none⟩,
            ⟨(some 49), (.op (.faddr 1 (.tmp 48))), none⟩,
            ⟨(some 50), (.op (.load none (.tmp 49))), none⟩,
            ⟨(some 51), (.op (.bin .add none (.tmp 50) (.cst (.int .i64 1)))), none⟩,
            ⟨(some 52), (.op (.nilc (.tmp 47))), none⟩,
            ⟨(some 53), (.op (.faddr 1 (.tmp 52))), none⟩,
            ⟨none, (.op (.store 1 (.tmp 53) (.tmp 51))), none⟩] [])))
        (.region [
          ⟨(some 16), (.op (.mv (.tmp 4))), none⟩,
          ⟨(some 17), (.op (.bin .add none (.tmp 16) (.cst (.int .i64 1)))), none⟩,
          ⟨(some 4), (.op (.mv (.tmp 17))), none⟩] []))))))⟩
theorem c61 : cFn Tryd.prog [] Tryd.f61 = some h61 := by kernel_rfl
/-- (*stint/answers.cursor).number -/
def h62 : HFn :=
  ⟨116, [(.tmp 6)],
    (.seq (.region [
      ⟨(some 6), (.op (.mv (.cst (.int .i64 0)))), none⟩] [])
    (.seq (.draw [
      ⟨(some 10), (.op (.mv (.tmp 0))), none⟩,
      ⟨(some 11), (.op (.nilc (.tmp 10))), none⟩,
      ⟨(some 12), (.op (.faddr 1 (.tmp 11))), none⟩,
      ⟨(some 13), (.op (.load none (.tmp 12))), none⟩,
      ⟨(some 7), (.op (.mv (.cst (.int .i64 0)))), none⟩,
      ⟨(some 8), (.op (.mv (.tmp 13))), none⟩] [0, 1, 2, 3, 4, 5] [[], [], [], [], [], []] [])
    (.seq (.block 0
      (.loop
        (.seq (.seq (.draw [
          ⟨(some 14), (.op (.mv (.tmp 0))), none⟩,
          ⟨(some 15), (.op (.nilc (.tmp 14))), none⟩,
          ⟨(some 16), (.op (.faddr 2 (.tmp 15))), none⟩,
          ⟨(some 17), (.op (.load none (.tmp 16))), none⟩,
          ⟨(some 18), (.op (.un .not (.tmp 17))), none⟩,
          ⟨(some 19), (.op (.mv (.tmp 18))), none⟩,
          ⟨(some 20), (.op (.mv (.tmp 0))), (some (19, true))⟩,
          ⟨(some 21), (.op (.nilc (.tmp 20))), (some (19, true))⟩,
          ⟨(some 22), (.op (.faddr 1 (.tmp 21))), (some (19, true))⟩,
          ⟨(some 23), (.op (.load none (.tmp 22))), (some (19, true))⟩,
          ⟨(some 24), (.op (.mv (.tmp 0))), (some (19, true))⟩,
          ⟨(some 25), (.op (.nilc (.tmp 24))), (some (19, true))⟩,
          ⟨(some 26), (.op (.faddr 0 (.tmp 25))), (some (19, true))⟩,
          ⟨(some 27), (.op (.load none (.tmp 26))), (some (19, true))⟩,
          ⟨(some 28), (.op (.len .slice (.tmp 27))), (some (19, true))⟩,
          ⟨(some 29), (.op (.bin .lss none (.tmp 23) (.tmp 28))), (some (19, true))⟩,
          ⟨(some 30), (.op (.pick (.tmp 19) (.tmp 29) (.cst (.bool false)))), none⟩,
          ⟨(some 31), (.op (.mv (.tmp 30))), none⟩,
          ⟨(some 32), (.op (.mv (.tmp 0))), (some (31, true))⟩,
          ⟨(some 33), (.op (.nilc (.tmp 32))), (some (31, true))⟩,
          ⟨(some 34), (.op (.faddr 0 (.tmp 33))), (some (31, true))⟩,
          ⟨(some 35), (.op (.load none (.tmp 34))), (some (31, true))⟩,
          ⟨(some 36), (.op (.mv (.tmp 0))), (some (31, true))⟩,
          ⟨(some 37), (.op (.nilc (.tmp 36))), (some (31, true))⟩,
          ⟨(some 38), (.op (.faddr 1 (.tmp 37))), (some (31, true))⟩,
          ⟨(some 39), (.op (.load none (.tmp 38))), (some (31, true))⟩,
          ⟨(some 40), (.op (.idxS 1 (.tmp 35) (.tmp 39))), (some (31, true))⟩,
          ⟨(some 41), (.op (.load none (.tmp 40))), (some (31, true))⟩,
          ⟨(some 42), (.op (.bin .geq none (.tmp 41) (.cst (.int .u8 48)))), (some (31, true))⟩,
          ⟨(some 43), (.op (.pick (.tmp 31) (.tmp 42) (.cst (.bool false)))), none⟩,
          ⟨(some 44), (.op (.mv (.tmp 43))), none⟩,
          ⟨(some 45), (.op (.mv (.tmp 0))), (some (44, true))⟩,
          ⟨(some 46), (.op (.nilc (.tmp 45))), (some (44, true))⟩,
          ⟨(some 47), (.op (.faddr 0 (.tmp 46))), (some (44, true))⟩,
          ⟨(some 48), (.op (.load none (.tmp 47))), (some (44, true))⟩,
          ⟨(some 49), (.op (.mv (.tmp 0))), (some (44, true))⟩,
          ⟨(some 50), (.op (.nilc (.tmp 49))), (some (44, true))⟩,
          ⟨(some 51), (.op (.faddr 1 (.tmp 50))), (some (44, true))⟩,
          ⟨(some 52), (.op (.load none (.tmp 51))), (some (44, true))⟩,
          ⟨(some 53), (.op (.idxS 1 (.tmp 48) (.tmp 52))), (some (44, true))⟩,
          ⟨(some 54), (.op (.load none (.tmp 53))), (some (44, true))⟩,
          ⟨(some 55), (.op (.bin .leq none (.tmp 54) (.cst (.int .u8 57)))), (some (44, true))⟩,
          ⟨(some 56), (.op (.pick (.tmp 44) (.tmp 55) (.cst (.bool false)))), none⟩] [0, 1, 2, 3, 4, 5, 6, 7, 8, 9, 10, 11, 12, 13, 14, 15, 16, 17, 18, 19, 20, 21, 22, 23, 24, 25, 26, 27, 28, 29, 30, 31, 32, 33, 34, 35, 36, 37, 38, 39, 40, 41, 42] [[], [], [], [], [], [], [], [], [], [], [], [], [], [], [], [], [], [], [], [], [], [], [], [], [], [], [], [], [], [], [], [], [], [], [], [], [], [], [], [], [], [], []] [])
        (.cond (.tmp 56)
          .skip
          (.exit 0)))
        (.block 1
          (.seq (.draw [
            ⟨(some 57), (.op (.mv (.tmp 7))), none⟩,
            ⟨(some 58), (.op (.bin .mul none (.cst (.int .i64 10)) (.tmp 57))), none⟩,
            ⟨(some 59), (.op (.mv (.tmp 0))), none⟩,
            ⟨(some 60), (.op (.nilc (.tmp 59))), none⟩,
            ⟨(some 61), (.op (.faddr 0 (.tmp 60))), none⟩,
            ⟨(some 62), (.op (.load none (.tmp 61))), none⟩,
            ⟨(some 63), (.op (.mv (.tmp 0))), none⟩,
            ⟨(some 64), (.op (.nilc (.tmp 63))), none⟩,
            ⟨(some 65), (.op (.faddr 1 (.tmp 64))), none⟩,
            ⟨(some 66), (.op (.load none (.tmp 65))), none⟩,
            ⟨(some 67), (.op (.idxS 1 (.tmp 62) (.tmp 66))), none⟩,
            ⟨(some 68), (.op (.load none (.tmp 67))), none⟩,
            ⟨(some 69), (.op (.bin .sub none (.tmp 68) (.cst (.int .u8 48)))), none⟩,
            ⟨(some 70), (.op (.cInt .i64 (.tmp 69))), none⟩,
            ⟨(some 71), (.op (.bin .add none (.tmp 58) (.tmp 70))), none⟩,
            ⟨(some 9), (.op (.mv (.tmp 71))), none⟩] [0, 1, 2, 3, 4, 5, 6, 7, 8, 9, 10, 11, 12, 13, 14, 15] [[], [], [], [], [], [], [], [], [], [], [], [], [], [], [], []] [])
          (.seq (.seq (.region [
            ⟨(some 72), (.op (.mv (.tmp 9))), none⟩,
            ⟨(some 73), (.op (.mv (.tmp 2))), none⟩,
            ⟨(some 74), (.op (.bin .gtr none (.tmp 72) (.tmp 73))), none⟩,
            ⟨(some 75), (.op (.mv (.tmp 74))), none⟩,
            ⟨(some 76), (.op (.mv (.tmp 9))), (some (75, false))⟩,
            ⟨(some 77), (.op (.mv (.tmp 1))), (some (75, false))⟩,
            ⟨(some 78), (.op (.bin .lss none (.tmp 76) (.tmp 77))), (some (75, false))⟩,
            ⟨(some 79), (.op (.pick (.tmp 75) (.cst (.bool true)) (.tmp 78))), none⟩,
            ⟨(some 80), (.op (.mv (.tmp 79))), none⟩,
            ⟨(some 81), (.op (.mv (.tmp 0))), (some (80, false))⟩,
            ⟨(some 82), (.op (.nilc (.tmp 81))), (some (80, false))⟩,
            ⟨(some 83), (.op (.faddr 1 (.tmp 82))), (some (80, false))⟩,
            ⟨(some 84), (.op (.load none (.tmp 83))), (some (80, false))⟩,
            ⟨(some 85), (.op (.mv (.tmp 8))), (some (80, false))⟩,
            ⟨(some 86), (.op (.bin .gtr none (.tmp 84) (.tmp 85))), (some (80, false))⟩,
            ⟨(some 87), (.op (.mv (.tmp 86))), (some (80, false))⟩,
            ⟨(some 88), (.op (.mv (.tmp 7))), (some (87, true))⟩,
            ⟨(some 89), (.op (.bin .eql (some .int) (.tmp 88) (.cst (.int .i64 0)))), (some (87, true))⟩,
            ⟨(some 90), (.op (.pick (.tmp 87) (.tmp 89) (.cst (.bool false)))), (some (80, false))⟩,
            ⟨(some 91), (.op (.pick (.tmp 80) (.cst (.bool true)) (.tmp 90))), none⟩] [])
          (.cond (.tmp 91)
            (.exit 0)
            .skip))
          (.seq (.region [
            ⟨(some 92), (.op (.mv (.tmp 9))), none⟩,
            ⟨(some 7), (.op (.mv (.tmp 92))), none⟩] [])
          (.region [
            ⟨(some 93), (.op (.mv (.tmp 0))), none⟩,
            ⟨(some 94), (.op (.nilc (.tmp 93))), none⟩,
            ⟨(some 95), (.op (.faddr 1 (.tmp 94))), none⟩,
            ⟨(some 96), (.op (.load none (.tmp 95))), none⟩,
            ⟨(some 97), (.op (.bin .add none (.tmp 96) (.cst (.int .i64 1)))), none⟩,
            ⟨(some 98), (.op (.nilc (.tmp 93))), none⟩,
            ⟨(some 99), (.op (.faddr 1 (.tmp 98))), none⟩,
            ⟨none, (.op (.store 1 (.tmp 99) (.tmp 97))), none⟩] []))))))))
    (.seq (.region [
      ⟨(some 100), (.op (.mv (.tmp 0))), none⟩,
      ⟨(some 101), (.op (.mv (.tmp 0))), none⟩,
      ⟨(some 102), (.op (.nilc (.tmp 101))), none⟩,
      ⟨(some 103), (.op (.faddr 2 (.tmp 102))), none⟩,
      ⟨(some 104), (.op (.load none (.tmp 103))), none⟩,
      ⟨(some 105), (.op (.mv (.tmp 104))), none⟩,
      ⟨(some 106), (.op (.mv (.tmp 0))), (some (105, false))⟩,
      ⟨(some 107), (.op (.nilc (.tmp 106))), (some (105, false))⟩,
      ⟨(some 108), (.op (.faddr 1 (.tmp 107))), (some (105, false))⟩,
      ⟨(some 109), (.op (.load none (.tmp 108))), (some (105, false))⟩,
      ⟨(some 110), (.op (.mv (.tmp 8))), (some (105, false))⟩,
      ⟨(some 111), (.op (.bin .eql (some .int) (.tmp 109) (.tmp 110))), (some (105, false))⟩,
      ⟨(some 112), (.op (.pick (.tmp 105) (.cst (.bool true)) (.tmp 111))), none⟩,
      ⟨(some 113), (.op (.nilc (.tmp 100))), none⟩,
      ⟨(some 114), (.op (.faddr 2 (.tmp 113))), none⟩,
      ⟨none, (.op (.store 1 (.tmp 114) (.tmp 112))), none⟩] [])
    (.seq (.region [
      ⟨(some 115), (.op (.mv (.tmp 7))), none⟩,
      ⟨(some 6), (.op (.mv (.tmp 115))), none⟩] [])
    .ret)))))⟩
theorem c62 : cFn Tryd.prog [] Tryd.f62 = some h62 := by kernel_rfl
/-- (*stint/answers.cursor).bytes -/
def h63 : HFn :=
  ⟨55, [(.tmp 4)],
    (.seq (.region [
      ⟨(some 4), (.op (.mv (.cst .nilSlice))), none⟩] [])
    (.seq (.seq (.region [
      ⟨(some 6), (.op (.mv (.tmp 0))), none⟩,
      ⟨(some 7), (.op (.nilc (.tmp 6))), none⟩,
      ⟨(some 8), (.op (.faddr 2 (.tmp 7))), none⟩,
      ⟨(some 9), (.op (.load none (.tmp 8))), none⟩] [])
    (.cond (.tmp 9)
      (.seq (.region [
        ⟨(some 4), (.op (.mv (.cst .nilSlice))), none⟩] [])
      .ret)
      .skip))
    (.seq (.seq (.draw [
      ⟨(some 10), (.op (.mv (.tmp 0))), none⟩,
      ⟨(some 11), (.op (.nilc (.tmp 10))), none⟩,
      ⟨(some 12), (.op (.faddr 0 (.tmp 11))), none⟩,
      ⟨(some 13), (.op (.load none (.tmp 12))), none⟩,
      ⟨(some 14), (.op (.len .slice (.tmp 13))), none⟩,
      ⟨(some 15), (.op (.mv (.tmp 0))), none⟩,
      ⟨(some 16), (.op (.nilc (.tmp 15))), none⟩,
      ⟨(some 17), (.op (.faddr 1 (.tmp 16))), none⟩,
      ⟨(some 18), (.op (.load none (.tmp 17))), none⟩,
      ⟨(some 19), (.op (.bin .sub none (.tmp 14) (.tmp 18))), none⟩,
      ⟨(some 20), (.op (.mv (.tmp 1))), none⟩,
      ⟨(some 21), (.op (.bin .lss none (.tmp 19) (.tmp 20))), none⟩] [0, 1, 2, 3, 4, 5, 6, 7, 8, 9, 10, 11] [[], [], [], [], [], [], [], [], [], [], [], []] [])
    (.cond (.tmp 21)
      (.seq (.region [
        ⟨(some 22), (.op (.mv (.tmp 0))), none⟩,
        ⟨(some 23), (.op (.mv (.tmp 0))), none⟩,
        ⟨(some 24), (.op (.mv (.tmp 0))), none⟩,
        ⟨(some 25), (.op (.nilc (.tmp 24))), none⟩,
        ⟨(some 26), (.op (.faddr 0 (.tmp 25))), none⟩,
        ⟨(some 27), (.op (.load none (.tmp 26))), none⟩,
        ⟨(some 28), (.op (.len .slice (.tmp 27))), none⟩,
        ⟨(some 29), (.op (.nilc (.tmp 22))), none⟩,
        ⟨(some 30), (.op (.faddr 1 (.tmp 29))), none⟩,
        ⟨none, (.op (.store 1 (.tmp 30) (.tmp 28))), none⟩,
        ⟨(some 31), (.op (.nilc (.tmp 23))), none⟩,
        ⟨(some 32), (.op (.faddr 2 (.tmp 31))), none⟩,
        ⟨none, (.op (.store 1 (.tmp 32) (.cst (.bool true)))), none⟩] [])
      (.seq (.region [
        ⟨(some 4), (.op (.mv (.cst .nilSlice))), none⟩] [])
      .ret))
      .skip))
    (.seq (.region [
      ⟨(some 33), (.op (.mv (.tmp 1))), none⟩,
      ⟨(some 34), (.op (.mkSlice 1 1 [(.int .u8 0)] (.tmp 33) (.tmp 33))), none⟩,
      ⟨(some 5), (.op (.mv (.tmp 34))), none⟩] [])
    (.seq (.draw [
      ⟨(some 35), (.op (.mv (.tmp 5))), none⟩,
      ⟨(some 36), (.op (.mv (.tmp 0))), none⟩,
      ⟨(some 37), (.op (.nilc (.tmp 36))), none⟩,
      ⟨(some 38), (.op (.faddr 0 (.tmp 37))), none⟩,
      ⟨(some 39), (.op (.load none (.tmp 38))), none⟩,
      ⟨(some 40), (.op (.mv (.tmp 0))), none⟩,
      ⟨(some 41), (.op (.nilc (.tmp 40))), none⟩,
      ⟨(some 42), (.op (.faddr 1 (.tmp 41))), none⟩,
      ⟨(some 43), (.op (.load none (.tmp 42))), none⟩,
      ⟨(some 44), (.op (.sliceSl 1 (.tmp 39) (some (.tmp 43)) none none)), none⟩,
      ⟨(some 45), (.op (.copy 1 (.tmp 35) (.tmp 44))), none⟩] [0, 1, 2, 3, 4, 5, 6, 7, 8, 9, 10] [[], [], [], [], [], [], [], [], [], [], [9, 4, 8]] [])
    (.seq (.region [
      ⟨(some 46), (.op (.mv (.tmp 0))), none⟩,
      ⟨(some 47), (.op (.nilc (.tmp 46))), none⟩,
      ⟨(some 48), (.op (.faddr 1 (.tmp 47))), none⟩,
      ⟨(some 49), (.op (.load none (.tmp 48))), none⟩,
      ⟨(some 50), (.op (.mv (.tmp 1))), none⟩,
      ⟨(some 51), (.op (.bin .add none (.tmp 49) (.tmp 50))), none⟩,
      ⟨(some 52), (.op (.nilc (.tmp 46))), none⟩,
      ⟨(some 53), (.op (.faddr 1 (.tmp 52))), none⟩,
      ⟨none, (.op (.store 1 (.tmp 53) (.tmp 51))), none⟩] [])
    (.seq (.region [
      ⟨(some 54), (.op (.mv (.tmp 5))), none⟩,
      ⟨(some 4), (.op (.mv (.tmp 54))), none⟩] [])
    .ret)))))))⟩
theorem c63 : cFn Tryd.prog [] Tryd.f63 = some h63 := by kernel_rfl
/-- (*stint/answers.cursor).name -/
def h64 : HFn :=
  ⟨73, [(.tmp 2)],
    (.seq (.region [
      ⟨(some 2), (.op (.mv (.cst (.str [])))), none⟩] [])
    (.seq (.region [
      ⟨(some 4), (.op (.mv (.tmp 0))), none⟩,
      ⟨(some 5), (.op (.nilc (.tmp 4))), none⟩,
      ⟨(some 6), (.op (.faddr 1 (.tmp 5))), none⟩,
      ⟨(some 7), (.op (.load none (.tmp 6))), none⟩,
      ⟨(some 3), (.op (.mv (.tmp 7))), none⟩] [])
    (.seq (.block 0
      (.loop
        (.seq (.seq (.draw [
          ⟨(some 8), (.op (.mv (.tmp 0))), none⟩,
          ⟨(some 9), (.op (.nilc (.tmp 8))), none⟩,
          ⟨(some 10), (.op (.faddr 2 (.tmp 9))), none⟩,
          ⟨(some 11), (.op (.load none (.tmp 10))), none⟩,
          ⟨(some 12), (.op (.un .not (.tmp 11))), none⟩,
          ⟨(some 13), (.op (.mv (.tmp 12))), none⟩,
          ⟨(some 14), (.op (.mv (.tmp 0))), (some (13, true))⟩,
          ⟨(some 15), (.op (.nilc (.tmp 14))), (some (13, true))⟩,
          ⟨(some 16), (.op (.faddr 1 (.tmp 15))), (some (13, true))⟩,
          ⟨(some 17), (.op (.load none (.tmp 16))), (some (13, true))⟩,
          ⟨(some 18), (.op (.mv (.tmp 0))), (some (13, true))⟩,
          ⟨(some 19), (.op (.nilc (.tmp 18))), (some (13, true))⟩,
          ⟨(some 20), (.op (.faddr 0 (.tmp 19))), (some (13, true))⟩,
          ⟨(some 21), (.op (.load none (.tmp 20))), (some (13, true))⟩,
          ⟨(some 22), (.op (.len .slice (.tmp 21))), (some (13, true))⟩,
          ⟨(some 23), (.op (.bin .lss none (.tmp 17) (.tmp 22))), (some (13, true))⟩,
          ⟨(some 24), (.op (.pick (.tmp 13) (.tmp 23) (.cst (.bool false)))), none⟩,
          ⟨(some 25), (.op (.mv (.tmp 24))), none⟩,
          ⟨(some 26), (.op (.mv (.tmp 0))), (some (25, true))⟩,
          ⟨(some 27), (.op (.nilc (.tmp 26))), (some (25, true))⟩,
          ⟨(some 28), (.op (.faddr 0 (.tmp 27))), (some (25, true))⟩,
          ⟨(some 29), (.op (.load none (.tmp 28))), (some (25, true))⟩,
          ⟨(some 30), (.op (.mv (.tmp 3))), (some (25, true))⟩,
          ⟨(some 31), (.op (.mv (.tmp 0))), (some (25, true))⟩,
          ⟨(some 32), (.op (.nilc (.tmp 31))), (some (25, true))⟩,
          ⟨(some 33), (.op (.faddr 1 (.tmp 32))), (some (25, true))⟩,
          ⟨(some 34), (.op (.load none (.tmp 33))), (some (25, true))⟩,
          ⟨(some 35), (.op (.bin .add none (.tmp 34) (.cst (.int .i64 1)))), (some (25, true))⟩,
          ⟨(some 36), (.op (.sliceSl 1 (.tmp 29) (some (.tmp 30)) (some (.tmp 35)) none)), (some (25, true))⟩,
          ⟨(some 37), (.op (.b2s (.tmp 36))), (some (25, true))⟩,
          ⟨(some 38), (.call (.cst (.func (.func 37) [] [])) [(.tmp 37)]), (some (25, true))⟩,
          ⟨(some 39), (.op (.pick (.tmp 25) (.tmp 38) (.cst (.bool false)))), none⟩] [0, 1, 2, 3, 4, 5, 6, 7, 8, 9, 10, 11, 12, 13, 14, 15, 16, 17, 18, 19, 20, 21, 22, 23, 24, 25, 26, 27, 28, 29, 30, 31] [[], [], [], [], [], [], [], [], [], [], [], [], [], [], [], [], [], [], [], [], [], [], [], [], [], [], [], [], [], [], [29, 28, 21, 3, 9, 14, 13, 26], []] [])
        (.cond (.tmp 39)
          .skip
          (.exit 0)))
        (.block 1
          (.region [
            ⟨(some 40), (.op (.mv (.tmp 0))), none⟩,
            ⟨(some 41), (.op (.nilc (.tmp 40))), none⟩,
            ⟨(some 42), (.op (.faddr 1 (.tmp 41))), none⟩,
            ⟨(some 43), (.op (.load none (.tmp 42))), none⟩,
            ⟨(some 44), (.op (.bin .add none (.tmp 43) (.cst (.int .i64 1)))), none⟩,
            ⟨(some 45), (.op (.nilc (.tmp 40))), none⟩,
            ⟨(some 46), (.op (.faddr 1 (.tmp 45))), none⟩,
            ⟨none, (.op (.store 1 (.tmp 46) (.tmp 44))), none⟩] [])))))
    (.seq (.region [
      ⟨(some 47), (.op (.mv (.tmp 0))), none⟩,
      ⟨(some 48), (.op (.mv (.tmp 0))), none⟩,
      ⟨(some 49), (.op (.nilc (.tmp 48))), none⟩,
      ⟨(some 50), (.op (.faddr 2 (.tmp 49))), none⟩,
      ⟨(some 51), (.op (.load none (.tmp 50))), none⟩,
      ⟨(some 52), (.op (.mv (.tmp 51))), none⟩,
      ⟨(some 53), (.op (.mv (.tmp 0))), (some (52, false))⟩,
      ⟨(some 54), (.op (.nilc (.tmp 53))), (some (52, false))⟩,
      ⟨(some 55), (.op (.faddr 1 (.tmp 54))), (some (52, false))⟩,
      ⟨(some 56), (.op (.load none (.tmp 55))), (some (52, false))⟩,
      ⟨(some 57), (.op (.mv (.tmp 3))), (some (52, false))⟩,
      ⟨(some 58), (.op (.bin .eql (some .int) (.tmp 56) (.tmp 57))), (some (52, false))⟩,
      ⟨(some 59), (.op (.pick (.tmp 52) (.cst (.bool true)) (.tmp 58))), none⟩,
      ⟨(some 60), (.op (.nilc (.tmp 47))), none⟩,
      ⟨(some 61), (.op (.faddr 2 (.tmp 60))), none⟩,
      ⟨none, (.op (.store 1 (.tmp 61) (.tmp 59))), none⟩] [])
    (.seq (.draw [
      ⟨(some 62), (.op (.mv (.tmp 0))), none⟩,
      ⟨(some 63), (.op (.nilc (.tmp 62))), none⟩,
      ⟨(some 64), (.op (.faddr 0 (.tmp 63))), none⟩,
      ⟨(some 65), (.op (.load none (.tmp 64))), none⟩,
      ⟨(some 66), (.op (.mv (.tmp 3))), none⟩,
      ⟨(some 67), (.op (.mv (.tmp 0))), none⟩,
      ⟨(some 68), (.op (.nilc (.tmp 67))), none⟩,
      ⟨(some 69), (.op (.faddr 1 (.tmp 68))), none⟩,
      ⟨(some 70), (.op (.load none (.tmp 69))), none⟩,
      ⟨(some 71), (.op (.sliceSl 1 (.tmp 65) (some (.tmp 66)) (some (.tmp 70)) none)), none⟩,
      ⟨(some 72), (.op (.b2s (.tmp 71))), none⟩,
      ⟨(some 2), (.op (.mv (.tmp 72))), none⟩] [0, 1, 2, 3, 4, 5, 6, 7, 8, 9, 10, 11] [[], [], [], [], [], [], [], [], [], [], [], []] [])
    .ret)))))⟩
theorem c64 : cFn Tryd.prog [] Tryd.f64 = some h64 := by kernel_rfl
/-- internal/stringslite.IndexByte -/
def h68 : HFn :=
  ⟨8, [(.tmp 4)],
    (.seq (.region [
      ⟨(some 4), (.op (.mv (.cst (.int .i64 0)))), none⟩] [])
    (.seq (.region [
      ⟨(some 5), (.op (.mv (.tmp 0))), none⟩,
      ⟨(some 6), (.op (.mv (.tmp 1))), none⟩,
      ⟨(some 7), (.call (.cst (.func (.func 73) [] [])) [(.tmp 5), (.tmp 6)]), none⟩,
      ⟨(some 4), (.op (.mv (.tmp 7))), none⟩] [])
    .ret))⟩
theorem c68 : cFn Tryd.prog [] Tryd.f68 = some h68 := by kernel_rfl
/-- internal/strconv.FormatInt -/
def h69 : HFn :=
  ⟨54, [(.tmp 4)],
    (.seq (.region [
      ⟨(some 4), (.op (.mv (.cst (.str [])))), none⟩] [])
    (.seq (.seq (.region [
      ⟨(some 10), (.op (.mv (.tmp 1))), none⟩,
      ⟨(some 11), (.op (.bin .eql (some .int) (.tmp 10) (.cst (.int .i64 10)))), none⟩] [])
    (.cond (.tmp 11)
      (.seq (.seq (.region [
        ⟨(some 12), (.op (.mv (.tmp 0))), none⟩,
        ⟨(some 13), (.op (.bin .leq none (.cst (.int .i64 0)) (.tmp 12))), none⟩,
        ⟨(some 14), (.op (.mv (.tmp 13))), none⟩,
        ⟨(some 15), (.op (.mv (.tmp 0))), (some (14, true))⟩,
        ⟨(some 16), (.op (.bin .lss none (.tmp 15) (.cst (.int .i64 100)))), (some (14, true))⟩,
        ⟨(some 17), (.op (.pick (.tmp 14) (.tmp 16) (.cst (.bool false)))), none⟩] [])
      (.cond (.tmp 17)
        (.seq (.region [
          ⟨(some 18), (.op (.mv (.tmp 0))), none⟩,
          ⟨(some 19), (.call (.cst (.func (.func 74) [] [])) [(.tmp 18)]), none⟩,
          ⟨(some 4), (.op (.mv (.tmp 19))), none⟩] [])
        .ret)
        .skip))
      (.seq (.region [
        ⟨(some 5), (.op (.box (.cst (.agg [(.int .u8 0), (.int .u8 0), (.int .u8 0), (.int .u8 0), (.int .u8 0), (.int .u8 0), (.int .u8 0), (.int .u8 0), (.int .u8 0), (.int .u8 0), (.int .u8 0), (.int .u8 0), (.int .u8 0), (.int .u8 0), (.int .u8 0), (.int .u8 0), (.int .u8 0), (.int .u8 0), (.int .u8 0), (.int .u8 0), (.int .u8 0), (.int .u8 0), (.int .u8 0), (.int .u8 0)])))), none⟩] [])
      (.seq (.region [
        ⟨(some 20), (.op (.mv (.tmp 0))), none⟩,
        ⟨(some 21), (.op (.cInt .u64 (.tmp 20))), none⟩,
        ⟨(some 6), (.op (.mv (.tmp 21))), none⟩] [])
      (.seq (.seq (.region [
        ⟨(some 22), (.op (.mv (.tmp 0))), none⟩,
        ⟨(some 23), (.op (.bin .lss none (.tmp 22) (.cst (.int .i64 0)))), none⟩] [])
      (.cond (.tmp 23)
        (.region [
          ⟨(some 24), (.op (.mv (.tmp 6))), none⟩,
          ⟨(some 25), (.op (.un .neg (.tmp 24))), none⟩,
          ⟨(some 6), (.op (.mv (.tmp 25))), none⟩] [])
        .skip))
      (.seq (.region [
        ⟨(some 26), (.op (.mv (.tmp 6))), none⟩,
        ⟨(some 27), (.call (.cst (.func (.func 75) [] [])) [(.tmp 26)]), none⟩,
        ⟨(some 7), (.op (.mv (.tmp 27))), none⟩] [])
      (.seq (.region [
        ⟨(some 28), (.op (.mv (.tmp 7))), none⟩,
        ⟨(some 29), (.op (.bin .add none (.cst (.int .i64 1)) (.tmp 28))), none⟩,
        ⟨(some 30), (.op (.sliceArr 24 1 (.tmp 5) (some (.cst (.int .i64 1))) (some (.tmp 29)) none)), none⟩,
        ⟨(some 31), (.op (.mv (.tmp 6))), none⟩,
        ⟨(some 32), (.call (.cst (.func (.func 76) [] [])) [(.tmp 30), (.tmp 31)]), none⟩] [])
      (.seq (.seq (.region [
        ⟨(some 33), (.op (.mv (.tmp 0))), none⟩,
        ⟨(some 34), (.op (.bin .lss none (.tmp 33) (.cst (.int .i64 0)))), none⟩] [])
      (.cond (.tmp 34)
        (.seq (.region [
          ⟨(some 35), (.op (.idxA 24 1 (.tmp 5) (.cst (.int .i64 0)))), none⟩,
          ⟨none, (.op (.store 1 (.tmp 35) (.cst (.int .u8 45)))), none⟩] [])
        (.seq (.region [
          ⟨(some 36), (.op (.mv (.tmp 7))), none⟩,
          ⟨(some 37), (.op (.bin .add none (.cst (.int .i64 1)) (.tmp 36))), none⟩,
          ⟨(some 38), (.op (.sliceArr 24 1 (.tmp 5) none (some (.tmp 37)) none)), none⟩,
          ⟨(some 39), (.op (.b2s (.tmp 38))), none⟩,
          ⟨(some 4), (.op (.mv (.tmp 39))), none⟩] [])
        .ret))
        .skip))
      (.seq (.region [
        ⟨(some 40), (.op (.mv (.tmp 7))), none⟩,
        ⟨(some 41), (.op (.bin .add none (.cst (.int .i64 1)) (.tmp 40))), none⟩,
        ⟨(some 42), (.op (.sliceArr 24 1 (.tmp 5) (some (.cst (.int .i64 1))) (some (.tmp 41)) none)), none⟩,
        ⟨(some 43), (.op (.b2s (.tmp 42))), none⟩,
        ⟨(some 4), (.op (.mv (.tmp 43))), none⟩] [])
      .ret))))))))
      .skip))
    (.seq (.region [
      ⟨(some 45), (.op (.mv (.tmp 0))), none⟩,
      ⟨(some 46), (.op (.cInt .u64 (.tmp 45))), none⟩,
      ⟨(some 47), (.op (.mv (.tmp 1))), none⟩,
      ⟨(some 48), (.op (.mv (.tmp 0))), none⟩,
      ⟨(some 49), (.op (.bin .lss none (.tmp 48) (.cst (.int .i64 0)))), none⟩,
      ⟨(some 50), (.call (.cst (.func (.func 77) [] [])) [(.cst .nilSlice), (.tmp 46), (.tmp 47), (.tmp 49), (.cst (.bool false))]), none⟩,
      ⟨(some 44), (.op (.mv (.tmp 50))), none⟩,
      ⟨(some 51), (.op (.ext 0 (.tmp 44))), none⟩,
      ⟨(some 52), (.op (.ext 1 (.tmp 44))), none⟩,
      ⟨(some 8), (.op (.mv (.tmp 51))), none⟩,
      ⟨(some 9), (.op (.mv (.tmp 52))), none⟩] [])
    (.seq (.region [
      ⟨(some 53), (.op (.mv (.tmp 9))), none⟩,
      ⟨(some 4), (.op (.mv (.tmp 53))), none⟩] [])
    .ret))))⟩
theorem c69 : cFn Tryd.prog [] Tryd.f69 = some h69 := by kernel_rfl
/-- internal/strconv.small -/
def h74 : HFn :=
  ⟨15, [(.tmp 2)],
    (.seq (.region [
      ⟨(some 2), (.op (.mv (.cst (.str [])))), none⟩] [])
    (.seq (.seq (.region [
      ⟨(some 3), (.op (.mv (.tmp 0))), none⟩,
      ⟨(some 4), (.op (.bin .lss none (.tmp 3) (.cst (.int .i64 10)))), none⟩] [])
    (.cond (.tmp 4)
      (.seq (.region [
        ⟨(some 5), (.op (.mv (.tmp 0))), none⟩,
        ⟨(some 6), (.op (.mv (.tmp 0))), none⟩,
        ⟨(some 7), (.op (.bin .add none (.tmp 6) (.cst (.int .i64 1)))), none⟩,
        ⟨(some 8), (.op (.sliceStr (.cst (.str [48, 49, 50, 51, 52, 53, 54, 55, 56, 57, 97, 98, 99, 100, 101, 102, 103, 104, 105, 106, 107, 108, 109, 110, 111, 112, 113, 114, 115, 116, 117, 118, 119, 120, 121, 122])) (some (.tmp 5)) (some (.tmp 7)))), none⟩,
        ⟨(some 2), (.op (.mv (.tmp 8))), none⟩] [])
      .ret)
      .skip))
    (.seq (.region [
      ⟨(some 9), (.op (.mv (.tmp 0))), none⟩,
      ⟨(some 10), (.op (.bin .mul none (.tmp 9) (.cst (.int .i64 2)))), none⟩,
      ⟨(some 11), (.op (.mv (.tmp 0))), none⟩,
      ⟨(some 12), (.op (.bin .mul none (.tmp 11) (.cst (.int .i64 2)))), none⟩,
      ⟨(some 13), (.op (.bin .add none (.tmp 12) (.cst (.int .i64 2)))), none⟩,
      ⟨(some 14), (.op (.sliceStr (.cst (.str [48, 48, 48, 49, 48, 50, 48, 51, 48, 52, 48, 53, 48, 54, 48, 55, 48, 56, 48, 57, 49, 48, 49, 49, 49, 50, 49, 51, 49, 52, 49, 53, 49, 54, 49, 55, 49, 56, 49, 57, 50, 48, 50, 49, 50, 50, 50, 51, 50, 52, 50, 53, 50, 54, 50, 55, 50, 56, 50, 57, 51, 48, 51, 49, 51, 50, 51, 51, 51, 52, 51, 53, 51, 54, 51, 55, 51, 56, 51, 57, 52, 48, 52, 49, 52, 50, 52, 51, 52, 52, 52, 53, 52, 54, 52, 55, 52, 56, 52, 57, 53, 48, 53, 49, 53, 50, 53, 51, 53, 52, 53, 53, 53, 54, 53, 55, 53, 56, 53, 57, 54, 48, 54, 49, 54, 50, 54, 51, 54, 52, 54, 53, 54, 54, 54, 55, 54, 56, 54, 57, 55, 48, 55, 49, 55, 50, 55, 51, 55, 52, 55, 53, 55, 54, 55, 55, 55, 56, 55, 57, 56, 48, 56, 49, 56, 50, 56, 51, 56, 52, 56, 53, 56, 54, 56, 55, 56, 56, 56, 57, 57, 48, 57, 49, 57, 50, 57, 51, 57, 52, 57, 53, 57, 54, 57, 55, 57, 56, 57, 57])) (some (.tmp 10)) (some (.tmp 13)))), none⟩,
      ⟨(some 2), (.op (.mv (.tmp 14))), none⟩] [])
    .ret)))⟩
theorem c74 : cFn Tryd.prog [] Tryd.f74 = some h74 := by kernel_rfl
/-- internal/strconv.numDigits -/
def h75 : HFn :=
  ⟨15, [(.tmp 2)],
    (.seq (.region [
      ⟨(some 2), (.op (.mv (.cst (.int .i64 0)))), none⟩] [])
    (.seq (.region [
      ⟨(some 4), (.op (.mv (.tmp 0))), none⟩,
      ⟨(some 5), (.call (.cst (.func (.func 80) [] [])) [(.tmp 4)]), none⟩,
      ⟨(some 6), (.call (.cst (.func (.func 79) [] [])) [(.tmp 5)]), none⟩,
      ⟨(some 3), (.op (.mv (.tmp 6))), none⟩] [])
    (.seq (.region [
      ⟨(some 7), (.op (.mv (.tmp 3))), none⟩,
      ⟨(some 8), (.op (.mv (.tmp 0))), none⟩,
      ⟨(some 9), (.op (.mv (.tmp 3))), none⟩,
      ⟨(some 10), (.op (.gidxA 20 1 1 (.tmp 9))), none⟩,
      ⟨(some 11), (.op (.load none (.tmp 10))), none⟩,
      ⟨(some 12), (.op (.bin .geq none (.tmp 8) (.tmp 11))), none⟩,
      ⟨(some 13), (.call (.cst (.func (.func 81) [] [])) [(.tmp 12)]), none⟩,
      ⟨(some 14), (.op (.bin .add none (.tmp 7) (.tmp 13))), none⟩,
      ⟨(some 2), (.op (.mv (.tmp 14))), none⟩] [])
    .ret)))⟩
theorem c75 : cFn Tryd.prog [] Tryd.f75 = some h75 := by kernel_rfl
/-- internal/strconv.formatBase10 -/
def h76 : HFn :=
  ⟨167, [],
    (.seq (.region [
      ⟨(some 17), (.op (.mv (.tmp 0))), none⟩,
      ⟨(some 18), (.op (.len .slice (.tmp 17))), none⟩,
      ⟨(some 4), (.op (.mv (.tmp 18))), none⟩] [])
    (.seq (.block 0
      (.loop
        (.seq (.seq (.region [
          ⟨(some 19), (.op (.mv (.tmp 4))), none⟩,
          ⟨(some 20), (.op (.bin .geq none (.tmp 19) (.cst (.int .i64 8)))), none⟩] [])
        (.cond (.tmp 20)
          .skip
          (.exit 0)))
        (.block 1
          (.seq (.region [
            ⟨(some 21), (.op (.mv (.tmp 1))), none⟩,
            ⟨(some 22), (.op (.bin .rem none (.tmp 21) (.cst (.int .u64 100000000)))), none⟩,
            ⟨(some 23), (.op (.cInt .u32 (.tmp 22))), none⟩,
            ⟨(some 5), (.op (.mv (.tmp 23))), none⟩] [])
          (.seq (.region [
            ⟨(some 24), (.op (.mv (.tmp 1))), none⟩,
            ⟨(some 25), (.op (.bin .quo none (.tmp 24) (.cst (.int .u64 100000000)))), none⟩,
            ⟨(some 1), (.op (.mv (.tmp 25))), none⟩] [])
          (.seq (.region [
            ⟨(some 26), (.op (.mv (.tmp 5))), none⟩,
            ⟨(some 27), (.op (.bin .quo none (.tmp 26) (.cst (.int .u32 10000)))), none⟩,
            ⟨(some 28), (.op (.mv (.tmp 5))), none⟩,
            ⟨(some 29), (.op (.bin .rem none (.tmp 28) (.cst (.int .u32 10000)))), none⟩,
            ⟨(some 6), (.op (.mv (.tmp 27))), none⟩,
            ⟨(some 7), (.op (.mv (.tmp 29))), none⟩] [])
          (.seq (.region [
            ⟨(some 30), (.op (.mv (.tmp 7))), none⟩,
            ⟨(some 31), (.op (.bin .quo none (.tmp 30) (.cst (.int .u32 100)))), none⟩,
            ⟨(some 32), (.op (.bin .mul none (.tmp 31) (.cst (.int .u32 2)))), none⟩,
            ⟨(some 33), (.op (.mv (.tmp 7))), none⟩,
            ⟨(some 34), (.op (.bin .rem none (.tmp 33) (.cst (.int .u32 100)))), none⟩,
            ⟨(some 35), (.op (.bin .mul none (.tmp 34) (.cst (.int .u32 2)))), none⟩,
            ⟨(some 8), (.op (.mv (.tmp 32))), none⟩,
            ⟨(some 9), (.op (.mv (.tmp 35))), none⟩] [])
          (.seq (.region [
            ⟨(some 36), (.op (.mv (.tmp 6))), none⟩,
            ⟨(some 37), (.op (.bin .quo none (.tmp 36) (.cst (.int .u32 100)))), none⟩,
            ⟨(some 38), (.op (.bin .mul none (.tmp 37) (.cst (.int .u32 2)))), none⟩,
            ⟨(some 39), (.op (.mv (.tmp 6))), none⟩,
            ⟨(some 40), (.op (.bin .rem none (.tmp 39) (.cst (.int .u32 100)))), none⟩,
            ⟨(some 41), (.op (.bin .mul none (.tmp 40) (.cst (.int .u32 2)))), none⟩,
            ⟨(some 10), (.op (.mv (.tmp 38))), none⟩,
            ⟨(some 11), (.op (.mv (.tmp 41))), none⟩] [])
          (.seq (.draw [
            ⟨(some 42), (.op (.mv (.tmp 0))), none⟩,
            ⟨(some 43), (.op (.mv (.tmp 4))), none⟩,
            ⟨(some 44), (.op (.bin .sub none (.tmp 43) (.cst (.int .i64 1)))), none⟩,
            ⟨(some 45), (.op (.mv (.tmp 0))), none⟩,
            ⟨(some 46), (.op (.mv (.tmp 4))), none⟩,
            ⟨(some 47), (.op (.bin .sub none (.tmp 46) (.cst (.int .i64 2)))), none⟩,
            ⟨(some 48), (.op (.mv (.tmp 9))), none⟩,
            ⟨(some 49), (.op (.bin .add none (.tmp 48) (.cst (.int .u32 1)))), none⟩,
            ⟨(some 50), (.op (.idxStr (.cst (.str [48, 48, 48, 49, 48, 50, 48, 51, 48, 52, 48, 53, 48, 54, 48, 55, 48, 56, 48, 57, 49, 48, 49, 49, 49, 50, 49, 51, 49, 52, 49, 53, 49, 54, 49, 55, 49, 56, 49, 57, 50, 48, 50, 49, 50, 50, 50, 51, 50, 52, 50, 53, 50, 54, 50, 55, 50, 56, 50, 57, 51, 48, 51, 49, 51, 50, 51, 51, 51, 52, 51, 53, 51, 54, 51, 55, 51, 56, 51, 57, 52, 48, 52, 49, 52, 50, 52, 51, 52, 52, 52, 53, 52, 54, 52, 55, 52, 56, 52, 57, 53, 48, 53, 49, 53, 50, 53, 51, 53, 52, 53, 53, 53, 54, 53, 55, 53, 56, 53, 57, 54, 48, 54, 49, 54, 50, 54, 51, 54, 52, 54, 53, 54, 54, 54, 55, 54, 56, 54, 57, 55, 48, 55, 49, 55, 50, 55, 51, 55, 52, 55, 53, 55, 54, 55, 55, 55, 56, 55, 57, 56, 48, 56, 49, 56, 50, 56, 51, 56, 52, 56, 53, 56, 54, 56, 55, 56, 56, 56, 57, 57, 48, 57, 49, 57, 50, 57, 51, 57, 52, 57, 53, 57, 54, 57, 55, 57, 56, 57, 57])) (.tmp 49))), none⟩,
            ⟨(some 51), (.op (.mv (.tmp 9))), none⟩,
            ⟨(some 52), (.op (.idxStr (.cst (.str [48, 48, 48, 49, 48, 50, 48, 51, 48, 52, 48, 53, 48, 54, 48, 55, 48, 56, 48, 57, 49, 48, 49, 49, 49, 50, 49, 51, 49, 52, 49, 53, 49, 54, 49, 55, 49, 56, 49, 57, 50, 48, 50, 49, 50, 50, 50, 51, 50, 52, 50, 53, 50, 54, 50, 55, 50, 56, 50, 57, 51, 48, 51, 49, 51, 50, 51, 51, 51, 52, 51, 53, 51, 54, 51, 55, 51, 56, 51, 57, 52, 48, 52, 49, 52, 50, 52, 51, 52, 52, 52, 53, 52, 54, 52, 55, 52, 56, 52, 57, 53, 48, 53, 49, 53, 50, 53, 51, 53, 52, 53, 53, 53, 54, 53, 55, 53, 56, 53, 57, 54, 48, 54, 49, 54, 50, 54, 51, 54, 52, 54, 53, 54, 54, 54, 55, 54, 56, 54, 57, 55, 48, 55, 49, 55, 50, 55, 51, 55, 52, 55, 53, 55, 54, 55, 55, 55, 56, 55, 57, 56, 48, 56, 49, 56, 50, 56, 51, 56, 52, 56, 53, 56, 54, 56, 55, 56, 56, 56, 57, 57, 48, 57, 49, 57, 50, 57, 51, 57, 52, 57, 53, 57, 54, 57, 55, 57, 56, 57, 57])) (.tmp 51))), none⟩,
            ⟨(some 53), (.op (.idxS 1 (.tmp 42) (.tmp 44))), none⟩,
            ⟨none, (.op (.store 1 (.tmp 53) (.tmp 50))), none⟩,
            ⟨(some 54), (.op (.idxS 1 (.tmp 45) (.tmp 47))), none⟩,
            ⟨none, (.op (.store 1 (.tmp 54) (.tmp 52))), none⟩] [0, 1, 2, 3, 4, 5, 6, 7, 8, 9, 10, 11, 12, 13, 14] [[], [], [], [], [], [], [], [], [], [], [], [], [11], [], [13, 11]] [])
          (.seq (.draw [
            ⟨(some 55), (.op (.mv (.tmp 0))), none⟩,
            ⟨(some 56), (.op (.mv (.tmp 4))), none⟩,
            ⟨(some 57), (.op (.bin .sub none (.tmp 56) (.cst (.int .i64 3)))), none⟩,
            ⟨(some 58), (.op (.mv (.tmp 0))), none⟩,
            ⟨(some 59), (.op (.mv (.tmp 4))), none⟩,
            ⟨(some 60), (.op (.bin .sub none (.tmp 59) (.cst (.int .i64 4)))), none⟩,
            ⟨(some 61), (.op (.mv (.tmp 8))), none⟩,
            ⟨(some 62), (.op (.bin .add none (.tmp 61) (.cst (.int .u32 1)))), none⟩,
            ⟨(some 63), (.op (.idxStr (.cst (.str [48, 48, 48, 49, 48, 50, 48, 51, 48, 52, 48, 53, 48, 54, 48, 55, 48, 56, 48, 57, 49, 48, 49, 49, 49, 50, 49, 51, 49, 52, 49, 53, 49, 54, 49, 55, 49, 56, 49, 57, 50, 48, 50, 49, 50, 50, 50, 51, 50, 52, 50, 53, 50, 54, 50, 55, 50, 56, 50, 57, 51, 48, 51, 49, 51, 50, 51, 51, 51, 52, 51, 53, 51, 54, 51, 55, 51, 56, 51, 57, 52, 48, 52, 49, 52, 50, 52, 51, 52, 52, 52, 53, 52, 54, 52, 55, 52, 56, 52, 57, 53, 48, 53, 49, 53, 50, 53, 51, 53, 52, 53, 53, 53, 54, 53, 55, 53, 56, 53, 57, 54, 48, 54, 49, 54, 50, 54, 51, 54, 52, 54, 53, 54, 54, 54, 55, 54, 56, 54, 57, 55, 48, 55, 49, 55, 50, 55, 51, 55, 52, 55, 53, 55, 54, 55, 55, 55, 56, 55, 57, 56, 48, 56, 49, 56, 50, 56, 51, 56, 52, 56, 53, 56, 54, 56, 55, 56, 56, 56, 57, 57, 48, 57, 49, 57, 50, 57, 51, 57, 52, 57, 53, 57, 54, 57, 55, 57, 56, 57, 57])) (.tmp 62))), none⟩,
            ⟨(some 64), (.op (.mv (.tmp 8))), none⟩,
            ⟨(some 65), (.op (.idxStr (.cst (.str [48, 48, 48, 49, 48, 50, 48, 51, 48, 52, 48, 53, 48, 54, 48, 55, 48, 56, 48, 57, 49, 48, 49, 49, 49, 50, 49, 51, 49, 52, 49, 53, 49, 54, 49, 55, 49, 56, 49, 57, 50, 48, 50, 49, 50, 50, 50, 51, 50, 52, 50, 53, 50, 54, 50, 55, 50, 56, 50, 57, 51, 48, 51, 49, 51, 50, 51, 51, 51, 52, 51, 53, 51, 54, 51, 55, 51, 56, 51, 57, 52, 48, 52, 49, 52, 50, 52, 51, 52, 52, 52, 53, 52, 54, 52, 55, 52, 56, 52, 57, 53, 48, 53, 49, 53, 50, 53, 51, 53, 52, 53, 53, 53, 54, 53, 55, 53, 56, 53, 57, 54, 48, 54, 49, 54, 50, 54, 51, 54, 52, 54, 53, 54, 54, 54, 55, 54, 56, 54, 57, 55, 48, 55, 49, 55, 50, 55, 51, 55, 52, 55, 53, 55, 54, 55, 55, 55, 56, 55, 57, 56, 48, 56, 49, 56, 50, 56, 51, 56, 52, 56, 53, 56, 54, 56, 55, 56, 56, 56, 57, 57, 48, 57, 49, 57, 50, 57, 51, 57, 52, 57, 53, 57, 54, 57, 55, 57, 56, 57, 57])) (.tmp 64))), none⟩,
            ⟨(some 66), (.op (.idxS 1 (.tmp 55) (.tmp 57))), none⟩,
            ⟨none, (.op (.store 1 (.tmp 66) (.tmp 63))), none⟩,
            ⟨(some 67), (.op (.idxS 1 (.tmp 58) (.tmp 60))), none⟩,
            ⟨none, (.op (.store 1 (.tmp 67) (.tmp 65))), none⟩] [0, 1, 2, 3, 4, 5, 6, 7, 8, 9, 10, 11, 12, 13, 14] [[], [], [], [], [], [], [], [], [], [], [], [], [11], [], [13, 11]] [])
          (.seq (.draw [
            ⟨(some 68), (.op (.mv (.tmp 0))), none⟩,
            ⟨(some 69), (.op (.mv (.tmp 4))), none⟩,
            ⟨(some 70), (.op (.bin .sub none (.tmp 69) (.cst (.int .i64 5)))), none⟩,
            ⟨(some 71), (.op (.mv (.tmp 0))), none⟩,
            ⟨(some 72), (.op (.mv (.tmp 4))), none⟩,
            ⟨(some 73), (.op (.bin .sub none (.tmp 72) (.cst (.int .i64 6)))), none⟩,
            ⟨(some 74), (.op (.mv (.tmp 11))), none⟩,
            ⟨(some 75), (.op (.bin .add none (.tmp 74) (.cst (.int .u32 1)))), none⟩,
            ⟨(some 76), (.op (.idxStr (.cst (.str [48, 48, 48, 49, 48, 50, 48, 51, 48, 52, 48, 53, 48, 54, 48, 55, 48, 56, 48, 57, 49, 48, 49, 49, 49, 50, 49, 51, 49, 52, 49, 53, 49, 54, 49, 55, 49, 56, 49, 57, 50, 48, 50, 49, 50, 50, 50, 51, 50, 52, 50, 53, 50, 54, 50, 55, 50, 56, 50, 57, 51, 48, 51, 49, 51, 50, 51, 51, 51, 52, 51, 53, 51, 54, 51, 55, 51, 56, 51, 57, 52, 48, 52, 49, 52, 50, 52, 51, 52, 52, 52, 53, 52, 54, 52, 55, 52, 56, 52, 57, 53, 48, 53, 49, 53, 50, 53, 51, 53, 52, 53, 53, 53, 54, 53, 55, 53, 56, 53, 57, 54, 48, 54, 49, 54, 50, 54, 51, 54, 52, 54, 53, 54, 54, 54, 55, 54, 56, 54, 57, 55, 48, 55, 49, 55, 50, 55, 51, 55, 52, 55, 53, 55, 54, 55, 55, 55, 56, 55, 57, 56, 48, 56, 49, 56, 50, 56, 51, 56, 52, 56, 53, 56, 54, 56, 55, 56, 56, 56, 57, 57, 48, 57, 49, 57, 50, 57, 51, 57, 52, 57, 53, 57, 54, 57, 55, 57, 56, 57, 57])) (.tmp 75))), none⟩,
            ⟨(some 77), (.op (.mv (.tmp 11))), none⟩,
            ⟨(some 78), (.op (.idxStr (.cst (.str [48, 48, 48, 49, 48, 50, 48, 51, 48, 52, 48, 53, 48, 54, 48, 55, 48, 56, 48, 57, 49, 48, 49, 49, 49, 50, 49, 51, 49, 52, 49, 53, 49, 54, 49, 55, 49, 56, 49, 57, 50, 48, 50, 49, 50, 50, 50, 51, 50, 52, 50, 53, 50, 54, 50, 55, 50, 56, 50, 57, 51, 48, 51, 49, 51, 50, 51, 51, 51, 52, 51, 53, 51, 54, 51, 55, 51, 56, 51, 57, 52, 48, 52, 49, 52, 50, 52, 51, 52, 52, 52, 53, 52, 54, 52, 55, 52, 56, 52, 57, 53, 48, 53, 49, 53, 50, 53, 51, 53, 52, 53, 53, 53, 54, 53, 55, 53, 56, 53, 57, 54, 48, 54, 49, 54, 50, 54, 51, 54, 52, 54, 53, 54, 54, 54, 55, 54, 56, 54, 57, 55, 48, 55, 49, 55, 50, 55, 51, 55, 52, 55, 53, 55, 54, 55, 55, 55, 56, 55, 57, 56, 48, 56, 49, 56, 50, 56, 51, 56, 52, 56, 53, 56, 54, 56, 55, 56, 56, 56, 57, 57, 48, 57, 49, 57, 50, 57, 51, 57, 52, 57, 53, 57, 54, 57, 55, 57, 56, 57, 57])) (.tmp 77))), none⟩,
            ⟨(some 79), (.op (.idxS 1 (.tmp 68) (.tmp 70))), none⟩,
            ⟨none, (.op (.store 1 (.tmp 79) (.tmp 76))), none⟩,
            ⟨(some 80), (.op (.idxS 1 (.tmp 71) (.tmp 73))), none⟩,
            ⟨none, (.op (.store 1 (.tmp 80) (.tmp 78))), none⟩] [0, 1, 2, 3, 4, 5, 6, 7, 8, 9, 10, 11, 12, 13, 14] [[], [], [], [], [], [], [], [], [], [], [], [], [11], [], [13, 11]] [])
          (.seq (.draw [
            ⟨(some 81), (.op (.mv (.tmp 0))), none⟩,
            ⟨(some 82), (.op (.mv (.tmp 4))), none⟩,
            ⟨(some 83), (.op (.bin .sub none (.tmp 82) (.cst (.int .i64 7)))), none⟩,
            ⟨(some 84), (.op (.mv (.tmp 0))), none⟩,
            ⟨(some 85), (.op (.mv (.tmp 4))), none⟩,
            ⟨(some 86), (.op (.bin .sub none (.tmp 85) (.cst (.int .i64 8)))), none⟩,
            ⟨(some 87), (.op (.mv (.tmp 10))), none⟩,
            ⟨(some 88), (.op (.bin .add none (.tmp 87) (.cst (.int .u32 1)))), none⟩,
            ⟨(some 89), (.op (.idxStr (.cst (.str [48, 48, 48, 49, 48, 50, 48, 51, 48, 52, 48, 53, 48, 54, 48, 55, 48, 56, 48, 57, 49, 48, 49, 49, 49, 50, 49, 51, 49, 52, 49, 53, 49, 54, 49, 55, 49, 56, 49, 57, 50, 48, 50, 49, 50, 50, 50, 51, 50, 52, 50, 53, 50, 54, 50, 55, 50, 56, 50, 57, 51, 48, 51, 49, 51, 50, 51, 51, 51, 52, 51, 53, 51, 54, 51, 55, 51, 56, 51, 57, 52, 48, 52, 49, 52, 50, 52, 51, 52, 52, 52, 53, 52, 54, 52, 55, 52, 56, 52, 57, 53, 48, 53, 49, 53, 50, 53, 51, 53, 52, 53, 53, 53, 54, 53, 55, 53, 56, 53, 57, 54, 48, 54, 49, 54, 50, 54, 51, 54, 52, 54, 53, 54, 54, 54, 55, 54, 56, 54, 57, 55, 48, 55, 49, 55, 50, 55, 51, 55, 52, 55, 53, 55, 54, 55, 55, 55, 56, 55, 57, 56, 48, 56, 49, 56, 50, 56, 51, 56, 52, 56, 53, 56, 54, 56, 55, 56, 56, 56, 57, 57, 48, 57, 49, 57, 50, 57, 51, 57, 52, 57, 53, 57, 54, 57, 55, 57, 56, 57, 57])) (.tmp 88))), none⟩,
            ⟨(some 90), (.op (.mv (.tmp 10))), none⟩,
            ⟨(some 91), (.op (.idxStr (.cst (.str [48, 48, 48, 49, 48, 50, 48, 51, 48, 52, 48, 53, 48, 54, 48, 55, 48, 56, 48, 57, 49, 48, 49, 49, 49, 50, 49, 51, 49, 52, 49, 53, 49, 54, 49, 55, 49, 56, 49, 57, 50, 48, 50, 49, 50, 50, 50, 51, 50, 52, 50, 53, 50, 54, 50, 55, 50, 56, 50, 57, 51, 48, 51, 49, 51, 50, 51, 51, 51, 52, 51, 53, 51, 54, 51, 55, 51, 56, 51, 57, 52, 48, 52, 49, 52, 50, 52, 51, 52, 52, 52, 53, 52, 54, 52, 55, 52, 56, 52, 57, 53, 48, 53, 49, 53, 50, 53, 51, 53, 52, 53, 53, 53, 54, 53, 55, 53, 56, 53, 57, 54, 48, 54, 49, 54, 50, 54, 51, 54, 52, 54, 53, 54, 54, 54, 55, 54, 56, 54, 57, 55, 48, 55, 49, 55, 50, 55, 51, 55, 52, 55, 53, 55, 54, 55, 55, 55, 56, 55, 57, 56, 48, 56, 49, 56, 50, 56, 51, 56, 52, 56, 53, 56, 54, 56, 55, 56, 56, 56, 57, 57, 48, 57, 49, 57, 50, 57, 51, 57, 52, 57, 53, 57, 54, 57, 55, 57, 56, 57, 57])) (.tmp 90))), none⟩,
            ⟨(some 92), (.op (.idxS 1 (.tmp 81) (.tmp 83))), none⟩,
            ⟨none, (.op (.store 1 (.tmp 92) (.tmp 89))), none⟩,
            ⟨(some 93), (.op (.idxS 1 (.tmp 84) (.tmp 86))), none⟩,
            ⟨none, (.op (.store 1 (.tmp 93) (.tmp 91))), none⟩] [0, 1, 2, 3, 4, 5, 6, 7, 8, 9, 10, 11, 12, 13, 14] [[], [], [], [], [], [], [], [], [], [], [], [], [11], [], [13, 11]] [])
          (.region [
            ⟨(some 94), (.op (.mv (.tmp 4))), none⟩,
            ⟨(some 95), (.op (.bin .sub none (.tmp 94) (.cst (.int .i64 8)))), none⟩,
            ⟨(some 4), (.op (.mv (.tmp 95))), none⟩] []))))))))))))))
    (.seq (.region [
      ⟨(some 96), (.op (.mv (.tmp 1))), none⟩,
      ⟨(some 97), (.op (.cInt .u32 (.tmp 96))), none⟩,
      ⟨(some 12), (.op (.mv (.tmp 97))), none⟩] [])
    (.seq (.seq (.region [
      ⟨(some 98), (.op (.mv (.tmp 4))), none⟩,
      ⟨(some 99), (.op (.bin .geq none (.tmp 98) (.cst (.int .i64 4)))), none⟩] [])
    (.cond (.tmp 99)
      (.seq (.region [
        ⟨(some 100), (.op (.mv (.tmp 12))), none⟩,
        ⟨(some 101), (.op (.bin .rem none (.tmp 100) (.cst (.int .u32 10000)))), none⟩,
        ⟨(some 13), (.op (.mv (.tmp 101))), none⟩] [])
      (.seq (.region [
        ⟨(some 102), (.op (.mv (.tmp 12))), none⟩,
        ⟨(some 103), (.op (.bin .quo none (.tmp 102) (.cst (.int .u32 10000)))), none⟩,
        ⟨(some 12), (.op (.mv (.tmp 103))), none⟩] [])
      (.seq (.region [
        ⟨(some 104), (.op (.mv (.tmp 13))), none⟩,
        ⟨(some 105), (.op (.bin .quo none (.tmp 104) (.cst (.int .u32 100)))), none⟩,
        ⟨(some 106), (.op (.bin .mul none (.tmp 105) (.cst (.int .u32 2)))), none⟩,
        ⟨(some 107), (.op (.mv (.tmp 13))), none⟩,
        ⟨(some 108), (.op (.bin .rem none (.tmp 107) (.cst (.int .u32 100)))), none⟩,
        ⟨(some 109), (.op (.bin .mul none (.tmp 108) (.cst (.int .u32 2)))), none⟩,
        ⟨(some 14), (.op (.mv (.tmp 106))), none⟩,
        ⟨(some 15), (.op (.mv (.tmp 109))), none⟩] [])
      (.seq (.draw [
        ⟨(some 110), (.op (.mv (.tmp 0))), none⟩,
        ⟨(some 111), (.op (.mv (.tmp 4))), none⟩,
        ⟨(some 112), (.op (.bin .sub none (.tmp 111) (.cst (.int .i64 1)))), none⟩,
        ⟨(some 113), (.op (.mv (.tmp 0))), none⟩,
        ⟨(some 114), (.op (.mv (.tmp 4))), none⟩,
        ⟨(some 115), (.op (.bin .sub none (.tmp 114) (.cst (.int .i64 2)))), none⟩,
        ⟨(some 116), (.op (.mv (.tmp 15))), none⟩,
        ⟨(some 117), (.op (.bin .add none (.tmp 116) (.cst (.int .u32 1)))), none⟩,
        ⟨(some 118), (.op (.idxStr (.cst (.str [48, 48, 48, 49, 48, 50, 48, 51, 48, 52, 48, 53, 48, 54, 48, 55, 48, 56, 48, 57, 49, 48, 49, 49, 49, 50, 49, 51, 49, 52, 49, 53, 49, 54, 49, 55, 49, 56, 49, 57, 50, 48, 50, 49, 50, 50, 50, 51, 50, 52, 50, 53, 50, 54, 50, 55, 50, 56, 50, 57, 51, 48, 51, 49, 51, 50, 51, 51, 51, 52, 51, 53, 51, 54, 51, 55, 51, 56, 51, 57, 52, 48, 52, 49, 52, 50, 52, 51, 52, 52, 52, 53, 52, 54, 52, 55, 52, 56, 52, 57, 53, 48, 53, 49, 53, 50, 53, 51, 53, 52, 53, 53, 53, 54, 53, 55, 53, 56, 53, 57, 54, 48, 54, 49, 54, 50, 54, 51, 54, 52, 54, 53, 54, 54, 54, 55, 54, 56, 54, 57, 55, 48, 55, 49, 55, 50, 55, 51, 55, 52, 55, 53, 55, 54, 55, 55, 55, 56, 55, 57, 56, 48, 56, 49, 56, 50, 56, 51, 56, 52, 56, 53, 56, 54, 56, 55, 56, 56, 56, 57, 57, 48, 57, 49, 57, 50, 57, 51, 57, 52, 57, 53, 57, 54, 57, 55, 57, 56, 57, 57])) (.tmp 117))), none⟩,
        ⟨(some 119), (.op (.mv (.tmp 15))), none⟩,
        ⟨(some 120), (.op (.idxStr (.cst (.str [48, 48, 48, 49, 48, 50, 48, 51, 48, 52, 48, 53, 48, 54, 48, 55, 48, 56, 48, 57, 49, 48, 49, 49, 49, 50, 49, 51, 49, 52, 49, 53, 49, 54, 49, 55, 49, 56, 49, 57, 50, 48, 50, 49, 50, 50, 50, 51, 50, 52, 50, 53, 50, 54, 50, 55, 50, 56, 50, 57, 51, 48, 51, 49, 51, 50, 51, 51, 51, 52, 51, 53, 51, 54, 51, 55, 51, 56, 51, 57, 52, 48, 52, 49, 52, 50, 52, 51, 52, 52, 52, 53, 52, 54, 52, 55, 52, 56, 52, 57, 53, 48, 53, 49, 53, 50, 53, 51, 53, 52, 53, 53, 53, 54, 53, 55, 53, 56, 53, 57, 54, 48, 54, 49, 54, 50, 54, 51, 54, 52, 54, 53, 54, 54, 54, 55, 54, 56, 54, 57, 55, 48, 55, 49, 55, 50, 55, 51, 55, 52, 55, 53, 55, 54, 55, 55, 55, 56, 55, 57, 56, 48, 56, 49, 56, 50, 56, 51, 56, 52, 56, 53, 56, 54, 56, 55, 56, 56, 56, 57, 57, 48, 57, 49, 57, 50, 57, 51, 57, 52, 57, 53, 57, 54, 57, 55, 57, 56, 57, 57])) (.tmp 119))), none⟩,
        ⟨(some 121), (.op (.idxS 1 (.tmp 110) (.tmp 112))), none⟩,
        ⟨none, (.op (.store 1 (.tmp 121) (.tmp 118))), none⟩,
        ⟨(some 122), (.op (.idxS 1 (.tmp 113) (.tmp 115))), none⟩,
        ⟨none, (.op (.store 1 (.tmp 122) (.tmp 120))), none⟩] [0, 1, 2, 3, 4, 5, 6, 7, 8, 9, 10, 11, 12, 13, 14] [[], [], [], [], [], [], [], [], [], [], [], [], [11], [], [13, 11]] [])
      (.seq (.draw [
        ⟨(some 123), (.op (.mv (.tmp 0))), none⟩,
        ⟨(some 124), (.op (.mv (.tmp 4))), none⟩,
        ⟨(some 125), (.op (.bin .sub none (.tmp 124) (.cst (.int .i64 3)))), none⟩,
        ⟨(some 126), (.op (.mv (.tmp 0))), none⟩,
        ⟨(some 127), (.op (.mv (.tmp 4))), none⟩,
        ⟨(some 128), (.op (.bin .sub none (.tmp 127) (.cst (.int .i64 4)))), none⟩,
        ⟨(some 129), (.op (.mv (.tmp 14))), none⟩,
        ⟨(some 130), (.op (.bin .add none (.tmp 129) (.cst (.int .u32 1)))), none⟩,
        ⟨(some 131), (.op (.idxStr (.cst (.str [48, 48, 48, 49, 48, 50, 48, 51, 48, 52, 48, 53, 48, 54, 48, 55, 48, 56, 48, 57, 49, 48, 49, 49, 49, 50, 49, 51, 49, 52, 49, 53, 49, 54, 49, 55, 49, 56, 49, 57, 50, 48, 50, 49, 50, 50, 50, 51, 50, 52, 50, 53, 50, 54, 50, 55, 50, 56, 50, 57, 51, 48, 51, 49, 51, 50, 51, 51, 51, 52, 51, 53, 51, 54, 51, 55, 51, 56, 51, 57, 52, 48, 52, 49, 52, 50, 52, 51, 52, 52, 52, 53, 52, 54, 52, 55, 52, 56, 52, 57, 53, 48, 53, 49, 53, 50, 53, 51, 53, 52, 53, 53, 53, 54, 53, 55, 53, 56, 53, 57, 54, 48, 54, 49, 54, 50, 54, 51, 54, 52, 54, 53, 54, 54, 54, 55, 54, 56, 54, 57, 55, 48, 55, 49, 55, 50, 55, 51, 55, 52, 55, 53, 55, 54, 55, 55, 55, 56, 55, 57, 56, 48, 56, 49, 56, 50, 56, 51, 56, 52, 56, 53, 56, 54, 56, 55, 56, 56, 56, 57, 57, 48, 57, 49, 57, 50, 57, 51, 57, 52, 57, 53, 57, 54, 57, 55, 57, 56, 57, 57])) (.tmp 130))), none⟩,
        ⟨(some 132), (.op (.mv (.tmp 14))), none⟩,
        ⟨(some 133), (.op (.idxStr (.cst (.str [48, 48, 48, 49, 48, 50, 48, 51, 48, 52, 48, 53, 48, 54, 48, 55, 48, 56, 48, 57, 49, 48, 49, 49, 49, 50, 49, 51, 49, 52, 49, 53, 49, 54, 49, 55, 49, 56, 49, 57, 50, 48, 50, 49, 50, 50, 50, 51, 50, 52, 50, 53, 50, 54, 50, 55, 50, 56, 50, 57, 51, 48, 51, 49, 51, 50, 51, 51, 51, 52, 51, 53, 51, 54, 51, 55, 51, 56, 51, 57, 52, 48, 52, 49, 52, 50, 52, 51, 52, 52, 52, 53, 52, 54, 52, 55, 52, 56, 52, 57, 53, 48, 53, 49, 53, 50, 53, 51, 53, 52, 53, 53, 53, 54, 53, 55, 53, 56, 53, 57, 54, 48, 54, 49, 54, 50, 54, 51, 54, 52, 54, 53, 54, 54, 54, 55, 54, 56, 54, 57, 55, 48, 55, 49, 55, 50, 55, 51, 55, 52, 55, 53, 55, 54, 55, 55, 55, 56, 55, 57, 56, 48, 56, 49, 56, 50, 56, 51, 56, 52, 56, 53, 56, 54, 56, 55, 56, 56, 56, 57, 57, 48, 57, 49, 57, 50, 57, 51, 57, 52, 57, 53, 57, 54, 57, 55, 57, 56, 57, 57])) (.tmp 132))), none⟩,
        ⟨(some 134), (.op (.idxS 1 (.tmp 123) (.tmp 125))), none⟩,
        ⟨none, (.op (.store 1 (.tmp 134) (.tmp 131))), none⟩,
        ⟨(some 135), (.op (.idxS 1 (.tmp 126) (.tmp 128))), none⟩,
        ⟨none, (.op (.store 1 (.tmp 135) (.tmp 133))), none⟩] [0, 1, 2, 3, 4, 5, 6, 7, 8, 9, 10, 11, 12, 13, 14] [[], [], [], [], [], [], [], [], [], [], [], [], [11], [], [13, 11]] [])
      (.region [
        ⟨(some 136), (.op (.mv (.tmp 4))), none⟩,
        ⟨(some 137), (.op (.bin .sub none (.tmp 136) (.cst (.int .i64 4)))), none⟩,
        ⟨(some 4), (.op (.mv (.tmp 137))), none⟩] []))))))
      .skip))
    (.seq (.seq (.region [
      ⟨(some 138), (.op (.mv (.tmp 4))), none⟩,
      ⟨(some 139), (.op (.bin .geq none (.tmp 138) (.cst (.int .i64 2)))), none⟩] [])
    (.cond (.tmp 139)
      (.seq (.region [
        ⟨(some 140), (.op (.mv (.tmp 12))), none⟩,
        ⟨(some 141), (.op (.bin .rem none (.tmp 140) (.cst (.int .u32 100)))), none⟩,
        ⟨(some 142), (.op (.bin .mul none (.tmp 141) (.cst (.int .u32 2)))), none⟩,
        ⟨(some 16), (.op (.mv (.tmp 142))), none⟩] [])
      (.seq (.region [
        ⟨(some 143), (.op (.mv (.tmp 12))), none⟩,
        ⟨(some 144), (.op (.bin .quo none (.tmp 143) (.cst (.int .u32 100)))), none⟩,
        ⟨(some 12), (.op (.mv (.tmp 144))), none⟩] [])
      (.seq (.draw [
        ⟨(some 145), (.op (.mv (.tmp 0))), none⟩,
        ⟨(some 146), (.op (.mv (.tmp 4))), none⟩,
        ⟨(some 147), (.op (.bin .sub none (.tmp 146) (.cst (.int .i64 1)))), none⟩,
        ⟨(some 148), (.op (.mv (.tmp 0))), none⟩,
        ⟨(some 149), (.op (.mv (.tmp 4))), none⟩,
        ⟨(some 150), (.op (.bin .sub none (.tmp 149) (.cst (.int .i64 2)))), none⟩,
        ⟨(some 151), (.op (.mv (.tmp 16))), none⟩,
        ⟨(some 152), (.op (.bin .add none (.tmp 151) (.cst (.int .u32 1)))), none⟩,
        ⟨(some 153), (.op (.idxStr (.cst (.str [48, 48, 48, 49, 48, 50, 48, 51, 48, 52, 48, 53, 48, 54, 48, 55, 48, 56, 48, 57, 49, 48, 49, 49, 49, 50, 49, 51, 49, 52, 49, 53, 49, 54, 49, 55, 49, 56, 49, 57, 50, 48, 50, 49, 50, 50, 50, 51, 50, 52, 50, 53, 50, 54, 50, 55, 50, 56, 50, 57, 51, 48, 51, 49, 51, 50, 51, 51, 51, 52, 51, 53, 51, 54, 51, 55, 51, 56, 51, 57, 52, 48, 52, 49, 52, 50, 52, 51, 52, 52, 52, 53, 52, 54, 52, 55, 52, 56, 52, 57, 53, 48, 53, 49, 53, 50, 53, 51, 53, 52, 53, 53, 53, 54, 53, 55, 53, 56, 53, 57, 54, 48, 54, 49, 54, 50, 54, 51, 54, 52, 54, 53, 54, 54, 54, 55, 54, 56, 54, 57, 55, 48, 55, 49, 55, 50, 55, 51, 55, 52, 55, 53, 55, 54, 55, 55, 55, 56, 55, 57, 56, 48, 56, 49, 56, 50, 56, 51, 56, 52, 56, 53, 56, 54, 56, 55, 56, 56, 56, 57, 57, 48, 57, 49, 57, 50, 57, 51, 57, 52, 57, 53, 57, 54, 57, 55, 57, 56, 57, 57])) (.tmp 152))), none⟩,
        ⟨(some 154), (.op (.mv (.tmp 16))), none⟩,
        ⟨(some 155), (.op (.idxStr (.cst (.str [48, 48, 48, 49, 48, 50, 48, 51, 48, 52, 48, 53, 48, 54, 48, 55, 48, 56, 48, 57, 49, 48, 49, 49, 49, 50, 49, 51, 49, 52, 49, 53, 49, 54, 49, 55, 49, 56, 49, 57, 50, 48, 50, 49, 50, 50, 50, 51, 50, 52, 50, 53, 50, 54, 50, 55, 50, 56, 50, 57, 51, 48, 51, 49, 51, 50, 51, 51, 51, 52, 51, 53, 51, 54, 51, 55, 51, 56, 51, 57, 52, 48, 52, 49, 52, 50, 52, 51, 52, 52, 52, 53, 52, 54, 52, 55, 52, 56, 52, 57, 53, 48, 53, 49, 53, 50, 53, 51, 53, 52, 53, 53, 53, 54, 53, 55, 53, 56, 53, 57, 54, 48, 54, 49, 54, 50, 54, 51, 54, 52, 54, 53, 54, 54, 54, 55, 54, 56, 54, 57, 55, 48, 55, 49, 55, 50, 55, 51, 55, 52, 55, 53, 55, 54, 55, 55, 55, 56, 55, 57, 56, 48, 56, 49, 56, 50, 56, 51, 56, 52, 56, 53, 56, 54, 56, 55, 56, 56, 56, 57, 57, 48, 57, 49, 57, 50, 57, 51, 57, 52, 57, 53, 57, 54, 57, 55, 57, 56, 57, 57])) (.tmp 154))), none⟩,
        ⟨(some 156), (.op (.idxS 1 (.tmp 145) (.tmp 147))), none⟩,
        ⟨none, (.op (.store 1 (.tmp 156) (.tmp 153))), none⟩,
        ⟨(some 157), (.op (.idxS 1 (.tmp 148) (.tmp 150))), none⟩,
        ⟨none, (.op (.store 1 (.tmp 157) (.tmp 155))), none⟩] [0, 1, 2, 3, 4, 5, 6, 7, 8, 9, 10, 11, 12, 13, 14] [[], [], [], [], [], [], [], [], [], [], [], [], [11], [], [13, 11]] [])
      (.region [
        ⟨(some 158), (.op (.mv (.tmp 4))), none⟩,
        ⟨(some 159), (.op (.bin .sub none (.tmp 158) (.cst (.int .i64 2)))), none⟩,
        ⟨(some 4), (.op (.mv (.tmp 159))), none⟩] []))))
      .skip))
    (.seq (.region [
      ⟨(some 160), (.op (.mv (.tmp 4))), none⟩,
      ⟨(some 161), (.op (.bin .gtr none (.tmp 160) (.cst (.int .i64 0)))), none⟩] [])
    (.cond (.tmp 161)
      (.region [
        ⟨(some 162), (.op (.mv (.tmp 0))), none⟩,
        ⟨(some 163), (.op (.mv (.tmp 12))), none⟩,
        ⟨(some 164), (.op (.bin .add none (.cst (.int .u32 48)) (.tmp 163))), none⟩,
        ⟨(some 165), (.op (.cInt .u8 (.tmp 164))), none⟩,
        ⟨(some 166), (.op (.idxS 1 (.tmp 162) (.cst (.int .i64 0)))), none⟩,
        ⟨none, (.op (.store 1 (.tmp 166) (.tmp 165))), none⟩] [])
      .skip)))))))⟩
theorem c76 : cFn Tryd.prog [] Tryd.f76 = some h76 := by kernel_rfl
/-- internal/strconv.formatBits -/
def h77 : HFn :=
  ⟨102, [(.tmp 10), (.tmp 11)],
    (.seq (.region [
      ⟨(some 10), (.op (.mv (.cst .nilSlice))), none⟩,
      ⟨(some 11), (.op (.mv (.cst (.str [])))), none⟩] [])
    (.seq (.seq (.region [
      ⟨(some 19), (.op (.mv (.tmp 2))), none⟩,
      ⟨(some 20), (.op (.bin .lss none (.tmp 19) (.cst (.int .i64 2)))), none⟩,
      ⟨(some 21), (.op (.mv (.tmp 20))), none⟩,
      ⟨(some 22), (.op (.mv (.tmp 2))), (some (21, false))⟩,
      ⟨(some 23), (.op (.bin .eql (some .int) (.tmp 22) (.cst (.int .i64 10)))), (some (21, false))⟩,
      ⟨(some 24), (.op (.pick (.tmp 21) (.cst (.bool true)) (.tmp 23))), none⟩,
      ⟨(some 25), (.op (.mv (.tmp 24))), none⟩,
      ⟨(some 26), (.op (.mv (.tmp 2))), (some (25, false))⟩,
      ⟨(some 27), (.op (.bin .gtr none (.tmp 26) (.cst (.int .i64 36)))), (some (25, false))⟩,
      ⟨(some 28), (.op (.pick (.tmp 25) (.cst (.bool true)) (.tmp 27))), none⟩] [])
    (.cond (.tmp 28)
      (.region [
        ⟨(some 29), (.op (.iface 9 (.cst (.str [115, 116, 114, 99, 111, 110, 118, 58, 32, 105, 108, 108, 101, 103, 97, 108, 32, 65, 112, 112, 101, 110, 100, 73, 110, 116, 47, 70, 111, 114, 109, 97, 116, 73, 110, 116, 32, 98, 97, 115, 101])))), none⟩,
        ⟨none, (.op .bad), none⟩] [])
      .skip))
    (.seq (.region [
      ⟨(some 12), (.op (.box (.cst (.agg [(.int .u8 0), (.int .u8 0), (.int .u8 0), (.int .u8 0), (.int .u8 0), (.int .u8 0), (.int .u8 0), (.int .u8 0), (.int .u8 0), (.int .u8 0), (.int .u8 0), (.int .u8 0), (.int .u8 0), (.int .u8 0), (.int .u8 0), (.int .u8 0), (.int .u8 0), (.int .u8 0), (.int .u8 0), (.int .u8 0), (.int .u8 0), (.int .u8 0), (.int .u8 0), (.int .u8 0), (.int .u8 0), (.int .u8 0), (.int .u8 0), (.int .u8 0), (.int .u8 0), (.int .u8 0), (.int .u8 0), (.int .u8 0), (.int .u8 0), (.int .u8 0), (.int .u8 0), (.int .u8 0), (.int .u8 0), (.int .u8 0), (.int .u8 0), (.int .u8 0), (.int .u8 0), (.int .u8 0), (.int .u8 0), (.int .u8 0), (.int .u8 0), (.int .u8 0), (.int .u8 0), (.int .u8 0), (.int .u8 0), (.int .u8 0), (.int .u8 0), (.int .u8 0), (.int .u8 0), (.int .u8 0), (.int .u8 0), (.int .u8 0), (.int .u8 0), (.int .u8 0), (.int .u8 0), (.int .u8 0), (.int .u8 0), (.int .u8 0), (.int .u8 0), (.int .u8 0), (.int .u8 0)])))), none⟩] [])
    (.seq (.region [
      ⟨(some 13), (.op (.mv (.cst (.int .i64 65)))), none⟩] [])
    (.seq (.seq (.region [
      ⟨(some 30), (.op (.mv (.tmp 3))), none⟩] [])
    (.cond (.tmp 30)
      (.region [
        ⟨(some 31), (.op (.mv (.tmp 1))), none⟩,
        ⟨(some 32), (.op (.un .neg (.tmp 31))), none⟩,
        ⟨(some 1), (.op (.mv (.tmp 32))), none⟩] [])
      .skip))
    (.seq (.seq (.region [
      ⟨(some 33), (.op (.mv (.tmp 2))), none⟩,
      ⟨(some 34), (.call (.cst (.func (.func 82) [] [])) [(.tmp 33)]), none⟩] [])
    (.cond (.tmp 34)
      (.seq (.region [
        ⟨(some 35), (.op (.mv (.tmp 2))), none⟩,
        ⟨(some 36), (.op (.cInt .u64 (.tmp 35))), none⟩,
        ⟨(some 37), (.call (.cst (.func (.func 83) [] [])) [(.tmp 36)]), none⟩,
        ⟨(some 38), (.op (.cInt .u64 (.tmp 37))), none⟩,
        ⟨(some 14), (.op (.mv (.tmp 38))), none⟩] [])
      (.seq (.region [
        ⟨(some 39), (.op (.mv (.tmp 2))), none⟩,
        ⟨(some 40), (.op (.cInt .u64 (.tmp 39))), none⟩,
        ⟨(some 15), (.op (.mv (.tmp 40))), none⟩] [])
      (.seq (.region [
        ⟨(some 41), (.op (.mv (.tmp 2))), none⟩,
        ⟨(some 42), (.op (.cInt .u64 (.tmp 41))), none⟩,
        ⟨(some 43), (.op (.bin .sub none (.tmp 42) (.cst (.int .u64 1)))), none⟩,
        ⟨(some 16), (.op (.mv (.tmp 43))), none⟩] [])
      (.seq (.block 0
        (.loop
          (.seq (.seq (.region [
            ⟨(some 44), (.op (.mv (.tmp 1))), none⟩,
            ⟨(some 45), (.op (.mv (.tmp 15))), none⟩,
            ⟨(some 46), (.op (.bin .geq none (.tmp 44) (.tmp 45))), none⟩] [])
          (.cond (.tmp 46)
            .skip
            (.exit 0)))
          (.block 1
            (.seq (.region [
              ⟨(some 47), (.op (.mv (.tmp 13))), none⟩,
              ⟨(some 48), (.op (.bin .sub none (.tmp 47) (.cst (.int .i64 1)))), none⟩,
              ⟨(some 13), (.op (.mv (.tmp 48))), none⟩] [])
            (.seq (.region [
              ⟨(some 49), (.op (.mv (.tmp 13))), none⟩,
              ⟨(some 50), (.op (.mv (.tmp 1))), none⟩,
              ⟨(some 51), (.op (.mv (.tmp 16))), none⟩,
              ⟨(some 52), (.op (.bin .and none (.tmp 50) (.tmp 51))), none⟩,
              ⟨(some 53), (.op (.idxStr (.cst (.str [48, 49, 50, 51, 52, 53, 54, 55, 56, 57, 97, 98, 99, 100, 101, 102, 103, 104, 105, 106, 107, 108, 109, 110, 111, 112, 113, 114, 115, 116, 117, 118, 119, 120, 121, 122])) (.tmp 52))), none⟩,
              ⟨(some 54), (.op (.idxA 65 1 (.tmp 12) (.tmp 49))), none⟩,
              ⟨none, (.op (.store 1 (.tmp 54) (.tmp 53))), none⟩] [])
            (.region [
              ⟨(some 55), (.op (.mv (.tmp 1))), none⟩,
              ⟨(some 56), (.op (.mv (.tmp 14))), none⟩,
              ⟨(some 57), (.op (.bin .shr none (.tmp 55) (.tmp 56))), none⟩,
              ⟨(some 1), (.op (.mv (.tmp 57))), none⟩] [])))))))
      (.seq (.region [
        ⟨(some 58), (.op (.mv (.tmp 13))), none⟩,
        ⟨(some 59), (.op (.bin .sub none (.tmp 58) (.cst (.int .i64 1)))), none⟩,
        ⟨(some 13), (.op (.mv (.tmp 59))), none⟩] [])
      (.region [
        ⟨(some 60), (.op (.mv (.tmp 13))), none⟩,
        ⟨(some 61), (.op (.mv (.tmp 1))), none⟩,
        ⟨(some 62), (.op (.idxStr (.cst (.str [48, 49, 50, 51, 52, 53, 54, 55, 56, 57, 97, 98, 99, 100, 101, 102, 103, 104, 105, 106, 107, 108, 109, 110, 111, 112, 113, 114, 115, 116, 117, 118, 119, 120, 121, 122])) (.tmp 61))), none⟩,
        ⟨(some 63), (.op (.idxA 65 1 (.tmp 12) (.tmp 60))), none⟩,
        ⟨none, (.op (.store 1 (.tmp 63) (.tmp 62))), none⟩] []))))))
      (.seq (.region [
        ⟨(some 64), (.op (.mv (.tmp 2))), none⟩,
        ⟨(some 65), (.op (.cInt .u64 (.tmp 64))), none⟩,
        ⟨(some 17), (.op (.mv (.tmp 65))), none⟩] [])
      (.seq (.block 2
        (.loop
          (.seq (.seq (.region [
            ⟨(some 66), (.op (.mv (.tmp 1))), none⟩,
            ⟨(some 67), (.op (.mv (.tmp 17))), none⟩,
            ⟨(some 68), (.op (.bin .geq none (.tmp 66) (.tmp 67))), none⟩] [])
          (.cond (.tmp 68)
            .skip
            (.exit 2)))
          (.block 3
            (.seq (.region [
              ⟨(some 69), (.op (.mv (.tmp 13))), none⟩,
              ⟨(some 70), (.op (.bin .sub none (.tmp 69) (.cst (.int .i64 1)))), none⟩,
              ⟨(some 13), (.op (.mv (.tmp 70))), none⟩] [])
            (.seq (.region [
              ⟨(some 71), (.op (.mv (.tmp 1))), none⟩,
              ⟨(some 72), (.op (.mv (.tmp 17))), none⟩,
              ⟨(some 73), (.op (.bin .quo none (.tmp 71) (.tmp 72))), none⟩,
              ⟨(some 18), (.op (.mv (.tmp 73))), none⟩] [])
            (.seq (.region [
              ⟨(some 74), (.op (.mv (.tmp 13))), none⟩,
              ⟨(some 75), (.op (.mv (.tmp 1))), none⟩,
              ⟨(some 76), (.op (.mv (.tmp 18))), none⟩,
              ⟨(some 77), (.op (.mv (.tmp 17))), none⟩,
              ⟨(some 78), (.op (.bin .mul none (.tmp 76) (.tmp 77))), none⟩,
              ⟨(some 79), (.op (.bin .sub none (.tmp 75) (.tmp 78))), none⟩,
              ⟨(some 80), (.op (.idxStr (.cst (.str [48, 49, 50, 51, 52, 53, 54, 55, 56, 57, 97, 98, 99, 100, 101, 102, 103, 104, 105, 106, 107, 108, 109, 110, 111, 112, 113, 114, 115, 116, 117, 118, 119, 120, 121, 122])) (.tmp 79))), none⟩,
              ⟨(some 81), (.op (.idxA 65 1 (.tmp 12) (.tmp 74))), none⟩,
              ⟨none, (.op (.store 1 (.tmp 81) (.tmp 80))), none⟩] [])
            (.region [
              ⟨(some 82), (.op (.mv (.tmp 18))), none⟩,
              ⟨(some 1), (.op (.mv (.tmp 82))), none⟩] []))))))))
      (.seq (.region [
        ⟨(some 83), (.op (.mv (.tmp 13))), none⟩,
        ⟨(some 84), (.op (.bin .sub none (.tmp 83) (.cst (.int .i64 1)))), none⟩,
        ⟨(some 13), (.op (.mv (.tmp 84))), none⟩] [])
      (.region [
        ⟨(some 85), (.op (.mv (.tmp 13))), none⟩,
        ⟨(some 86), (.op (.mv (.tmp 1))), none⟩,
        ⟨(some 87), (.op (.idxStr (.cst (.str [48, 49, 50, 51, 52, 53, 54, 55, 56, 57, 97, 98, 99, 100, 101, 102, 103, 104, 105, 106, 107, 108, 109, 110, 111, 112, 113, 114, 115, 116, 117, 118, 119, 120, 121, 122])) (.tmp 86))), none⟩,
        ⟨(some 88), (.op (.idxA 65 1 (.tmp 12) (.tmp 85))), none⟩,
        ⟨none, (.op (.store 1 (.tmp 88) (.tmp 87))), none⟩] []))))))
    (.seq (.seq (.region [
      ⟨(some 89), (.op (.mv (.tmp 3))), none⟩] [])
    (.cond (.tmp 89)
      (.seq (.region [
        ⟨(some 90), (.op (.mv (.tmp 13))), none⟩,
        ⟨(some 91), (.op (.bin .sub none (.tmp 90) (.cst (.int .i64 1)))), none⟩,
        ⟨(some 13), (.op (.mv (.tmp 91))), none⟩] [])
      (.region [
        ⟨(some 92), (.op (.mv (.tmp 13))), none⟩,
        ⟨(some 93), (.op (.idxA 65 1 (.tmp 12) (.tmp 92))), none⟩,
        ⟨none, (.op (.store 1 (.tmp 93) (.cst (.int .u8 45)))), none⟩] []))
      .skip))
    (.seq (.seq (.region [
      ⟨(some 94), (.op (.mv (.tmp 4))), none⟩] [])
    (.cond (.tmp 94)
      (.seq (.region [
        ⟨(some 95), (.op (.mv (.tmp 0))), none⟩,
        ⟨(some 96), (.op (.mv (.tmp 13))), none⟩,
        ⟨(some 97), (.op (.sliceArr 65 1 (.tmp 12) (some (.tmp 96)) none none)), none⟩,
        ⟨(some 98), (.op (.append 1 1 (.tmp 95) (.tmp 97))), none⟩,
        ⟨(some 10), (.op (.mv (.tmp 98))), none⟩] [])
      .ret)
      .skip))
    (.seq (.region [
      ⟨(some 99), (.op (.mv (.tmp 13))), none⟩,
      ⟨(some 100), (.op (.sliceArr 65 1 (.tmp 12) (some (.tmp 99)) none none)), none⟩,
      ⟨(some 101), (.op (.b2s (.tmp 100))), none⟩,
      ⟨(some 11), (.op (.mv (.tmp 101))), none⟩] [])
    .ret)))))))))⟩
theorem c77 : cFn Tryd.prog [] Tryd.f77 = some h77 := by kernel_rfl
/-- internal/strconv.log10Pow2 -/
def h79 : HFn :=
  ⟨6, [(.tmp 2)],
    (.seq (.region [
      ⟨(some 2), (.op (.mv (.cst (.int .i64 0)))), none⟩] [])
    (.seq (.region [
      ⟨(some 3), (.op (.mv (.tmp 0))), none⟩,
      ⟨(some 4), (.op (.bin .mul none (.tmp 3) (.cst (.int .i64 78913)))), none⟩,
      ⟨(some 5), (.op (.bin .shr none (.tmp 4) (.cst (.int .u64 18)))), none⟩,
      ⟨(some 2), (.op (.mv (.tmp 5))), none⟩] [])
    .ret))⟩
theorem c79 : cFn Tryd.prog [] Tryd.f79 = some h79 := by kernel_rfl
/-- math/bits.Len64 -/
def h80 : HFn :=
  ⟨25, [(.tmp 2)],
    (.seq (.region [
      ⟨(some 2), (.op (.mv (.cst (.int .i64 0)))), none⟩] [])
    (.seq (.seq (.region [
      ⟨(some 3), (.op (.mv (.tmp 0))), none⟩,
      ⟨(some 4), (.op (.bin .geq none (.tmp 3) (.cst (.int .u64 4294967296)))), none⟩] [])
    (.cond (.tmp 4)
      (.seq (.region [
        ⟨(some 5), (.op (.mv (.tmp 0))), none⟩,
        ⟨(some 6), (.op (.bin .shr none (.tmp 5) (.cst (.int .u64 32)))), none⟩,
        ⟨(some 0), (.op (.mv (.tmp 6))), none⟩] [])
      (.region [
        ⟨(some 2), (.op (.mv (.cst (.int .i64 32)))), none⟩] []))
      .skip))
    (.seq (.seq (.region [
      ⟨(some 7), (.op (.mv (.tmp 0))), none⟩,
      ⟨(some 8), (.op (.bin .geq none (.tmp 7) (.cst (.int .u64 65536)))), none⟩] [])
    (.cond (.tmp 8)
      (.seq (.region [
        ⟨(some 9), (.op (.mv (.tmp 0))), none⟩,
        ⟨(some 10), (.op (.bin .shr none (.tmp 9) (.cst (.int .u64 16)))), none⟩,
        ⟨(some 0), (.op (.mv (.tmp 10))), none⟩] [])
      (.region [
        ⟨(some 11), (.op (.mv (.tmp 2))), none⟩,
        ⟨(some 12), (.op (.bin .add none (.tmp 11) (.cst (.int .i64 16)))), none⟩,
        ⟨(some 2), (.op (.mv (.tmp 12))), none⟩] []))
      .skip))
    (.seq (.seq (.region [
      ⟨(some 13), (.op (.mv (.tmp 0))), none⟩,
      ⟨(some 14), (.op (.bin .geq none (.tmp 13) (.cst (.int .u64 256)))), none⟩] [])
    (.cond (.tmp 14)
      (.seq (.region [
        ⟨(some 15), (.op (.mv (.tmp 0))), none⟩,
        ⟨(some 16), (.op (.bin .shr none (.tmp 15) (.cst (.int .u64 8)))), none⟩,
        ⟨(some 0), (.op (.mv (.tmp 16))), none⟩] [])
      (.region [
        ⟨(some 17), (.op (.mv (.tmp 2))), none⟩,
        ⟨(some 18), (.op (.bin .add none (.tmp 17) (.cst (.int .i64 8)))), none⟩,
        ⟨(some 2), (.op (.mv (.tmp 18))), none⟩] []))
      .skip))
    (.seq (.region [
      ⟨(some 19), (.op (.mv (.tmp 2))), none⟩,
      ⟨(some 20), (.op (.mv (.tmp 0))), none⟩,
      ⟨(some 21), (.op (.cInt .u8 (.tmp 20))), none⟩,
      ⟨(some 22), (.op (.idxStr (.cst (.str [0, 1, 2, 2, 3, 3, 3, 3, 4, 4, 4, 4, 4, 4, 4, 4, 5, 5, 5, 5, 5, 5, 5, 5, 5, 5, 5, 5, 5, 5, 5, 5, 6, 6, 6, 6, 6, 6, 6, 6, 6, 6, 6, 6, 6, 6, 6, 6, 6, 6, 6, 6, 6, 6, 6, 6, 6, 6, 6, 6, 6, 6, 6, 6, 7, 7, 7, 7, 7, 7, 7, 7, 7, 7, 7, 7, 7, 7, 7, 7, 7, 7, 7, 7, 7, 7, 7, 7, 7, 7, 7, 7, 7, 7, 7, 7, 7, 7, 7, 7, 7, 7, 7, 7, 7, 7, 7, 7, 7, 7, 7, 7, 7, 7, 7, 7, 7, 7, 7, 7, 7, 7, 7, 7, 7, 7, 7, 7, 8, 8, 8, 8, 8, 8, 8, 8, 8, 8, 8, 8, 8, 8, 8, 8, 8, 8, 8, 8, 8, 8, 8, 8, 8, 8, 8, 8, 8, 8, 8, 8, 8, 8, 8, 8, 8, 8, 8, 8, 8, 8, 8, 8, 8, 8, 8, 8, 8, 8, 8, 8, 8, 8, 8, 8, 8, 8, 8, 8, 8, 8, 8, 8, 8, 8, 8, 8, 8, 8, 8, 8, 8, 8, 8, 8, 8, 8, 8, 8, 8, 8, 8, 8, 8, 8, 8, 8, 8, 8, 8, 8, 8, 8, 8, 8, 8, 8, 8, 8, 8, 8, 8, 8, 8, 8, 8, 8, 8, 8, 8, 8, 8, 8, 8, 8, 8, 8, 8, 8, 8, 8, 8, 8, 8, 8, 8, 8])) (.tmp 21))), none⟩,
      ⟨(some 23), (.op (.cInt .i64 (.tmp 22))), none⟩,
      ⟨(some 24), (.op (.bin .add none (.tmp 19) (.tmp 23))), none⟩,
      ⟨(some 2), (.op (.mv (.tmp 24))), none⟩] [])
    .ret)))))⟩
theorem c80 : cFn Tryd.prog [] Tryd.f80 = some h80 := by kernel_rfl
/-- internal/strconv.bool2[int] -/
def h81 : HFn :=
  ⟨4, [(.tmp 2)],
    (.seq (.region [
      ⟨(some 2), (.op (.mv (.cst (.int .i64 0)))), none⟩] [])
    (.seq (.seq (.region [
      ⟨(some 3), (.op (.mv (.tmp 0))), none⟩] [])
    (.cond (.tmp 3)
      (.seq (.region [
        ⟨(some 2), (.op (.mv (.cst (.int .i64 1)))), none⟩] [])
      .ret)
      .skip))
    (.seq (.region [
      ⟨(some 2), (.op (.mv (.cst (.int .i64 0)))), none⟩] [])
    .ret)))⟩
theorem c81 : cFn Tryd.prog [] Tryd.f81 = some h81 := by kernel_rfl
/-- internal/strconv.isPowerOfTwo -/
def h82 : HFn :=
  ⟨8, [(.tmp 2)],
    (.seq (.region [
      ⟨(some 2), (.op (.mv (.cst (.bool false)))), none⟩] [])
    (.seq (.region [
      ⟨(some 3), (.op (.mv (.tmp 0))), none⟩,
      ⟨(some 4), (.op (.mv (.tmp 0))), none⟩,
      ⟨(some 5), (.op (.bin .sub none (.tmp 4) (.cst (.int .i64 1)))), none⟩,
      ⟨(some 6), (.op (.bin .and none (.tmp 3) (.tmp 5))), none⟩,
      ⟨(some 7), (.op (.bin .eql (some .int) (.tmp 6) (.cst (.int .i64 0)))), none⟩,
      ⟨(some 2), (.op (.mv (.tmp 7))), none⟩] [])
    .ret))⟩
theorem c82 : cFn Tryd.prog [] Tryd.f82 = some h82 := by kernel_rfl
/-- math/bits.TrailingZeros -/
def h83 : HFn :=
  ⟨8, [(.tmp 2)],
    (.seq (.region [
      ⟨(some 2), (.op (.mv (.cst (.int .i64 0)))), none⟩] [])
    (.seq (.cond (.cst (.bool false))
      (.seq (.region [
        ⟨(some 3), (.op (.mv (.tmp 0))), none⟩,
        ⟨(some 4), (.op (.cInt .u32 (.tmp 3))), none⟩,
        ⟨(some 5), (.call (.cst (.func (.func 84) [] [])) [(.tmp 4)]), none⟩,
        ⟨(some 2), (.op (.mv (.tmp 5))), none⟩] [])
      .ret)
      .skip)
    (.seq (.region [
      ⟨(some 6), (.op (.mv (.tmp 0))), none⟩,
      ⟨(some 7), (.call (.cst (.func (.func 85) [] [])) [(.tmp 6)]), none⟩,
      ⟨(some 2), (.op (.mv (.tmp 7))), none⟩] [])
    .ret)))⟩
theorem c83 : cFn Tryd.prog [] Tryd.f83 = some h83 := by kernel_rfl
/-- math/bits.TrailingZeros32 -/
def h84 : HFn :=
  ⟨14, [(.tmp 2)],
    (.seq (.region [
      ⟨(some 2), (.op (.mv (.cst (.int .i64 0)))), none⟩] [])
    (.seq (.seq (.region [
      ⟨(some 3), (.op (.mv (.tmp 0))), none⟩,
      ⟨(some 4), (.op (.bin .eql (some .int) (.tmp 3) (.cst (.int .u32 0)))), none⟩] [])
    (.cond (.tmp 4)
      (.seq (.region [
        ⟨(some 2), (.op (.mv (.cst (.int .i64 32)))), none⟩] [])
      .ret)
      .skip))
    (.seq (.region [
      ⟨(some 5), (.op (.mv (.tmp 0))), none⟩,
      ⟨(some 6), (.op (.mv (.tmp 0))), none⟩,
      ⟨(some 7), (.op (.un .neg (.tmp 6))), none⟩,
      ⟨(some 8), (.op (.bin .and none (.tmp 5) (.tmp 7))), none⟩,
      ⟨(some 9), (.op (.bin .mul none (.tmp 8) (.cst (.int .u32 125613361)))), none⟩,
      ⟨(some 10), (.op (.bin .shr none (.tmp 9) (.cst (.int .u64 27)))), none⟩,
      ⟨(some 11), (.op (.gidxA 32 1 2 (.tmp 10))), none⟩,
      ⟨(some 12), (.op (.load none (.tmp 11))), none⟩,
      ⟨(some 13), (.op (.cInt .i64 (.tmp 12))), none⟩,
      ⟨(some 2), (.op (.mv (.tmp 13))), none⟩] [])
    .ret)))⟩
theorem c84 : cFn Tryd.prog [] Tryd.f84 = some h84 := by kernel_rfl
/-- math/bits.TrailingZeros64 -/
def h85 : HFn :=
  ⟨14, [(.tmp 2)],
    (.seq (.region [
      ⟨(some 2), (.op (.mv (.cst (.int .i64 0)))), none⟩] [])
    (.seq (.seq (.region [
      ⟨(some 3), (.op (.mv (.tmp 0))), none⟩,
      ⟨(some 4), (.op (.bin .eql (some .int) (.tmp 3) (.cst (.int .u64 0)))), none⟩] [])
    (.cond (.tmp 4)
      (.seq (.region [
        ⟨(some 2), (.op (.mv (.cst (.int .i64 64)))), none⟩] [])
      .ret)
      .skip))
    (.seq (.region [
      ⟨(some 5), (.op (.mv (.tmp 0))), none⟩,
      ⟨(some 6), (.op (.mv (.tmp 0))), none⟩,
      ⟨(some 7), (.op (.un .neg (.tmp 6))), none⟩,
      ⟨(some 8), (.op (.bin .and none (.tmp 5) (.tmp 7))), none⟩,
      ⟨(some 9), (.op (.bin .mul none (.tmp 8) (.cst (.int .u64 285870213051353865)))), none⟩,
      ⟨(some 10), (.op (.bin .shr none (.tmp 9) (.cst (.int .u64 58)))), none⟩,
      ⟨(some 11), (.op (.gidxA 64 1 3 (.tmp 10))), none⟩,
      ⟨(some 12), (.op (.load none (.tmp 11))), none⟩,
      ⟨(some 13), (.op (.cInt .i64 (.tmp 12))), none⟩,
      ⟨(some 2), (.op (.mv (.tmp 13))), none⟩] [])
    .ret)))⟩
theorem c85 : cFn Tryd.prog [] Tryd.f85 = some h85 := by kernel_rfl
def F : FuncId → Option HFn
  | 9 => some h9
  | 11 => some h11
  | 12 => some h12
  | 21 => some h21
  | 22 => some h22
  | 23 => some h23
  | 25 => some h25
  | 35 => some h35
  | 36 => some h36
  | 37 => some h37
  | 38 => some h38
  | 46 => some h46
  | 47 => some h47
  | 52 => some h52
  | 53 => some h53
  | 57 => some h57
  | 59 => some h59
  | 60 => some h60
  | 61 => some h61
  | 62 => some h62
  | 63 => some h63
  | 64 => some h64
  | 68 => some h68
  | 69 => some h69
  | 74 => some h74
  | 75 => some h75
  | 76 => some h76
  | 77 => some h77
  | 79 => some h79
  | 80 => some h80
  | 81 => some h81
  | 82 => some h82
  | 83 => some h83
  | 84 => some h84
  | 85 => some h85
  | _ => none
theorem F_ok : FOk Tryd.prog F := by
  intro f hf h
  unfold F at h
  split at h
  · simp at h; subst h; exact ⟨_, [], Tryd.func9, c9⟩
  · simp at h; subst h; exact ⟨_, [], Tryd.func11, c11⟩
  · simp at h; subst h; exact ⟨_, [], Tryd.func12, c12⟩
  · simp at h; subst h; exact ⟨_, [], Tryd.func21, c21⟩
  · simp at h; subst h; exact ⟨_, [], Tryd.func22, c22⟩
  · simp at h; subst h; exact ⟨_, [], Tryd.func23, c23⟩
  · simp at h; subst h; exact ⟨_, [], Tryd.func25, c25⟩
  · simp at h; subst h; exact ⟨_, [], Tryd.func35, c35⟩
  · simp at h; subst h; exact ⟨_, [], Tryd.func36, c36⟩
  · simp at h; subst h; exact ⟨_, [], Tryd.func37, c37⟩
  · simp at h; subst h; exact ⟨_, [], Tryd.func38, c38⟩
  · simp at h; subst h; exact ⟨_, [], Tryd.func46, c46⟩
  · simp at h; subst h; exact ⟨_, [], Tryd.func47, c47⟩
  · simp at h; subst h; exact ⟨_, [], Tryd.func52, c52⟩
  · simp at h; subst h; exact ⟨_, [], Tryd.func53, c53⟩
  · simp at h; subst h; exact ⟨_, [], Tryd.func57, c57⟩
  · simp at h; subst h; exact ⟨_, [], Tryd.func59, c59⟩
  · simp at h; subst h; exact ⟨_, [], Tryd.func60, c60⟩
  · simp at h; subst h; exact ⟨_, [], Tryd.func61, c61⟩
  · simp at h; subst h; exact ⟨_, [], Tryd.func62, c62⟩
  · simp at h; subst h; exact ⟨_, [], Tryd.func63, c63⟩
  · simp at h; subst h; exact ⟨_, [], Tryd.func64, c64⟩
  · simp at h; subst h; exact ⟨_, [], Tryd.func68, c68⟩
  · simp at h; subst h; exact ⟨_, [], Tryd.func69, c69⟩
  · simp at h; subst h; exact ⟨_, [], Tryd.func74, c74⟩
  · simp at h; subst h; exact ⟨_, [], Tryd.func75, c75⟩
  · simp at h; subst h; exact ⟨_, [], Tryd.func76, c76⟩
  · simp at h; subst h; exact ⟨_, [], Tryd.func77, c77⟩
  · simp at h; subst h; exact ⟨_, [], Tryd.func79, c79⟩
  · simp at h; subst h; exact ⟨_, [], Tryd.func80, c80⟩
  · simp at h; subst h; exact ⟨_, [], Tryd.func81, c81⟩
  · simp at h; subst h; exact ⟨_, [], Tryd.func82, c82⟩
  · simp at h; subst h; exact ⟨_, [], Tryd.func83, c83⟩
  · simp at h; subst h; exact ⟨_, [], Tryd.func84, c84⟩
  · simp at h; subst h; exact ⟨_, [], Tryd.func85, c85⟩
  · simp at h
end S
end Go.Proofs.YthihchoccpnfeaaDoor
