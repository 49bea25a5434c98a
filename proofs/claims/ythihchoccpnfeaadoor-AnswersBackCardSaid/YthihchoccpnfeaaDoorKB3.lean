/-
  Proved: the law AnswersBack (stintlaw08) returns true at every list of replies, every cuts (the tied card). No condition.
  the document's examples, in any memory.
  AnswersBack: what the law comes to.
-/
import Derived.Test.YthihchoccpnfeaaDoorKB2
import Derived.Test.YthihchoccpnfeaaDoorKBHLRound
import Derived.Test.YthihchoccpnfeaaDoorProg
import Derived.KernelRfl
import Derived.Test.YthihchoccpnfeaaDoorKBHLShape
/- The functions, turned (written by program, each checked by the kernel). -/
namespace Go.Proofs.YthihchoccpnfeaaDoor
open Go Go.HL
namespace S
/-- stint/stintlaw08.shown -/
def h9 : HFn :=
  ⟨88, [(.tmp 0)],
    (.seq (.region [
      ⟨(some 0), (.op (.mv (.cst (.bool false)))), none⟩] [])
    (.seq (.region [
      ⟨(some 13), (.op (.bslice 1 2 [(.int .u8 0), (.int .u8 0)] [(0, 1, (.cst (.int .u8 97))), (1, 1, (.cst (.int .u8 98)))])), none⟩,
      ⟨(some 14), (.op (.build [(.int .i64 0), (.int .i64 0), (.int .i64 0), (.str []), .nilSlice] [(0, 1, (.cst (.int .i64 3))), (1, 1, (.cst (.int .i64 7))), (4, 1, (.tmp 13))])), none⟩,
      ⟨(some 15), (.call (.cst (.func (.func 12) [] [])) [(.tmp 14)]), none⟩,
      ⟨(some 12), (.op (.mv (.tmp 15))), none⟩,
      ⟨(some 16), (.op (.ext 0 (.tmp 12))), none⟩,
      ⟨(some 17), (.op (.ext 1 (.tmp 12))), none⟩,
      ⟨(some 1), (.op (.mv (.tmp 16))), none⟩,
      ⟨(some 2), (.op (.mv (.tmp 17))), none⟩] [])
    (.seq (.region [
      ⟨(some 19), (.op (.build [(.int .i64 0), (.int .i64 0), (.int .i64 0), (.str []), .nilSlice] [(0, 1, (.cst (.int .i64 14)))])), none⟩,
      ⟨(some 20), (.call (.cst (.func (.func 12) [] [])) [(.tmp 19)]), none⟩,
      ⟨(some 18), (.op (.mv (.tmp 20))), none⟩,
      ⟨(some 21), (.op (.ext 0 (.tmp 18))), none⟩,
      ⟨(some 22), (.op (.ext 1 (.tmp 18))), none⟩,
      ⟨(some 3), (.op (.mv (.tmp 21))), none⟩,
      ⟨(some 4), (.op (.mv (.tmp 22))), none⟩] [])
    (.seq (.region [
      ⟨(some 23), (.call (.cst (.func (.func 21) [] [])) []), none⟩,
      ⟨(some 5), (.op (.mv (.tmp 23))), none⟩] [])
    (.seq (.seq (.region [
      ⟨(some 24), (.op (.mv (.tmp 5))), none⟩,
      ⟨(some 25), (.op (.bin .eql (some .ptrN) (.tmp 24) (.cst .nilPtr))), none⟩,
      ⟨(some 26), (.op (.mv (.tmp 25))), none⟩,
      ⟨(some 27), (.op (.mv (.tmp 2))), (some (26, false))⟩,
      ⟨(some 28), (.op (.bin .neq (some .int) (.tmp 27) (.cst (.int .i64 0)))), (some (26, false))⟩,
      ⟨(some 29), (.op (.pick (.tmp 26) (.cst (.bool true)) (.tmp 28))), none⟩,
      ⟨(some 30), (.op (.mv (.tmp 29))), none⟩,
      ⟨(some 31), (.op (.mv (.tmp 4))), (some (30, false))⟩,
      ⟨(some 32), (.op (.bin .neq (some .int) (.tmp 31) (.cst (.int .i64 0)))), (some (30, false))⟩,
      ⟨(some 33), (.op (.pick (.tmp 30) (.cst (.bool true)) (.tmp 32))), none⟩] [])
    (.cond (.tmp 33)
      (.seq (.region [
        ⟨(some 0), (.op (.mv (.cst (.bool false)))), none⟩] [])
      .ret)
      .skip))
    (.seq (.region [
      ⟨(some 34), (.op (.mv (.tmp 5))), none⟩,
      ⟨(some 35), (.op (.bslice 1 14 [(.int .u8 0), (.int .u8 0), (.int .u8 0), (.int .u8 0), (.int .u8 0), (.int .u8 0), (.int .u8 0), (.int .u8 0), (.int .u8 0), (.int .u8 0), (.int .u8 0), (.int .u8 0), (.int .u8 0), (.int .u8 0)] [(0, 1, (.cst (.int .u8 75))), (1, 1, (.cst (.int .u8 73))), (2, 1, (.cst (.int .u8 67))), (3, 1, (.cst (.int .u8 75))), (4, 1, (.cst (.int .u8 69))), (5, 1, (.cst (.int .u8 68))), (6, 1, (.cst (.int .u8 32))), (7, 1, (.cst (.int .u8 49))), (8, 1, (.cst (.int .u8 50))), (9, 1, (.cst (.int .u8 13))), (10, 1, (.cst (.int .u8 10))), (11, 1, (.cst (.int .u8 75))), (12, 1, (.cst (.int .u8 73))), (13, 1, (.cst (.int .u8 88)))])), none⟩,
      ⟨(some 36), (.op (.mark (.tmp 35))), none⟩,
      ⟨(some 37), (.call (.cst (.func (.func 22) [] [])) [(.tmp 34), (.tmp 36)]), none⟩] [])
    (.seq (.region [
      ⟨(some 39), (.op (.mv (.tmp 5))), none⟩,
      ⟨(some 40), (.call (.cst (.func (.func 23) [] [])) [(.tmp 39)]), none⟩,
      ⟨(some 38), (.op (.mv (.tmp 40))), none⟩,
      ⟨(some 41), (.op (.ext 0 (.tmp 38))), none⟩,
      ⟨(some 42), (.op (.ext 1 (.tmp 38))), none⟩,
      ⟨(some 43), (.op (.ext 2 (.tmp 38))), none⟩,
      ⟨(some 6), (.op (.box (.cst (.agg [(.int .i64 0), (.int .i64 0), (.int .i64 0), (.str []), .nilSlice])))), none⟩,
      ⟨none, (.op (.store 5 (.tmp 6) (.tmp 41))), none⟩,
      ⟨(some 7), (.op (.mv (.tmp 42))), none⟩,
      ⟨(some 8), (.op (.mv (.tmp 43))), none⟩] [])
    (.seq (.region [
      ⟨(some 45), (.op (.mv (.tmp 5))), none⟩,
      ⟨(some 46), (.call (.cst (.func (.func 23) [] [])) [(.tmp 45)]), none⟩,
      ⟨(some 44), (.op (.mv (.tmp 46))), none⟩,
      ⟨(some 47), (.op (.ext 0 (.tmp 44))), none⟩,
      ⟨(some 48), (.op (.ext 1 (.tmp 44))), none⟩,
      ⟨(some 49), (.op (.ext 2 (.tmp 44))), none⟩,
      ⟨(some 9), (.op (.box (.cst (.agg [(.int .i64 0), (.int .i64 0), (.int .i64 0), (.str []), .nilSlice])))), none⟩,
      ⟨none, (.op (.store 5 (.tmp 9) (.tmp 47))), none⟩,
      ⟨(some 10), (.op (.mv (.tmp 48))), none⟩,
      ⟨(some 11), (.op (.mv (.tmp 49))), none⟩] [])
    (.seq (.region [
      ⟨(some 50), (.op (.mv (.tmp 1))), none⟩,
      ⟨(some 51), (.op (.b2s (.tmp 50))), none⟩,
      ⟨(some 52), (.op (.bin .eql (some .str) (.tmp 51) (.cst (.str [82, 69, 83, 69, 82, 86, 69, 68, 32, 55, 32, 50, 13, 10, 97, 98, 13, 10])))), none⟩,
      ⟨(some 53), (.op (.mv (.tmp 52))), none⟩,
      ⟨(some 54), (.op (.mv (.tmp 3))), (some (53, true))⟩,
      ⟨(some 55), (.op (.b2s (.tmp 54))), (some (53, true))⟩,
      ⟨(some 56), (.op (.bin .eql (some .str) (.tmp 55) (.cst (.str [75, 73, 67, 75, 69, 68, 13, 10])))), (some (53, true))⟩,
      ⟨(some 57), (.op (.pick (.tmp 53) (.tmp 56) (.cst (.bool false)))), none⟩,
      ⟨(some 58), (.op (.mv (.tmp 57))), none⟩,
      ⟨(some 59), (.op (.mv (.tmp 7))), (some (58, true))⟩,
      ⟨(some 60), (.op (.pick (.tmp 58) (.tmp 59) (.cst (.bool false)))), none⟩,
      ⟨(some 61), (.op (.mv (.tmp 60))), none⟩,
      ⟨(some 62), (.op (.mv (.tmp 8))), (some (61, true))⟩,
      ⟨(some 63), (.op (.bin .eql (some .int) (.tmp 62) (.cst (.int .i64 0)))), (some (61, true))⟩,
      ⟨(some 64), (.op (.pick (.tmp 61) (.tmp 63) (.cst (.bool false)))), none⟩,
      ⟨(some 65), (.op (.mv (.tmp 64))), none⟩,
      ⟨(some 66), (.op (.faddr 0 (.tmp 6))), (some (65, true))⟩,
      ⟨(some 67), (.op (.load none (.tmp 66))), (some (65, true))⟩,
      ⟨(some 68), (.op (.bin .eql (some .int) (.tmp 67) (.cst (.int .i64 13)))), (some (65, true))⟩,
      ⟨(some 69), (.op (.pick (.tmp 65) (.tmp 68) (.cst (.bool false)))), none⟩,
      ⟨(some 70), (.op (.mv (.tmp 69))), none⟩,
      ⟨(some 71), (.op (.faddr 2 (.tmp 6))), (some (70, true))⟩,
      ⟨(some 72), (.op (.load none (.tmp 71))), (some (70, true))⟩,
      ⟨(some 73), (.op (.bin .eql (some .int) (.tmp 72) (.cst (.int .i64 12)))), (some (70, true))⟩,
      ⟨(some 74), (.op (.pick (.tmp 70) (.tmp 73) (.cst (.bool false)))), none⟩,
      ⟨(some 75), (.op (.mv (.tmp 74))), none⟩,
      ⟨(some 76), (.op (.mv (.tmp 10))), (some (75, true))⟩,
      ⟨(some 77), (.op (.un .not (.tmp 76))), (some (75, true))⟩,
      ⟨(some 78), (.op (.pick (.tmp 75) (.tmp 77) (.cst (.bool false)))), none⟩,
      ⟨(some 79), (.op (.mv (.tmp 78))), none⟩,
      ⟨(some 80), (.op (.mv (.tmp 11))), (some (79, true))⟩,
      ⟨(some 81), (.op (.bin .eql (some .int) (.tmp 80) (.cst (.int .i64 82)))), (some (79, true))⟩,
      ⟨(some 82), (.op (.pick (.tmp 79) (.tmp 81) (.cst (.bool false)))), none⟩,
      ⟨(some 83), (.op (.mv (.tmp 82))), none⟩,
      ⟨(some 84), (.op (.mv (.tmp 5))), (some (83, true))⟩,
      ⟨(some 85), (.call (.cst (.func (.func 25) [] [])) [(.tmp 84)]), (some (83, true))⟩,
      ⟨(some 86), (.op (.bin .eql (some .int) (.tmp 85) (.cst (.int .i64 3)))), (some (83, true))⟩,
      ⟨(some 87), (.op (.pick (.tmp 83) (.tmp 86) (.cst (.bool false)))), none⟩,
      ⟨(some 0), (.op (.mv (.tmp 87))), none⟩] [])
    .ret)))))))))⟩
theorem c9 : cFn Tryd.prog [] Tryd.f9 = some h9 := by kernel_rfl
/-- stint/answers.Check -/
def h11 : HFn :=
  ⟨93, [(.tmp 2)],
    (.seq (.region [
      ⟨(some 1), (.op (.box (.tmp 0))), none⟩,
      ⟨(some 2), (.op (.mv (.cst (.int .i64 0)))), none⟩] [])
    (.seq (.seq (.region [
      ⟨(some 7), (.op (.faddr 0 (.tmp 1))), none⟩,
      ⟨(some 8), (.op (.load none (.tmp 7))), none⟩,
      ⟨(some 9), (.call (.cst (.func (.func 35) [] [])) [(.tmp 8)]), none⟩,
      ⟨(some 10), (.op (.bin .eql (some .str) (.tmp 9) (.cst (.str [])))), none⟩] [])
    (.cond (.tmp 10)
      (.seq (.region [
        ⟨(some 2), (.op (.mv (.cst (.int .i64 80)))), none⟩] [])
      .ret)
      .skip))
    (.seq (.draw [
      ⟨(some 11), (.op (.faddr 1 (.tmp 1))), none⟩,
      ⟨(some 12), (.op (.load none (.tmp 11))), none⟩,
      ⟨(some 13), (.op (.bin .eql (some .int) (.tmp 12) (.cst (.int .i64 0)))), none⟩,
      ⟨(some 14), (.op (.faddr 2 (.tmp 1))), none⟩,
      ⟨(some 15), (.op (.load none (.tmp 14))), none⟩,
      ⟨(some 16), (.op (.bin .eql (some .int) (.tmp 15) (.cst (.int .i64 0)))), none⟩,
      ⟨(some 17), (.op (.faddr 3 (.tmp 1))), none⟩,
      ⟨(some 18), (.op (.load none (.tmp 17))), none⟩,
      ⟨(some 19), (.op (.bin .eql (some .str) (.tmp 18) (.cst (.str [])))), none⟩,
      ⟨(some 20), (.op (.faddr 4 (.tmp 1))), none⟩,
      ⟨(some 21), (.op (.load none (.tmp 20))), none⟩,
      ⟨(some 22), (.op (.len .slice (.tmp 21))), none⟩,
      ⟨(some 23), (.op (.bin .eql (some .int) (.tmp 22) (.cst (.int .i64 0)))), none⟩,
      ⟨(some 3), (.op (.mv (.tmp 13))), none⟩,
      ⟨(some 4), (.op (.mv (.tmp 16))), none⟩,
      ⟨(some 5), (.op (.mv (.tmp 19))), none⟩,
      ⟨(some 6), (.op (.mv (.tmp 23))), none⟩] [0, 1, 2, 3, 4, 5, 6, 7, 8, 9, 10, 11, 12, 13, 14, 15, 16] [[], [], [], [], [], [], [], [], [], [], [], [], [], [], [], [], []] [])
    (.seq (.seq (.region [
      ⟨(some 24), (.op (.faddr 0 (.tmp 1))), none⟩,
      ⟨(some 25), (.op (.load none (.tmp 24))), none⟩] [])
    (.block 0
      (.seq (.seq (.region [
        ⟨(some 27), (.op (.bin .eql (some .int) (.tmp 25) (.cst (.int .i64 3)))), none⟩,
        ⟨(some 26), (.op (.mv (.tmp 27))), none⟩] [])
      (.cond (.tmp 26)
        .skip
        (.region [
          ⟨(some 28), (.op (.bin .eql (some .int) (.tmp 25) (.cst (.int .i64 12)))), none⟩,
          ⟨(some 26), (.op (.mv (.tmp 28))), none⟩] [])))
      (.cond (.tmp 26)
        (.draw [
          ⟨(some 29), (.op (.faddr 1 (.tmp 1))), none⟩,
          ⟨(some 30), (.op (.load none (.tmp 29))), none⟩,
          ⟨(some 31), (.op (.bin .geq none (.tmp 30) (.cst (.int .i64 1)))), none⟩,
          ⟨(some 32), (.op (.mv (.tmp 31))), none⟩,
          ⟨(some 33), (.op (.faddr 1 (.tmp 1))), (some (32, true))⟩,
          ⟨(some 34), (.op (.load none (.tmp 33))), (some (32, true))⟩,
          ⟨(some 35), (.op (.bin .leq none (.tmp 34) (.cst (.int .i64 1099511627776)))), (some (32, true))⟩,
          ⟨(some 36), (.op (.pick (.tmp 32) (.tmp 35) (.cst (.bool false)))), none⟩,
          ⟨(some 37), (.op (.faddr 4 (.tmp 1))), none⟩,
          ⟨(some 38), (.op (.load none (.tmp 37))), none⟩,
          ⟨(some 39), (.op (.len .slice (.tmp 38))), none⟩,
          ⟨(some 40), (.op (.faddr 0 (.tmp 1))), none⟩,
          ⟨(some 41), (.op (.load none (.tmp 40))), none⟩,
          ⟨(some 42), (.call (.cst (.func (.func 36) [] [])) [(.tmp 41)]), none⟩,
          ⟨(some 43), (.op (.bin .leq none (.tmp 39) (.tmp 42))), none⟩,
          ⟨(some 3), (.op (.mv (.tmp 36))), none⟩,
          ⟨(some 6), (.op (.mv (.tmp 43))), none⟩] [0, 1, 2, 3, 4, 5, 6, 7, 8, 9, 10, 11, 12, 13, 14, 15, 16] [[], [], [], [], [], [], [], [], [], [], [], [], [], [12, 1], [], [], []] [])
        (.seq (.region [
          ⟨(some 45), (.op (.bin .eql (some .int) (.tmp 25) (.cst (.int .i64 16)))), none⟩,
          ⟨(some 44), (.op (.mv (.tmp 45))), none⟩] [])
        (.cond (.tmp 44)
          (.draw [
            ⟨(some 46), (.op (.faddr 4 (.tmp 1))), none⟩,
            ⟨(some 47), (.op (.load none (.tmp 46))), none⟩,
            ⟨(some 48), (.op (.len .slice (.tmp 47))), none⟩,
            ⟨(some 49), (.op (.faddr 0 (.tmp 1))), none⟩,
            ⟨(some 50), (.op (.load none (.tmp 49))), none⟩,
            ⟨(some 51), (.call (.cst (.func (.func 36) [] [])) [(.tmp 50)]), none⟩,
            ⟨(some 52), (.op (.bin .leq none (.tmp 48) (.tmp 51))), none⟩,
            ⟨(some 6), (.op (.mv (.tmp 52))), none⟩] [0, 1, 2, 3, 4, 5, 6, 7] [[], [], [], [], [], [4], [], []] [])
          (.seq (.region [
            ⟨(some 54), (.op (.bin .eql (some .int) (.tmp 25) (.cst (.int .i64 1)))), none⟩,
            ⟨(some 53), (.op (.mv (.tmp 54))), none⟩] [])
          (.cond (.tmp 53)
            (.region [
              ⟨(some 55), (.op (.faddr 1 (.tmp 1))), none⟩,
              ⟨(some 56), (.op (.load none (.tmp 55))), none⟩,
              ⟨(some 57), (.op (.bin .geq none (.tmp 56) (.cst (.int .i64 1)))), none⟩,
              ⟨(some 58), (.op (.mv (.tmp 57))), none⟩,
              ⟨(some 59), (.op (.faddr 1 (.tmp 1))), (some (58, true))⟩,
              ⟨(some 60), (.op (.load none (.tmp 59))), (some (58, true))⟩,
              ⟨(some 61), (.op (.bin .leq none (.tmp 60) (.cst (.int .i64 1099511627776)))), (some (58, true))⟩,
              ⟨(some 62), (.op (.pick (.tmp 58) (.tmp 61) (.cst (.bool false)))), none⟩,
              ⟨(some 3), (.op (.mv (.tmp 62))), none⟩] [])
            (.seq (.region [
              ⟨(some 64), (.op (.bin .eql (some .int) (.tmp 25) (.cst (.int .i64 2)))), none⟩,
              ⟨(some 63), (.op (.mv (.tmp 64))), none⟩] [])
            (.cond (.tmp 63)
              (.region [
                ⟨(some 65), (.op (.faddr 3 (.tmp 1))), none⟩,
                ⟨(some 66), (.op (.load none (.tmp 65))), none⟩,
                ⟨(some 67), (.call (.cst (.func (.func 37) [] [])) [(.tmp 66)]), none⟩,
                ⟨(some 5), (.op (.mv (.tmp 67))), none⟩] [])
              (.seq (.seq (.region [
                ⟨(some 69), (.op (.bin .eql (some .int) (.tmp 25) (.cst (.int .i64 10)))), none⟩,
                ⟨(some 68), (.op (.mv (.tmp 69))), none⟩] [])
              (.cond (.tmp 68)
                .skip
                (.region [
                  ⟨(some 70), (.op (.bin .eql (some .int) (.tmp 25) (.cst (.int .i64 13)))), none⟩,
                  ⟨(some 68), (.op (.mv (.tmp 70))), none⟩] [])))
              (.cond (.tmp 68)
                (.region [
                  ⟨(some 71), (.op (.faddr 2 (.tmp 1))), none⟩,
                  ⟨(some 72), (.op (.load none (.tmp 71))), none⟩,
                  ⟨(some 73), (.op (.bin .geq none (.tmp 72) (.cst (.int .i64 0)))), none⟩,
                  ⟨(some 74), (.op (.mv (.tmp 73))), none⟩,
                  ⟨(some 75), (.op (.faddr 2 (.tmp 1))), (some (74, true))⟩,
                  ⟨(some 76), (.op (.load none (.tmp 75))), (some (74, true))⟩,
                  ⟨(some 77), (.op (.bin .leq none (.tmp 76) (.cst (.int .i64 4294967295)))), (some (74, true))⟩,
                  ⟨(some 78), (.op (.pick (.tmp 74) (.tmp 77) (.cst (.bool false)))), none⟩,
                  ⟨(some 4), (.op (.mv (.tmp 78))), none⟩] [])
                .skip))))))))))))
    (.seq (.seq (.region [
      ⟨(some 79), (.op (.mv (.tmp 3))), none⟩,
      ⟨(some 80), (.op (.un .not (.tmp 79))), none⟩,
      ⟨(some 81), (.op (.mv (.tmp 80))), none⟩,
      ⟨(some 82), (.op (.mv (.tmp 4))), (some (81, false))⟩,
      ⟨(some 83), (.op (.un .not (.tmp 82))), (some (81, false))⟩,
      ⟨(some 84), (.op (.pick (.tmp 81) (.cst (.bool true)) (.tmp 83))), none⟩,
      ⟨(some 85), (.op (.mv (.tmp 84))), none⟩,
      ⟨(some 86), (.op (.mv (.tmp 5))), (some (85, false))⟩,
      ⟨(some 87), (.op (.un .not (.tmp 86))), (some (85, false))⟩,
      ⟨(some 88), (.op (.pick (.tmp 85) (.cst (.bool true)) (.tmp 87))), none⟩,
      ⟨(some 89), (.op (.mv (.tmp 88))), none⟩,
      ⟨(some 90), (.op (.mv (.tmp 6))), (some (89, false))⟩,
      ⟨(some 91), (.op (.un .not (.tmp 90))), (some (89, false))⟩,
      ⟨(some 92), (.op (.pick (.tmp 89) (.cst (.bool true)) (.tmp 91))), none⟩] [])
    (.cond (.tmp 92)
      (.seq (.region [
        ⟨(some 2), (.op (.mv (.cst (.int .i64 81)))), none⟩] [])
      .ret)
      .skip))
    (.seq (.region [
      ⟨(some 2), (.op (.mv (.cst (.int .i64 0)))), none⟩] [])
    .ret))))))⟩
theorem c11 : cFn Tryd.prog [] Tryd.f11 = some h11 := by kernel_rfl
/-- stint/answers.Put -/
def h12 : HFn :=
  ⟨66, [(.tmp 2), (.tmp 3)],
    (.seq (.region [
      ⟨(some 1), (.op (.box (.tmp 0))), none⟩,
      ⟨(some 2), (.op (.mv (.cst .nilSlice))), none⟩,
      ⟨(some 3), (.op (.mv (.cst (.int .i64 0)))), none⟩] [])
    (.seq (.seq (.region [
      ⟨(some 6), (.op (.load (some 5) (.tmp 1))), none⟩,
      ⟨(some 7), (.call (.cst (.func (.func 11) [] [])) [(.tmp 6)]), none⟩,
      ⟨(some 4), (.op (.mv (.tmp 7))), none⟩] [])
    (.seq (.region [
      ⟨(some 8), (.op (.mv (.tmp 4))), none⟩,
      ⟨(some 9), (.op (.bin .neq (some .int) (.tmp 8) (.cst (.int .i64 0)))), none⟩] [])
    (.cond (.tmp 9)
      (.seq (.region [
        ⟨(some 10), (.op (.mv (.tmp 4))), none⟩,
        ⟨(some 2), (.op (.mv (.cst .nilSlice))), none⟩,
        ⟨(some 3), (.op (.mv (.tmp 10))), none⟩] [])
      .ret)
      .skip)))
    (.seq (.region [
      ⟨(some 11), (.op (.faddr 0 (.tmp 1))), none⟩,
      ⟨(some 12), (.op (.load none (.tmp 11))), none⟩,
      ⟨(some 13), (.call (.cst (.func (.func 35) [] [])) [(.tmp 12)]), none⟩,
      ⟨(some 14), (.op (.s2b (.tmp 13))), none⟩,
      ⟨(some 5), (.op (.mv (.tmp 14))), none⟩] [])
    (.seq (.seq (.region [
      ⟨(some 15), (.op (.faddr 0 (.tmp 1))), none⟩,
      ⟨(some 16), (.op (.load none (.tmp 15))), none⟩] [])
    (.block 0
      (.seq (.block 5
        (.seq (.block 4
          (.seq (.block 3
            (.seq (.block 2
              (.seq (.block 1
                (.seq (.seq (.seq (.seq (.region [
                  ⟨(some 18), (.op (.bin .eql (some .int) (.tmp 16) (.cst (.int .i64 3)))), none⟩,
                  ⟨(some 17), (.op (.mv (.tmp 18))), none⟩] [])
                (.cond (.tmp 17)
                  .skip
                  (.region [
                    ⟨(some 19), (.op (.bin .eql (some .int) (.tmp 16) (.cst (.int .i64 12)))), none⟩,
                    ⟨(some 17), (.op (.mv (.tmp 19))), none⟩] [])))
                (.cond (.tmp 17)
                  (.exit 1)
                  .skip))
                (.seq (.seq (.region [
                  ⟨(some 21), (.op (.bin .eql (some .int) (.tmp 16) (.cst (.int .i64 16)))), none⟩,
                  ⟨(some 20), (.op (.mv (.tmp 21))), none⟩] [])
                (.cond (.tmp 20)
                  (.exit 2)
                  .skip))
                (.seq (.seq (.region [
                  ⟨(some 23), (.op (.bin .eql (some .int) (.tmp 16) (.cst (.int .i64 1)))), none⟩,
                  ⟨(some 22), (.op (.mv (.tmp 23))), none⟩] [])
                (.cond (.tmp 22)
                  (.exit 3)
                  .skip))
                (.seq (.seq (.region [
                  ⟨(some 25), (.op (.bin .eql (some .int) (.tmp 16) (.cst (.int .i64 2)))), none⟩,
                  ⟨(some 24), (.op (.mv (.tmp 25))), none⟩] [])
                (.cond (.tmp 24)
                  (.exit 4)
                  .skip))
                (.seq (.seq (.region [
                  ⟨(some 27), (.op (.bin .eql (some .int) (.tmp 16) (.cst (.int .i64 10)))), none⟩,
                  ⟨(some 26), (.op (.mv (.tmp 27))), none⟩] [])
                (.cond (.tmp 26)
                  .skip
                  (.region [
                    ⟨(some 28), (.op (.bin .eql (some .int) (.tmp 16) (.cst (.int .i64 13)))), none⟩,
                    ⟨(some 26), (.op (.mv (.tmp 28))), none⟩] [])))
                (.cond (.tmp 26)
                  (.exit 5)
                  .skip))))))
                (.exit 0)))
              (.region [
                ⟨(some 29), (.op (.mv (.tmp 5))), none⟩,
                ⟨(some 30), (.op (.faddr 1 (.tmp 1))), none⟩,
                ⟨(some 31), (.op (.load none (.tmp 30))), none⟩,
                ⟨(some 32), (.call (.cst (.func (.func 38) [] [])) [(.tmp 31)]), none⟩,
                ⟨(some 33), (.op (.bin .add none (.cst (.str [32])) (.tmp 32))), none⟩,
                ⟨(some 34), (.op (.append 1 1 (.tmp 29) (.tmp 33))), none⟩,
                ⟨(some 5), (.op (.mv (.tmp 34))), none⟩] [])))
            (.seq (.seq (.region [
              ⟨(some 35), (.op (.mv (.tmp 5))), none⟩,
              ⟨(some 36), (.op (.faddr 4 (.tmp 1))), none⟩,
              ⟨(some 37), (.op (.load none (.tmp 36))), none⟩,
              ⟨(some 38), (.op (.len .slice (.tmp 37))), none⟩,
              ⟨(some 39), (.call (.cst (.func (.func 38) [] [])) [(.tmp 38)]), none⟩,
              ⟨(some 40), (.op (.bin .add none (.cst (.str [32])) (.tmp 39))), none⟩,
              ⟨(some 41), (.op (.bin .add none (.tmp 40) (.cst (.str [13, 10])))), none⟩,
              ⟨(some 42), (.op (.append 1 1 (.tmp 35) (.tmp 41))), none⟩,
              ⟨(some 5), (.op (.mv (.tmp 42))), none⟩] [])
            (.region [
              ⟨(some 43), (.op (.mv (.tmp 5))), none⟩,
              ⟨(some 44), (.op (.faddr 4 (.tmp 1))), none⟩,
              ⟨(some 45), (.op (.load none (.tmp 44))), none⟩,
              ⟨(some 46), (.op (.append 1 1 (.tmp 43) (.tmp 45))), none⟩,
              ⟨(some 5), (.op (.mv (.tmp 46))), none⟩] []))
            (.exit 0))))
          (.seq (.region [
            ⟨(some 47), (.op (.mv (.tmp 5))), none⟩,
            ⟨(some 48), (.op (.faddr 1 (.tmp 1))), none⟩,
            ⟨(some 49), (.op (.load none (.tmp 48))), none⟩,
            ⟨(some 50), (.call (.cst (.func (.func 38) [] [])) [(.tmp 49)]), none⟩,
            ⟨(some 51), (.op (.bin .add none (.cst (.str [32])) (.tmp 50))), none⟩,
            ⟨(some 52), (.op (.append 1 1 (.tmp 47) (.tmp 51))), none⟩,
            ⟨(some 5), (.op (.mv (.tmp 52))), none⟩] [])
          (.exit 0))))
        (.seq (.region [
          ⟨(some 53), (.op (.mv (.tmp 5))), none⟩,
          ⟨(some 54), (.op (.faddr 3 (.tmp 1))), none⟩,
          ⟨(some 55), (.op (.load none (.tmp 54))), none⟩,
          ⟨(some 56), (.op (.bin .add none (.cst (.str [32])) (.tmp 55))), none⟩,
          ⟨(some 57), (.op (.append 1 1 (.tmp 53) (.tmp 56))), none⟩,
          ⟨(some 5), (.op (.mv (.tmp 57))), none⟩] [])
        (.exit 0))))
      (.seq (.region [
        ⟨(some 58), (.op (.mv (.tmp 5))), none⟩,
        ⟨(some 59), (.op (.faddr 2 (.tmp 1))), none⟩,
        ⟨(some 60), (.op (.load none (.tmp 59))), none⟩,
        ⟨(some 61), (.call (.cst (.func (.func 38) [] [])) [(.tmp 60)]), none⟩,
        ⟨(some 62), (.op (.bin .add none (.cst (.str [32])) (.tmp 61))), none⟩,
        ⟨(some 63), (.op (.append 1 1 (.tmp 58) (.tmp 62))), none⟩,
        ⟨(some 5), (.op (.mv (.tmp 63))), none⟩] [])
      (.exit 0)))))
    (.seq (.region [
      ⟨(some 64), (.op (.mv (.tmp 5))), none⟩,
      ⟨(some 65), (.op (.append 1 1 (.tmp 64) (.cst (.str [13, 10])))), none⟩,
      ⟨(some 2), (.op (.mv (.tmp 65))), none⟩,
      ⟨(some 3), (.op (.mv (.cst (.int .i64 0)))), none⟩] [])
    .ret)))))⟩
theorem c12 : cFn Tryd.prog [] Tryd.f12 = some h12 := by kernel_rfl
/-- stint/answers.New -/
def h21 : HFn :=
  ⟨3, [(.tmp 0)],
    (.seq (.region [
      ⟨(some 0), (.op (.mv (.cst .nilPtr))), none⟩] [])
    (.seq (.region [
      ⟨(some 1), (.op (.build [.nilSlice, .nilSlice, (.bool false)] [])), none⟩,
      ⟨(some 2), (.op (.box (.tmp 1))), none⟩,
      ⟨(some 0), (.op (.mv (.tmp 2))), none⟩] [])
    .ret))⟩
theorem c21 : cFn Tryd.prog [] Tryd.f21 = some h21 := by kernel_rfl
/-- (*stint/answers.Reader).Feed -/
def h22 : HFn :=
  ⟨85, [],
    (.seq (.seq (.region [
      ⟨(some 8), (.op (.mv (.tmp 0))), none⟩,
      ⟨(some 9), (.op (.nilc (.tmp 8))), none⟩,
      ⟨(some 10), (.op (.faddr 2 (.tmp 9))), none⟩,
      ⟨(some 11), (.op (.load none (.tmp 10))), none⟩] [])
    (.cond (.tmp 11)
      .ret
      .skip))
    (.seq (.region [
      ⟨(some 12), (.op (.mv (.tmp 0))), none⟩,
      ⟨(some 13), (.op (.mv (.tmp 0))), none⟩,
      ⟨(some 14), (.op (.nilc (.tmp 13))), none⟩,
      ⟨(some 15), (.op (.faddr 1 (.tmp 14))), none⟩,
      ⟨(some 16), (.op (.load none (.tmp 15))), none⟩,
      ⟨(some 17), (.op (.mv (.tmp 1))), none⟩,
      ⟨(some 18), (.op (.append 1 1 (.tmp 16) (.tmp 17))), none⟩,
      ⟨(some 19), (.op (.nilc (.tmp 12))), none⟩,
      ⟨(some 20), (.op (.faddr 1 (.tmp 19))), none⟩,
      ⟨none, (.op (.store 1 (.tmp 20) (.tmp 18))), none⟩] [])
    (.seq (.region [
      ⟨(some 4), (.op (.mv (.cst (.int .i64 0)))), none⟩] [])
    (.seq (.block 0
      (.loop
        (.block 1
          (.seq (.region [
            ⟨(some 22), (.op (.mv (.tmp 0))), none⟩,
            ⟨(some 23), (.op (.nilc (.tmp 22))), none⟩,
            ⟨(some 24), (.op (.faddr 1 (.tmp 23))), none⟩,
            ⟨(some 25), (.op (.load none (.tmp 24))), none⟩,
            ⟨(some 26), (.op (.mv (.tmp 4))), none⟩,
            ⟨(some 27), (.op (.sliceSl 1 (.tmp 25) (some (.tmp 26)) none none)), none⟩,
            ⟨(some 28), (.call (.cst (.func (.func 46) [] [])) [(.tmp 27)]), none⟩,
            ⟨(some 21), (.op (.mv (.tmp 28))), none⟩,
            ⟨(some 29), (.op (.ext 0 (.tmp 21))), none⟩,
            ⟨(some 30), (.op (.ext 1 (.tmp 21))), none⟩,
            ⟨(some 31), (.op (.ext 2 (.tmp 21))), none⟩,
            ⟨(some 5), (.op (.box (.cst (.agg [(.int .i64 0), (.int .i64 0), (.int .i64 0), (.str []), .nilSlice])))), none⟩,
            ⟨none, (.op (.store 5 (.tmp 5) (.tmp 29))), none⟩,
            ⟨(some 6), (.op (.mv (.tmp 30))), none⟩,
            ⟨(some 7), (.op (.mv (.tmp 31))), none⟩] [])
          (.seq (.seq (.region [
            ⟨(some 32), (.op (.mv (.tmp 7))), none⟩,
            ⟨(some 33), (.op (.un .not (.tmp 32))), none⟩] [])
          (.cond (.tmp 33)
            (.seq (.seq (.region [
              ⟨(some 34), (.op (.mv (.tmp 4))), none⟩,
              ⟨(some 35), (.op (.mv (.tmp 6))), none⟩,
              ⟨(some 36), (.op (.bin .add none (.tmp 34) (.tmp 35))), none⟩,
              ⟨(some 37), (.op (.mv (.tmp 0))), none⟩,
              ⟨(some 38), (.op (.nilc (.tmp 37))), none⟩,
              ⟨(some 39), (.op (.faddr 1 (.tmp 38))), none⟩,
              ⟨(some 40), (.op (.load none (.tmp 39))), none⟩,
              ⟨(some 41), (.op (.len .slice (.tmp 40))), none⟩,
              ⟨(some 42), (.op (.bin .lss none (.tmp 36) (.tmp 41))), none⟩] [])
            (.cond (.tmp 42)
              (.region [
                ⟨(some 43), (.op (.mv (.tmp 0))), none⟩,
                ⟨(some 44), (.op (.mv (.tmp 0))), none⟩,
                ⟨(some 45), (.op (.mv (.tmp 0))), none⟩,
                ⟨(some 46), (.op (.nilc (.tmp 45))), none⟩,
                ⟨(some 47), (.op (.faddr 1 (.tmp 46))), none⟩,
                ⟨(some 48), (.op (.load none (.tmp 47))), none⟩,
                ⟨(some 49), (.op (.mv (.tmp 4))), none⟩,
                ⟨(some 50), (.op (.mv (.tmp 6))), none⟩,
                ⟨(some 51), (.op (.bin .add none (.tmp 49) (.tmp 50))), none⟩,
                ⟨(some 52), (.op (.bin .add none (.tmp 51) (.cst (.int .i64 1)))), none⟩,
                ⟨(some 53), (.op (.sliceSl 1 (.tmp 48) none (some (.tmp 52)) none)), none⟩,
                ⟨(some 54), (.op (.nilc (.tmp 43))), none⟩,
                ⟨(some 55), (.op (.faddr 1 (.tmp 54))), none⟩,
                ⟨none, (.op (.store 1 (.tmp 55) (.tmp 53))), none⟩,
                ⟨(some 56), (.op (.nilc (.tmp 44))), none⟩,
                ⟨(some 57), (.op (.faddr 2 (.tmp 56))), none⟩,
                ⟨none, (.op (.store 1 (.tmp 57) (.cst (.bool true)))), none⟩] [])
              .skip))
            (.exit 0))
            .skip))
          (.seq (.draw [
            ⟨(some 58), (.op (.mv (.tmp 0))), none⟩,
            ⟨(some 59), (.op (.mv (.tmp 0))), none⟩,
            ⟨(some 60), (.op (.nilc (.tmp 59))), none⟩,
            ⟨(some 61), (.op (.faddr 0 (.tmp 60))), none⟩,
            ⟨(some 62), (.op (.load none (.tmp 61))), none⟩,
            ⟨(some 63), (.op (.load (some 5) (.tmp 5))), none⟩,
            ⟨(some 64), (.op (.mv (.tmp 6))), none⟩,
            ⟨(some 65), (.op (.build [(.int .i64 0), (.int .i64 0), (.int .i64 0), (.str []), .nilSlice, (.int .i64 0)] [(0, 5, (.tmp 63)), (5, 1, (.tmp 64))])), none⟩,
            ⟨(some 66), (.op (.bslice 6 1 [(.int .i64 0), (.int .i64 0), (.int .i64 0), (.str []), .nilSlice, (.int .i64 0)] [(0, 6, (.tmp 65))])), none⟩,
            ⟨(some 67), (.op (.append 6 72 (.tmp 62) (.tmp 66))), none⟩,
            ⟨(some 68), (.op (.nilc (.tmp 58))), none⟩,
            ⟨(some 69), (.op (.faddr 0 (.tmp 68))), none⟩,
            ⟨none, (.op (.store 1 (.tmp 69) (.tmp 67))), none⟩] [0, 1, 2, 3, 4, 5, 6, 7, 8, 9, 10, 11, 12] [[], [], [], [], [], [], [], [], [5], [4, 5], [], [], [4, 5]] [])
          (.region [
            ⟨(some 70), (.op (.mv (.tmp 4))), none⟩,
            ⟨(some 71), (.op (.mv (.tmp 6))), none⟩,
            ⟨(some 72), (.op (.bin .add none (.tmp 70) (.tmp 71))), none⟩,
            ⟨(some 4), (.op (.mv (.tmp 72))), none⟩] [])))))))
    (.seq (.region [
      ⟨(some 73), (.op (.mv (.tmp 4))), none⟩,
      ⟨(some 74), (.op (.bin .gtr none (.tmp 73) (.cst (.int .i64 0)))), none⟩] [])
    (.cond (.tmp 74)
      (.region [
        ⟨(some 75), (.op (.mv (.tmp 0))), none⟩,
        ⟨(some 76), (.op (.mv (.tmp 0))), none⟩,
        ⟨(some 77), (.op (.nilc (.tmp 76))), none⟩,
        ⟨(some 78), (.op (.faddr 1 (.tmp 77))), none⟩,
        ⟨(some 79), (.op (.load none (.tmp 78))), none⟩,
        ⟨(some 80), (.op (.mv (.tmp 4))), none⟩,
        ⟨(some 81), (.op (.sliceSl 1 (.tmp 79) (some (.tmp 80)) none none)), none⟩,
        ⟨(some 82), (.call (.cst (.func (.func 47) [] [])) [(.tmp 81)]), none⟩,
        ⟨(some 83), (.op (.nilc (.tmp 75))), none⟩,
        ⟨(some 84), (.op (.faddr 1 (.tmp 83))), none⟩,
        ⟨none, (.op (.store 1 (.tmp 84) (.tmp 82))), none⟩] [])
      .skip))))))⟩
theorem c22 : cFn Tryd.prog [] Tryd.f22 = some h22 := by kernel_rfl
/-- (*stint/answers.Reader).Next -/
def h23 : HFn :=
  ⟨40, [(.cell 2 (some 5)), (.tmp 3), (.tmp 4)],
    (.seq (.region [
      ⟨(some 2), (.op (.box (.cst (.agg [(.int .i64 0), (.int .i64 0), (.int .i64 0), (.str []), .nilSlice])))), none⟩,
      ⟨(some 3), (.op (.mv (.cst (.bool false)))), none⟩,
      ⟨(some 4), (.op (.mv (.cst (.int .i64 0)))), none⟩] [])
    (.seq (.block 0
      (.seq (.region [
        ⟨(some 7), (.op (.mv (.tmp 0))), none⟩,
        ⟨(some 8), (.op (.nilc (.tmp 7))), none⟩,
        ⟨(some 9), (.op (.faddr 0 (.tmp 8))), none⟩,
        ⟨(some 10), (.op (.load none (.tmp 9))), none⟩,
        ⟨(some 11), (.op (.len .slice (.tmp 10))), none⟩,
        ⟨(some 12), (.op (.bin .gtr none (.tmp 11) (.cst (.int .i64 0)))), none⟩,
        ⟨(some 6), (.op (.mv (.tmp 12))), none⟩] [])
      (.cond (.tmp 6)
        (.seq (.region [
          ⟨(some 13), (.op (.mv (.tmp 0))), none⟩,
          ⟨(some 14), (.op (.nilc (.tmp 13))), none⟩,
          ⟨(some 15), (.op (.faddr 0 (.tmp 14))), none⟩,
          ⟨(some 16), (.op (.load none (.tmp 15))), none⟩,
          ⟨(some 17), (.op (.idxS 6 (.tmp 16) (.cst (.int .i64 0)))), none⟩,
          ⟨(some 18), (.op (.faddr 0 (.tmp 17))), none⟩,
          ⟨(some 19), (.op (.load (some 5) (.tmp 18))), none⟩,
          ⟨(some 5), (.op (.box (.cst (.agg [(.int .i64 0), (.int .i64 0), (.int .i64 0), (.str []), .nilSlice])))), none⟩,
          ⟨none, (.op (.store 5 (.tmp 5) (.tmp 19))), none⟩] [])
        (.seq (.region [
          ⟨(some 20), (.op (.mv (.tmp 0))), none⟩,
          ⟨(some 21), (.op (.mv (.tmp 0))), none⟩,
          ⟨(some 22), (.op (.nilc (.tmp 21))), none⟩,
          ⟨(some 23), (.op (.faddr 0 (.tmp 22))), none⟩,
          ⟨(some 24), (.op (.load none (.tmp 23))), none⟩,
          ⟨(some 25), (.op (.sliceSl 6 (.tmp 24) (some (.cst (.int .i64 1))) none none)), none⟩,
          ⟨(some 26), (.op (.nilc (.tmp 20))), none⟩,
          ⟨(some 27), (.op (.faddr 0 (.tmp 26))), none⟩,
          ⟨none, (.op (.store 1 (.tmp 27) (.tmp 25))), none⟩] [])
        (.seq (.region [
          ⟨(some 28), (.op (.faddr 4 (.tmp 5))), none⟩,
          ⟨(some 29), (.op (.load none (.tmp 28))), none⟩,
          ⟨(some 30), (.call (.cst (.func (.func 47) [] [])) [(.tmp 29)]), none⟩,
          ⟨(some 31), (.op (.faddr 4 (.tmp 5))), none⟩,
          ⟨none, (.op (.store 1 (.tmp 31) (.tmp 30))), none⟩] [])
        (.seq (.region [
          ⟨(some 32), (.op (.load (some 5) (.tmp 5))), none⟩,
          ⟨none, (.op (.store 5 (.tmp 2) (.tmp 32))), none⟩,
          ⟨(some 3), (.op (.mv (.cst (.bool true)))), none⟩,
          ⟨(some 4), (.op (.mv (.cst (.int .i64 0)))), none⟩] [])
        .ret))))
        (.seq (.region [
          ⟨(some 34), (.op (.mv (.tmp 0))), none⟩,
          ⟨(some 35), (.op (.nilc (.tmp 34))), none⟩,
          ⟨(some 36), (.op (.faddr 2 (.tmp 35))), none⟩,
          ⟨(some 37), (.op (.load none (.tmp 36))), none⟩,
          ⟨(some 33), (.op (.mv (.tmp 37))), none⟩] [])
        (.cond (.tmp 33)
          (.seq (.region [
            ⟨(some 38), (.op (.build [(.int .i64 0), (.int .i64 0), (.int .i64 0), (.str []), .nilSlice] [])), none⟩,
            ⟨none, (.op (.store 5 (.tmp 2) (.tmp 38))), none⟩,
            ⟨(some 3), (.op (.mv (.cst (.bool false)))), none⟩,
            ⟨(some 4), (.op (.mv (.cst (.int .i64 82)))), none⟩] [])
          .ret)
          .skip)))))
    (.seq (.region [
      ⟨(some 39), (.op (.build [(.int .i64 0), (.int .i64 0), (.int .i64 0), (.str []), .nilSlice] [])), none⟩,
      ⟨none, (.op (.store 5 (.tmp 2) (.tmp 39))), none⟩,
      ⟨(some 3), (.op (.mv (.cst (.bool false)))), none⟩,
      ⟨(some 4), (.op (.mv (.cst (.int .i64 0)))), none⟩] [])
    .ret)))⟩
theorem c23 : cFn Tryd.prog [] Tryd.f23 = some h23 := by kernel_rfl
/-- (*stint/answers.Reader).Held -/
def h25 : HFn :=
  ⟨26, [(.tmp 2)],
    (.seq (.region [
      ⟨(some 2), (.op (.mv (.cst (.int .i64 0)))), none⟩] [])
    (.seq (.region [
      ⟨(some 6), (.op (.mv (.tmp 0))), none⟩,
      ⟨(some 7), (.op (.nilc (.tmp 6))), none⟩,
      ⟨(some 8), (.op (.faddr 1 (.tmp 7))), none⟩,
      ⟨(some 9), (.op (.load none (.tmp 8))), none⟩,
      ⟨(some 10), (.op (.len .slice (.tmp 9))), none⟩,
      ⟨(some 3), (.op (.mv (.tmp 10))), none⟩] [])
    (.seq (.seq (.region [
      ⟨(some 11), (.op (.mv (.tmp 0))), none⟩,
      ⟨(some 12), (.op (.nilc (.tmp 11))), none⟩,
      ⟨(some 13), (.op (.faddr 0 (.tmp 12))), none⟩,
      ⟨(some 14), (.op (.load none (.tmp 13))), none⟩,
      ⟨(some 15), (.op (.len .slice (.tmp 14))), none⟩,
      ⟨(some 16), (.op (.mv (.cst (.int .i64 0)))), none⟩] [])
    (.block 0
      (.loop
        (.seq (.region [
          ⟨(some 17), (.op (.bin .lss none (.tmp 16) (.tmp 15))), none⟩] [])
        (.seq (.cond (.tmp 17)
          .skip
          (.exit 0))
        (.seq (.block 1
          (.seq (.region [
            ⟨(some 18), (.op (.idxS 6 (.tmp 14) (.tmp 16))), none⟩,
            ⟨(some 19), (.op (.load (some 6) (.tmp 18))), none⟩,
            ⟨(some 5), (.op (.box (.cst (.agg [(.int .i64 0), (.int .i64 0), (.int .i64 0), (.str []), .nilSlice, (.int .i64 0)])))), none⟩,
            ⟨none, (.op (.store 6 (.tmp 5) (.tmp 19))), none⟩] [])
          (.region [
            ⟨(some 20), (.op (.mv (.tmp 3))), none⟩,
            ⟨(some 21), (.op (.faddr 5 (.tmp 5))), none⟩,
            ⟨(some 22), (.op (.load none (.tmp 21))), none⟩,
            ⟨(some 23), (.op (.bin .add none (.tmp 20) (.tmp 22))), none⟩,
            ⟨(some 3), (.op (.mv (.tmp 23))), none⟩] [])))
        (.region [
          ⟨(some 24), (.op (.bin .add none (.tmp 16) (.cst (.int .i64 1)))), none⟩,
          ⟨(some 16), (.op (.mv (.tmp 24))), none⟩] [])))))))
    (.seq (.region [
      ⟨(some 25), (.op (.mv (.tmp 3))), none⟩,
      ⟨(some 2), (.op (.mv (.tmp 25))), none⟩] [])
    .ret))))⟩
theorem c25 : cFn Tryd.prog [] Tryd.f25 = some h25 := by kernel_rfl
/-- stint/answers.word -/
def h35 : HFn :=
  ⟨14, [(.tmp 2)],
    (.seq (.region [
      ⟨(some 2), (.op (.mv (.cst (.str [])))), none⟩] [])
    (.seq (.region [
      ⟨(some 4), (.op (.build [(.str []), (.str []), (.str []), (.str []), (.str []), (.str []), (.str []), (.str []), (.str []), (.str []), (.str []), (.str []), (.str []), (.str []), (.str []), (.str []), (.str []), (.str []), (.str []), (.str []), (.str []), (.str []), (.str []), (.str [])] [(1, 1, (.cst (.str [73, 78, 83, 69, 82, 84, 69, 68]))), (2, 1, (.cst (.str [85, 83, 73, 78, 71]))), (3, 1, (.cst (.str [82, 69, 83, 69, 82, 86, 69, 68]))), (4, 1, (.cst (.str [68, 69, 65, 68, 76, 73, 78, 69, 95, 83, 79, 79, 78]))), (5, 1, (.cst (.str [84, 73, 77, 69, 68, 95, 79, 85, 84]))), (6, 1, (.cst (.str [68, 69, 76, 69, 84, 69, 68]))), (7, 1, (.cst (.str [82, 69, 76, 69, 65, 83, 69, 68]))), (8, 1, (.cst (.str [66, 85, 82, 73, 69, 68]))), (9, 1, (.cst (.str [84, 79, 85, 67, 72, 69, 68]))), (10, 1, (.cst (.str [87, 65, 84, 67, 72, 73, 78, 71]))), (11, 1, (.cst (.str [78, 79, 84, 95, 73, 71, 78, 79, 82, 69, 68]))), (12, 1, (.cst (.str [70, 79, 85, 78, 68]))), (13, 1, (.cst (.str [75, 73, 67, 75, 69, 68]))), (14, 1, (.cst (.str [75, 73, 67, 75, 69, 68]))), (15, 1, (.cst (.str [80, 65, 85, 83, 69, 68]))), (16, 1, (.cst (.str [79, 75]))), (17, 1, (.cst (.str [78, 79, 84, 95, 70, 79, 85, 78, 68]))), (18, 1, (.cst (.str [79, 85, 84, 95, 79, 70, 95, 77, 69, 77, 79, 82, 89]))), (19, 1, (.cst (.str [66, 65, 68, 95, 70, 79, 82, 77, 65, 84]))), (20, 1, (.cst (.str [85, 78, 75, 78, 79, 87, 78, 95, 67, 79, 77, 77, 65, 78, 68]))), (21, 1, (.cst (.str [69, 88, 80, 69, 67, 84, 69, 68, 95, 67, 82, 76, 70]))), (22, 1, (.cst (.str [74, 79, 66, 95, 84, 79, 79, 95, 66, 73, 71]))), (23, 1, (.cst (.str [68, 82, 65, 73, 78, 73, 78, 71])))])), none⟩,
      ⟨(some 3), (.op (.box (.cst (.agg [(.str []), (.str []), (.str []), (.str []), (.str []), (.str []), (.str []), (.str []), (.str []), (.str []), (.str []), (.str []), (.str []), (.str []), (.str []), (.str []), (.str []), (.str []), (.str []), (.str []), (.str []), (.str []), (.str []), (.str [])])))), none⟩,
      ⟨none, (.op (.store 24 (.tmp 3) (.tmp 4))), none⟩] [])
    (.seq (.seq (.region [
      ⟨(some 5), (.op (.mv (.tmp 0))), none⟩,
      ⟨(some 6), (.op (.bin .lss none (.tmp 5) (.cst (.int .i64 1)))), none⟩,
      ⟨(some 7), (.op (.mv (.tmp 6))), none⟩,
      ⟨(some 8), (.op (.mv (.tmp 0))), (some (7, false))⟩,
      ⟨(some 9), (.op (.bin .geq none (.tmp 8) (.cst (.int .i64 24)))), (some (7, false))⟩,
      ⟨(some 10), (.op (.pick (.tmp 7) (.cst (.bool true)) (.tmp 9))), none⟩] [])
    (.cond (.tmp 10)
      (.seq (.region [
        ⟨(some 2), (.op (.mv (.cst (.str [])))), none⟩] [])
      .ret)
      .skip))
    (.seq (.region [
      ⟨(some 11), (.op (.mv (.tmp 0))), none⟩,
      ⟨(some 12), (.op (.idxA 24 1 (.tmp 3) (.tmp 11))), none⟩,
      ⟨(some 13), (.op (.load none (.tmp 12))), none⟩,
      ⟨(some 2), (.op (.mv (.tmp 13))), none⟩] [])
    .ret))))⟩
theorem c35 : cFn Tryd.prog [] Tryd.f35 = some h35 := by kernel_rfl
/-- stint/answers.most -/
def h36 : HFn :=
  ⟨5, [(.tmp 2)],
    (.seq (.region [
      ⟨(some 2), (.op (.mv (.cst (.int .i64 0)))), none⟩] [])
    (.seq (.seq (.region [
      ⟨(some 3), (.op (.mv (.tmp 0))), none⟩,
      ⟨(some 4), (.op (.bin .eql (some .int) (.tmp 3) (.cst (.int .i64 16)))), none⟩] [])
    (.cond (.tmp 4)
      (.seq (.region [
        ⟨(some 2), (.op (.mv (.cst (.int .i64 4294967295)))), none⟩] [])
      .ret)
      .skip))
    (.seq (.region [
      ⟨(some 2), (.op (.mv (.cst (.int .i64 65535)))), none⟩] [])
    .ret)))⟩
theorem c36 : cFn Tryd.prog [] Tryd.f36 = some h36 := by kernel_rfl
/-- stint/names.Valid -/
def h37 : HFn :=
  ⟨28, [(.tmp 2)],
    (.seq (.region [
      ⟨(some 2), (.op (.mv (.cst (.bool false)))), none⟩] [])
    (.seq (.seq (.region [
      ⟨(some 4), (.op (.mv (.tmp 0))), none⟩,
      ⟨(some 5), (.op (.len .str (.tmp 4))), none⟩,
      ⟨(some 6), (.op (.bin .lss none (.tmp 5) (.cst (.int .i64 1)))), none⟩,
      ⟨(some 7), (.op (.mv (.tmp 6))), none⟩,
      ⟨(some 8), (.op (.mv (.tmp 0))), (some (7, false))⟩,
      ⟨(some 9), (.op (.len .str (.tmp 8))), (some (7, false))⟩,
      ⟨(some 10), (.op (.bin .gtr none (.tmp 9) (.cst (.int .i64 200)))), (some (7, false))⟩,
      ⟨(some 11), (.op (.pick (.tmp 7) (.cst (.bool true)) (.tmp 10))), none⟩,
      ⟨(some 12), (.op (.mv (.tmp 11))), none⟩,
      ⟨(some 13), (.op (.mv (.tmp 0))), (some (12, false))⟩,
      ⟨(some 14), (.op (.idxStr (.tmp 13) (.cst (.int .i64 0)))), (some (12, false))⟩,
      ⟨(some 15), (.op (.bin .eql (some .int) (.tmp 14) (.cst (.int .u8 45)))), (some (12, false))⟩,
      ⟨(some 16), (.op (.pick (.tmp 12) (.cst (.bool true)) (.tmp 15))), none⟩] [])
    (.cond (.tmp 16)
      (.seq (.region [
        ⟨(some 2), (.op (.mv (.cst (.bool false)))), none⟩] [])
      .ret)
      .skip))
    (.seq (.seq (.region [
      ⟨(some 17), (.op (.mv (.tmp 0))), none⟩,
      ⟨(some 18), (.op (.len .str (.tmp 17))), none⟩,
      ⟨(some 19), (.op (.mv (.cst (.int .i64 0)))), none⟩] [])
    (.block 0
      (.loop
        (.seq (.region [
          ⟨(some 20), (.op (.bin .lss none (.tmp 19) (.tmp 18))), none⟩] [])
        (.seq (.cond (.tmp 20)
          .skip
          (.exit 0))
        (.seq (.block 1
          (.seq (.region [
            ⟨(some 21), (.op (.mv (.tmp 19))), none⟩,
            ⟨(some 3), (.op (.mv (.tmp 21))), none⟩] [])
          (.seq (.region [
            ⟨(some 22), (.op (.mv (.tmp 0))), none⟩,
            ⟨(some 23), (.op (.mv (.tmp 3))), none⟩,
            ⟨(some 24), (.op (.idxStr (.tmp 22) (.tmp 23))), none⟩,
            ⟨(some 25), (.call (.cst (.func (.func 52) [] [])) [(.tmp 24)]), none⟩,
            ⟨(some 26), (.op (.un .not (.tmp 25))), none⟩] [])
          (.cond (.tmp 26)
            (.seq (.region [
              ⟨(some 2), (.op (.mv (.cst (.bool false)))), none⟩] [])
            .ret)
            .skip))))
        (.region [
          ⟨(some 27), (.op (.bin .add none (.tmp 19) (.cst (.int .i64 1)))), none⟩,
          ⟨(some 19), (.op (.mv (.tmp 27))), none⟩] [])))))))
    (.seq (.region [
      ⟨(some 2), (.op (.mv (.cst (.bool true)))), none⟩] [])
    .ret))))⟩
theorem c37 : cFn Tryd.prog [] Tryd.f37 = some h37 := by kernel_rfl
/-- stint/digits.Print -/
def h38 : HFn :=
  ⟨7, [(.tmp 2)],
    (.seq (.region [
      ⟨(some 2), (.op (.mv (.cst (.str [])))), none⟩] [])
    (.seq (.seq (.region [
      ⟨(some 3), (.op (.mv (.tmp 0))), none⟩,
      ⟨(some 4), (.op (.bin .lss none (.tmp 3) (.cst (.int .i64 0)))), none⟩] [])
    (.cond (.tmp 4)
      (.seq (.region [
        ⟨(some 2), (.op (.mv (.cst (.str [])))), none⟩] [])
      .ret)
      .skip))
    (.seq (.region [
      ⟨(some 5), (.op (.mv (.tmp 0))), none⟩,
      ⟨(some 6), (.call (.cst (.func (.func 53) [] [])) [(.tmp 5)]), none⟩,
      ⟨(some 2), (.op (.mv (.tmp 6))), none⟩] [])
    .ret)))⟩
theorem c38 : cFn Tryd.prog [] Tryd.f38 = some h38 := by kernel_rfl
/-- stint/answers.first -/
def h46 : HFn :=
  ⟨37, [(.cell 2 (some 5)), (.tmp 3), (.tmp 4)],
    (.seq (.region [
      ⟨(some 2), (.op (.box (.cst (.agg [(.int .i64 0), (.int .i64 0), (.int .i64 0), (.str []), .nilSlice])))), none⟩,
      ⟨(some 3), (.op (.mv (.cst (.int .i64 0)))), none⟩,
      ⟨(some 4), (.op (.mv (.cst (.bool false)))), none⟩] [])
    (.seq (.region [
      ⟨(some 5), (.op (.mv (.cst (.int .i64 0)))), none⟩] [])
    (.seq (.seq (.region [
      ⟨(some 6), (.op (.mv (.cst (.int .i64 1)))), none⟩] [])
    (.block 0
      (.loop
        (.seq (.seq (.region [
          ⟨(some 9), (.op (.mv (.tmp 6))), none⟩,
          ⟨(some 10), (.op (.bin .leq none (.tmp 9) (.cst (.int .i64 23)))), none⟩] [])
        (.cond (.tmp 10)
          .skip
          (.exit 0)))
        (.seq (.block 1
          (.seq (.region [
            ⟨(some 14), (.op (.mv (.tmp 6))), none⟩,
            ⟨(some 15), (.op (.mv (.tmp 0))), none⟩,
            ⟨(some 16), (.call (.cst (.func (.func 57) [] [])) [(.tmp 14), (.tmp 15)]), none⟩,
            ⟨(some 13), (.op (.mv (.tmp 16))), none⟩,
            ⟨(some 17), (.op (.ext 0 (.tmp 13))), none⟩,
            ⟨(some 18), (.op (.ext 1 (.tmp 13))), none⟩,
            ⟨(some 7), (.op (.box (.cst (.agg [(.int .i64 0), (.int .i64 0), (.int .i64 0), (.str []), .nilSlice])))), none⟩,
            ⟨none, (.op (.store 5 (.tmp 7) (.tmp 17))), none⟩,
            ⟨(some 8), (.op (.mv (.tmp 18))), none⟩] [])
          (.seq (.seq (.region [
            ⟨(some 19), (.op (.mv (.tmp 8))), none⟩,
            ⟨(some 20), (.op (.nilc (.tmp 19))), none⟩,
            ⟨(some 21), (.op (.faddr 2 (.tmp 20))), none⟩,
            ⟨(some 22), (.op (.load none (.tmp 21))), none⟩,
            ⟨(some 23), (.op (.un .not (.tmp 22))), none⟩] [])
          (.cond (.tmp 23)
            (.seq (.draw [
              ⟨(some 24), (.op (.load (some 5) (.tmp 7))), none⟩,
              ⟨(some 25), (.op (.mv (.tmp 8))), none⟩,
              ⟨(some 26), (.op (.nilc (.tmp 25))), none⟩,
              ⟨(some 27), (.op (.faddr 1 (.tmp 26))), none⟩,
              ⟨(some 28), (.op (.load none (.tmp 27))), none⟩,
              ⟨none, (.op (.store 5 (.tmp 2) (.tmp 24))), none⟩,
              ⟨(some 3), (.op (.mv (.tmp 28))), none⟩,
              ⟨(some 4), (.op (.mv (.cst (.bool true)))), none⟩] [0, 1, 2, 3, 4, 5, 6, 7] [[], [], [], [], [], [0], [], []] [])
            .ret)
            .skip))
          (.region [
            ⟨(some 29), (.op (.mv (.tmp 5))), none⟩,
            ⟨(some 30), (.op (.mv (.tmp 8))), none⟩,
            ⟨(some 31), (.op (.nilc (.tmp 30))), none⟩,
            ⟨(some 32), (.op (.faddr 1 (.tmp 31))), none⟩,
            ⟨(some 33), (.op (.load none (.tmp 32))), none⟩,
            ⟨(some 34), (.op (.minmax false [(.tmp 29), (.tmp 33)])), none⟩,
            ⟨(some 5), (.op (.mv (.tmp 34))), none⟩] []))))
        (.region [
          ⟨(some 11), (.op (.mv (.tmp 6))), none⟩,
          ⟨(some 12), (.op (.bin .add none (.tmp 11) (.cst (.int .i64 1)))), none⟩,
          ⟨(some 6), (.op (.mv (.tmp 12))), none⟩] []))))))
    (.seq (.region [
      ⟨(some 35), (.op (.build [(.int .i64 0), (.int .i64 0), (.int .i64 0), (.str []), .nilSlice] [])), none⟩,
      ⟨(some 36), (.op (.mv (.tmp 5))), none⟩,
      ⟨none, (.op (.store 5 (.tmp 2) (.tmp 35))), none⟩,
      ⟨(some 3), (.op (.mv (.tmp 36))), none⟩,
      ⟨(some 4), (.op (.mv (.cst (.bool false)))), none⟩] [])
    .ret))))⟩
theorem c46 : cFn Tryd.prog [] Tryd.f46 = some h46 := by kernel_rfl
/-- bytes.Clone -/
def h47 : HFn :=
  ⟨8, [(.tmp 2)],
    (.seq (.region [
      ⟨(some 2), (.op (.mv (.cst .nilSlice))), none⟩] [])
    (.seq (.seq (.region [
      ⟨(some 3), (.op (.mv (.tmp 0))), none⟩,
      ⟨(some 4), (.op (.bin .eql (some .slice) (.tmp 3) (.cst .nilSlice))), none⟩] [])
    (.cond (.tmp 4)
      (.seq (.region [
        ⟨(some 2), (.op (.mv (.cst .nilSlice))), none⟩] [])
      .ret)
      .skip))
    (.seq (.region [
      ⟨(some 5), (.op (.bslice 1 0 [] [])), none⟩,
      ⟨(some 6), (.op (.mv (.tmp 0))), none⟩,
      ⟨(some 7), (.op (.append 1 1 (.tmp 5) (.tmp 6))), none⟩,
      ⟨(some 2), (.op (.mv (.tmp 7))), none⟩] [])
    .ret)))⟩
theorem c47 : cFn Tryd.prog [] Tryd.f47 = some h47 := by kernel_rfl
/-- stint/names.may -/
def h52 : HFn :=
  ⟨25, [(.tmp 2)],
    (.seq (.region [
      ⟨(some 2), (.op (.mv (.cst (.bool false)))), none⟩] [])
    (.seq (.block 0
      (.seq (.seq (.region [
        ⟨(some 4), (.op (.mv (.tmp 0))), none⟩,
        ⟨(some 5), (.op (.bin .geq none (.tmp 4) (.cst (.int .u8 97)))), none⟩,
        ⟨(some 6), (.op (.mv (.tmp 5))), none⟩,
        ⟨(some 7), (.op (.mv (.tmp 0))), (some (6, true))⟩,
        ⟨(some 8), (.op (.bin .leq none (.tmp 7) (.cst (.int .u8 122)))), (some (6, true))⟩,
        ⟨(some 9), (.op (.pick (.tmp 6) (.tmp 8) (.cst (.bool false)))), none⟩,
        ⟨(some 3), (.op (.mv (.tmp 9))), none⟩] [])
      (.cond (.tmp 3)
        .skip
        (.seq (.region [
          ⟨(some 10), (.op (.mv (.tmp 0))), none⟩,
          ⟨(some 11), (.op (.bin .geq none (.tmp 10) (.cst (.int .u8 65)))), none⟩,
          ⟨(some 12), (.op (.mv (.tmp 11))), none⟩,
          ⟨(some 13), (.op (.mv (.tmp 0))), (some (12, true))⟩,
          ⟨(some 14), (.op (.bin .leq none (.tmp 13) (.cst (.int .u8 90)))), (some (12, true))⟩,
          ⟨(some 15), (.op (.pick (.tmp 12) (.tmp 14) (.cst (.bool false)))), none⟩,
          ⟨(some 3), (.op (.mv (.tmp 15))), none⟩] [])
        (.cond (.tmp 3)
          .skip
          (.region [
            ⟨(some 16), (.op (.mv (.tmp 0))), none⟩,
            ⟨(some 17), (.op (.bin .geq none (.tmp 16) (.cst (.int .u8 48)))), none⟩,
            ⟨(some 18), (.op (.mv (.tmp 17))), none⟩,
            ⟨(some 19), (.op (.mv (.tmp 0))), (some (18, true))⟩,
            ⟨(some 20), (.op (.bin .leq none (.tmp 19) (.cst (.int .u8 57)))), (some (18, true))⟩,
            ⟨(some 21), (.op (.pick (.tmp 18) (.tmp 20) (.cst (.bool false)))), none⟩,
            ⟨(some 3), (.op (.mv (.tmp 21))), none⟩] [])))))
      (.cond (.tmp 3)
        (.seq (.region [
          ⟨(some 2), (.op (.mv (.cst (.bool true)))), none⟩] [])
        .ret)
        .skip)))
    (.seq (.region [
      ⟨(some 22), (.op (.mv (.tmp 0))), none⟩,
      ⟨(some 23), (.call (.cst (.func (.func 59) [] [])) [(.cst (.str [45, 43, 47, 59, 46, 36, 95, 40, 41])), (.tmp 22)]), none⟩,
      ⟨(some 24), (.op (.bin .geq none (.tmp 23) (.cst (.int .i64 0)))), none⟩,
      ⟨(some 2), (.op (.mv (.tmp 24))), none⟩] [])
    .ret)))⟩
theorem c52 : cFn Tryd.prog [] Tryd.f52 = some h52 := by kernel_rfl
/-- strconv.Itoa -/
def h53 : HFn :=
  ⟨5, [(.tmp 2)],
    (.seq (.region [
      ⟨(some 2), (.op (.mv (.cst (.str [])))), none⟩] [])
    (.seq (.region [
      ⟨(some 3), (.op (.mv (.tmp 0))), none⟩,
      ⟨(some 4), (.call (.cst (.func (.func 60) [] [])) [(.tmp 3)]), none⟩,
      ⟨(some 2), (.op (.mv (.tmp 4))), none⟩] [])
    .ret))⟩
theorem c53 : cFn Tryd.prog [] Tryd.f53 = some h53 := by kernel_rfl
/-- stint/answers.form -/
def h57 : HFn :=
  ⟨67, [(.cell 4 (some 5)), (.tmp 5)],
    (.seq (.region [
      ⟨(some 4), (.op (.box (.cst (.agg [(.int .i64 0), (.int .i64 0), (.int .i64 0), (.str []), .nilSlice])))), none⟩,
      ⟨(some 5), (.op (.mv (.cst .nilPtr))), none⟩] [])
    (.seq (.region [
      ⟨(some 9), (.op (.mv (.tmp 1))), none⟩,
      ⟨(some 10), (.op (.build [.nilSlice, (.int .i64 0), (.bool false)] [(0, 1, (.tmp 9))])), none⟩,
      ⟨(some 11), (.op (.box (.tmp 10))), none⟩,
      ⟨(some 6), (.op (.mv (.tmp 11))), none⟩] [])
    (.seq (.region [
      ⟨(some 12), (.op (.mv (.tmp 0))), none⟩,
      ⟨(some 13), (.op (.build [(.int .i64 0), (.int .i64 0), (.int .i64 0), (.str []), .nilSlice] [(0, 1, (.tmp 12))])), none⟩,
      ⟨(some 7), (.op (.box (.cst (.agg [(.int .i64 0), (.int .i64 0), (.int .i64 0), (.str []), .nilSlice])))), none⟩,
      ⟨none, (.op (.store 5 (.tmp 7) (.tmp 13))), none⟩] [])
    (.seq (.region [
      ⟨(some 14), (.op (.mv (.tmp 6))), none⟩,
      ⟨(some 15), (.op (.mv (.tmp 0))), none⟩,
      ⟨(some 16), (.call (.cst (.func (.func 35) [] [])) [(.tmp 15)]), none⟩,
      ⟨(some 17), (.call (.cst (.func (.func 61) [] [])) [(.tmp 14), (.tmp 16)]), none⟩] [])
    (.seq (.seq (.region [
      ⟨(some 18), (.op (.mv (.tmp 0))), none⟩] [])
    (.block 0
      (.seq (.block 5
        (.seq (.block 4
          (.seq (.block 3
            (.seq (.block 2
              (.seq (.block 1
                (.seq (.seq (.seq (.seq (.region [
                  ⟨(some 20), (.op (.bin .eql (some .int) (.tmp 18) (.cst (.int .i64 3)))), none⟩,
                  ⟨(some 19), (.op (.mv (.tmp 20))), none⟩] [])
                (.cond (.tmp 19)
                  .skip
                  (.region [
                    ⟨(some 21), (.op (.bin .eql (some .int) (.tmp 18) (.cst (.int .i64 12)))), none⟩,
                    ⟨(some 19), (.op (.mv (.tmp 21))), none⟩] [])))
                (.cond (.tmp 19)
                  (.exit 1)
                  .skip))
                (.seq (.seq (.region [
                  ⟨(some 23), (.op (.bin .eql (some .int) (.tmp 18) (.cst (.int .i64 16)))), none⟩,
                  ⟨(some 22), (.op (.mv (.tmp 23))), none⟩] [])
                (.cond (.tmp 22)
                  (.exit 2)
                  .skip))
                (.seq (.seq (.region [
                  ⟨(some 25), (.op (.bin .eql (some .int) (.tmp 18) (.cst (.int .i64 1)))), none⟩,
                  ⟨(some 24), (.op (.mv (.tmp 25))), none⟩] [])
                (.cond (.tmp 24)
                  (.exit 3)
                  .skip))
                (.seq (.seq (.region [
                  ⟨(some 27), (.op (.bin .eql (some .int) (.tmp 18) (.cst (.int .i64 2)))), none⟩,
                  ⟨(some 26), (.op (.mv (.tmp 27))), none⟩] [])
                (.cond (.tmp 26)
                  (.exit 4)
                  .skip))
                (.seq (.seq (.region [
                  ⟨(some 29), (.op (.bin .eql (some .int) (.tmp 18) (.cst (.int .i64 10)))), none⟩,
                  ⟨(some 28), (.op (.mv (.tmp 29))), none⟩] [])
                (.cond (.tmp 28)
                  .skip
                  (.region [
                    ⟨(some 30), (.op (.bin .eql (some .int) (.tmp 18) (.cst (.int .i64 13)))), none⟩,
                    ⟨(some 28), (.op (.mv (.tmp 30))), none⟩] [])))
                (.cond (.tmp 28)
                  (.exit 5)
                  .skip))))))
                (.exit 0)))
              (.seq (.region [
                ⟨(some 31), (.op (.mv (.tmp 6))), none⟩,
                ⟨(some 32), (.call (.cst (.func (.func 61) [] [])) [(.tmp 31), (.cst (.str [32]))]), none⟩] [])
              (.region [
                ⟨(some 33), (.op (.mv (.tmp 6))), none⟩,
                ⟨(some 34), (.call (.cst (.func (.func 62) [] [])) [(.tmp 33), (.cst (.int .i64 1)), (.cst (.int .i64 1099511627776))]), none⟩,
                ⟨(some 35), (.op (.faddr 1 (.tmp 7))), none⟩,
                ⟨none, (.op (.store 1 (.tmp 35) (.tmp 34))), none⟩] []))))
            (.seq (.seq (.region [
              ⟨(some 36), (.op (.mv (.tmp 6))), none⟩,
              ⟨(some 37), (.call (.cst (.func (.func 61) [] [])) [(.tmp 36), (.cst (.str [32]))]), none⟩] [])
            (.seq (.region [
              ⟨(some 38), (.op (.mv (.tmp 6))), none⟩,
              ⟨(some 39), (.op (.mv (.tmp 0))), none⟩,
              ⟨(some 40), (.call (.cst (.func (.func 36) [] [])) [(.tmp 39)]), none⟩,
              ⟨(some 41), (.call (.cst (.func (.func 62) [] [])) [(.tmp 38), (.cst (.int .i64 0)), (.tmp 40)]), none⟩,
              ⟨(some 8), (.op (.mv (.tmp 41))), none⟩] [])
            (.seq (.region [
              ⟨(some 42), (.op (.mv (.tmp 6))), none⟩,
              ⟨(some 43), (.call (.cst (.func (.func 61) [] [])) [(.tmp 42), (.cst (.str [13, 10]))]), none⟩] [])
            (.region [
              ⟨(some 44), (.op (.mv (.tmp 6))), none⟩,
              ⟨(some 45), (.op (.mv (.tmp 8))), none⟩,
              ⟨(some 46), (.call (.cst (.func (.func 63) [] [])) [(.tmp 44), (.tmp 45)]), none⟩,
              ⟨(some 47), (.op (.faddr 4 (.tmp 7))), none⟩,
              ⟨none, (.op (.store 1 (.tmp 47) (.tmp 46))), none⟩] []))))
            (.exit 0))))
          (.seq (.seq (.region [
            ⟨(some 48), (.op (.mv (.tmp 6))), none⟩,
            ⟨(some 49), (.call (.cst (.func (.func 61) [] [])) [(.tmp 48), (.cst (.str [32]))]), none⟩] [])
          (.region [
            ⟨(some 50), (.op (.mv (.tmp 6))), none⟩,
            ⟨(some 51), (.call (.cst (.func (.func 62) [] [])) [(.tmp 50), (.cst (.int .i64 1)), (.cst (.int .i64 1099511627776))]), none⟩,
            ⟨(some 52), (.op (.faddr 1 (.tmp 7))), none⟩,
            ⟨none, (.op (.store 1 (.tmp 52) (.tmp 51))), none⟩] []))
          (.exit 0))))
        (.seq (.seq (.region [
          ⟨(some 53), (.op (.mv (.tmp 6))), none⟩,
          ⟨(some 54), (.call (.cst (.func (.func 61) [] [])) [(.tmp 53), (.cst (.str [32]))]), none⟩] [])
        (.region [
          ⟨(some 55), (.op (.mv (.tmp 6))), none⟩,
          ⟨(some 56), (.call (.cst (.func (.func 64) [] [])) [(.tmp 55)]), none⟩,
          ⟨(some 57), (.op (.faddr 3 (.tmp 7))), none⟩,
          ⟨none, (.op (.store 1 (.tmp 57) (.tmp 56))), none⟩] []))
        (.exit 0))))
      (.seq (.seq (.region [
        ⟨(some 58), (.op (.mv (.tmp 6))), none⟩,
        ⟨(some 59), (.call (.cst (.func (.func 61) [] [])) [(.tmp 58), (.cst (.str [32]))]), none⟩] [])
      (.region [
        ⟨(some 60), (.op (.mv (.tmp 6))), none⟩,
        ⟨(some 61), (.call (.cst (.func (.func 62) [] [])) [(.tmp 60), (.cst (.int .i64 0)), (.cst (.int .i64 4294967295))]), none⟩,
        ⟨(some 62), (.op (.faddr 2 (.tmp 7))), none⟩,
        ⟨none, (.op (.store 1 (.tmp 62) (.tmp 61))), none⟩] []))
      (.exit 0)))))
    (.seq (.region [
      ⟨(some 63), (.op (.mv (.tmp 6))), none⟩,
      ⟨(some 64), (.call (.cst (.func (.func 61) [] [])) [(.tmp 63), (.cst (.str [13, 10]))]), none⟩] [])
    (.seq (.region [
      ⟨(some 65), (.op (.load (some 5) (.tmp 7))), none⟩,
      ⟨(some 66), (.op (.mv (.tmp 6))), none⟩,
      ⟨none, (.op (.store 5 (.tmp 4) (.tmp 65))), none⟩,
      ⟨(some 5), (.op (.mv (.tmp 66))), none⟩] [])
    .ret)))))))⟩
theorem c57 : cFn Tryd.prog [] Tryd.f57 = some h57 := by kernel_rfl
/-- strings.IndexByte -/
def h59 : HFn :=
  ⟨8, [(.tmp 4)],
    (.seq (.region [
      ⟨(some 4), (.op (.mv (.cst (.int .i64 0)))), none⟩] [])
    (.seq (.region [
      ⟨(some 5), (.op (.mv (.tmp 0))), none⟩,
      ⟨(some 6), (.op (.mv (.tmp 1))), none⟩,
      ⟨(some 7), (.call (.cst (.func (.func 68) [] [])) [(.tmp 5), (.tmp 6)]), none⟩,
      ⟨(some 4), (.op (.mv (.tmp 7))), none⟩] [])
    .ret))⟩
theorem c59 : cFn Tryd.prog [] Tryd.f59 = some h59 := by kernel_rfl
/-- internal/strconv.Itoa -/
def h60 : HFn :=
  ⟨5, [(.tmp 2)],
    (.seq (.region [
      ⟨(some 2), (.op (.mv (.cst (.str [])))), none⟩] [])
    (.seq (.region [
      ⟨(some 3), (.op (.mv (.tmp 0))), none⟩,
      ⟨(some 4), (.call (.cst (.func (.func 69) [] [])) [(.tmp 3), (.cst (.int .i64 10))]), none⟩,
      ⟨(some 2), (.op (.mv (.tmp 4))), none⟩] [])
    .ret))⟩
theorem c60 : cFn Tryd.prog [] Tryd.f60 = some h60 := by kernel_rfl
/-- (*stint/answers.cursor).text -/
def h61 : HFn :=
  ⟨54, [],
    (.seq (.region [
      ⟨(some 4), (.op (.mv (.cst (.int .i64 0)))), none⟩] [])
    (.block 0
      (.loop
        (.seq (.seq (.region [
          ⟨(some 5), (.op (.mv (.tmp 4))), none⟩,
          ⟨(some 6), (.op (.mv (.tmp 1))), none⟩,
          ⟨(some 7), (.op (.len .str (.tmp 6))), none⟩,
          ⟨(some 8), (.op (.bin .lss none (.tmp 5) (.tmp 7))), none⟩,
          ⟨(some 9), (.op (.mv (.tmp 8))), none⟩,
          ⟨(some 10), (.op (.mv (.tmp 0))), (some (9, true))⟩,
          ⟨(some 11), (.op (.nilc (.tmp 10))), (some (9, true))⟩,
          ⟨(some 12), (.op (.faddr 2 (.tmp 11))), (some (9, true))⟩,
          ⟨(some 13), (.op (.load none (.tmp 12))), (some (9, true))⟩,
          ⟨(some 14), (.op (.un .not (.tmp 13))), (some (9, true))⟩,
          ⟨(some 15), (.op (.pick (.tmp 9) (.tmp 14) (.cst (.bool false)))), none⟩] [])
        (.cond (.tmp 15)
          .skip
          (.exit 0)))
        (.seq (.block 1
          (.seq (.seq (.draw [
            ⟨(some 18), (.op (.mv (.tmp 0))), none⟩,
            ⟨(some 19), (.op (.nilc (.tmp 18))), none⟩,
            ⟨(some 20), (.op (.faddr 1 (.tmp 19))), none⟩,
            ⟨(some 21), (.op (.load none (.tmp 20))), none⟩,
            ⟨(some 22), (.op (.mv (.tmp 0))), none⟩,
            ⟨(some 23), (.op (.nilc (.tmp 22))), none⟩,
            ⟨(some 24), (.op (.faddr 0 (.tmp 23))), none⟩,
            ⟨(some 25), (.op (.load none (.tmp 24))), none⟩,
            ⟨(some 26), (.op (.len .slice (.tmp 25))), none⟩,
            ⟨(some 27), (.op (.bin .eql (some .int) (.tmp 21) (.tmp 26))), none⟩,
            ⟨(some 28), (.op (.mv (.tmp 27))), none⟩,
            ⟨(some 29), (.op (.mv (.tmp 0))), (some (28, false))⟩,
            ⟨(some 30), (.op (.nilc (.tmp 29))), (some (28, false))⟩,
            ⟨(some 31), (.op (.faddr 0 (.tmp 30))), (some (28, false))⟩,
            ⟨(some 32), (.op (.load none (.tmp 31))), (some (28, false))⟩,
            ⟨(some 33), (.op (.mv (.tmp 0))), (some (28, false))⟩,
            ⟨(some 34), (.op (.nilc (.tmp 33))), (some (28, false))⟩,
            ⟨(some 35), (.op (.faddr 1 (.tmp 34))), (some (28, false))⟩,
            ⟨(some 36), (.op (.load none (.tmp 35))), (some (28, false))⟩,
            ⟨(some 37), (.op (.idxS 1 (.tmp 32) (.tmp 36))), (some (28, false))⟩,
            ⟨(some 38), (.op (.load none (.tmp 37))), (some (28, false))⟩,
            ⟨(some 39), (.op (.mv (.tmp 1))), (some (28, false))⟩,
            ⟨(some 40), (.op (.mv (.tmp 4))), (some (28, false))⟩,
            ⟨(some 41), (.op (.idxStr (.tmp 39) (.tmp 40))), (some (28, false))⟩,
            ⟨(some 42), (.op (.bin .neq (some .int) (.tmp 38) (.tmp 41))), (some (28, false))⟩,
            ⟨(some 43), (.op (.pick (.tmp 28) (.cst (.bool true)) (.tmp 42))), none⟩] [0, 1, 2, 3, 4, 5, 6, 7, 8, 9, 10, 11, 12, 13, 14, 15, 16, 17, 18, 19, 20, 21, 22, 23, 24, 25] [[], [], [], [], [], [], [], [], [], [], [], [], [], [], [], [], [], [], [], [], [], [], [], [], [], []] [])
          (.cond (.tmp 43)
            (.seq (.region [
              ⟨(some 44), (.op (.mv (.tmp 0))), none⟩,
              ⟨(some 45), (.op (.nilc (.tmp 44))), none⟩,
              ⟨(some 46), (.op (.faddr 2 (.tmp 45))), none⟩,
              ⟨none, (.op (.store 1 (.tmp 46) (.cst (.bool true)))), none⟩] [])
            .ret)
            .skip))
          (.region [
            ⟨(some 47), (.op (.mv (.tmp 0))), none⟩,
            ⟨(some 48), (.op (.nilc (.tmp 47))), none⟩,
            ⟨(some 49), (.op (.faddr 1 (.tmp 48))), none⟩,
            ⟨(some 50), (.op (.load none (.tmp 49))), none⟩,
            ⟨(some 51), (.op (.bin .add none (.tmp 50) (.cst (.int .i64 1)))), none⟩,
            ⟨(some 52), (.op (.nilc (.tmp 47))), none⟩,
            ⟨(some 53), (.op (.faddr 1 (.tmp 52))), none⟩,
            ⟨none, (.op (.store 1 (.tmp 53) (.tmp 51))), none⟩] [])))
        (.region [
          ⟨(some 16), (.op (.mv (.tmp 4))), none⟩,
          ⟨(some 17), (.op (.bin .add none (.tmp 16) (.cst (.int .i64 1)))), none⟩,
          ⟨(some 4), (.op (.mv (.tmp 17))), none⟩] []))))))⟩
theorem c61 : cFn Tryd.prog [] Tryd.f61 = some h61 := by kernel_rfl
/-- (*stint/answers.cursor).number -/
def h62 : HFn :=
  ⟨116, [(.tmp 6)],
    (.seq (.region [
      ⟨(some 6), (.op (.mv (.cst (.int .i64 0)))), none⟩] [])
    (.seq (.draw [
      ⟨(some 10), (.op (.mv (.tmp 0))), none⟩,
      ⟨(some 11), (.op (.nilc (.tmp 10))), none⟩,
      ⟨(some 12), (.op (.faddr 1 (.tmp 11))), none⟩,
      ⟨(some 13), (.op (.load none (.tmp 12))), none⟩,
      ⟨(some 7), (.op (.mv (.cst (.int .i64 0)))), none⟩,
      ⟨(some 8), (.op (.mv (.tmp 13))), none⟩] [0, 1, 2, 3, 4, 5] [[], [], [], [], [], []] [])
    (.seq (.block 0
      (.loop
        (.seq (.seq (.draw [
          ⟨(some 14), (.op (.mv (.tmp 0))), none⟩,
          ⟨(some 15), (.op (.nilc (.tmp 14))), none⟩,
          ⟨(some 16), (.op (.faddr 2 (.tmp 15))), none⟩,
          ⟨(some 17), (.op (.load none (.tmp 16))), none⟩,
          ⟨(some 18), (.op (.un .not (.tmp 17))), none⟩,
          ⟨(some 19), (.op (.mv (.tmp 18))), none⟩,
          ⟨(some 20), (.op (.mv (.tmp 0))), (some (19, true))⟩,
          ⟨(some 21), (.op (.nilc (.tmp 20))), (some (19, true))⟩,
          ⟨(some 22), (.op (.faddr 1 (.tmp 21))), (some (19, true))⟩,
          ⟨(some 23), (.op (.load none (.tmp 22))), (some (19, true))⟩,
          ⟨(some 24), (.op (.mv (.tmp 0))), (some (19, true))⟩,
          ⟨(some 25), (.op (.nilc (.tmp 24))), (some (19, true))⟩,
          ⟨(some 26), (.op (.faddr 0 (.tmp 25))), (some (19, true))⟩,
          ⟨(some 27), (.op (.load none (.tmp 26))), (some (19, true))⟩,
          ⟨(some 28), (.op (.len .slice (.tmp 27))), (some (19, true))⟩,
          ⟨(some 29), (.op (.bin .lss none (.tmp 23) (.tmp 28))), (some (19, true))⟩,
          ⟨(some 30), (.op (.pick (.tmp 19) (.tmp 29) (.cst (.bool false)))), none⟩,
          ⟨(some 31), (.op (.mv (.tmp 30))), none⟩,
          ⟨(some 32), (.op (.mv (.tmp 0))), (some (31, true))⟩,
          ⟨(some 33), (.op (.nilc (.tmp 32))), (some (31, true))⟩,
          ⟨(some 34), (.op (.faddr 0 (.tmp 33))), (some (31, true))⟩,
          ⟨(some 35), (.op (.load none (.tmp 34))), (some (31, true))⟩,
          ⟨(some 36), (.op (.mv (.tmp 0))), (some (31, true))⟩,
          ⟨(some 37), (.op (.nilc (.tmp 36))), (some (31, true))⟩,
          ⟨(some 38), (.op (.faddr 1 (.tmp 37))), (some (31, true))⟩,
          ⟨(some 39), (.op (.load none (.tmp 38))), (some (31, true))⟩,
          ⟨(some 40), (.op (.idxS 1 (.tmp 35) (.tmp 39))), (some (31, true))⟩,
          ⟨(some 41), (.op (.load none (.tmp 40))), (some (31, true))⟩,
          ⟨(some 42), (.op (.bin .geq none (.tmp 41) (.cst (.int .u8 48)))), (some (31, true))⟩,
          ⟨(some 43), (.op (.pick (.tmp 31) (.tmp 42) (.cst (.bool false)))), none⟩,
          ⟨(some 44), (.op (.mv (.tmp 43))), none⟩,
          ⟨(some 45), (.op (.mv (.tmp 0))), (some (44, true))⟩,
          ⟨(some 46), (.op (.nilc (.tmp 45))), (some (44, true))⟩,
          ⟨(some 47), (.op (.faddr 0 (.tmp 46))), (some (44, true))⟩,
          ⟨(some 48), (.op (.load none (.tmp 47))), (some (44, true))⟩,
          ⟨(some 49), (.op (.mv (.tmp 0))), (some (44, true))⟩,
          ⟨(some 50), (.op (.nilc (.tmp 49))), (some (44, true))⟩,
          ⟨(some 51), (.op (.faddr 1 (.tmp 50))), (some (44, true))⟩,
          ⟨(some 52), (.op (.load none (.tmp 51))), (some (44, true))⟩,
          ⟨(some 53), (.op (.idxS 1 (.tmp 48) (.tmp 52))), (some (44, true))⟩,
          ⟨(some 54), (.op (.load none (.tmp 53))), (some (44, true))⟩,
          ⟨(some 55), (.op (.bin .leq none (.tmp 54) (.cst (.int .u8 57)))), (some (44, true))⟩,
          ⟨(some 56), (.op (.pick (.tmp 44) (.tmp 55) (.cst (.bool false)))), none⟩] [0, 1, 2, 3, 4, 5, 6, 7, 8, 9, 10, 11, 12, 13, 14, 15, 16, 17, 18, 19, 20, 21, 22, 23, 24, 25, 26, 27, 28, 29, 30, 31, 32, 33, 34, 35, 36, 37, 38, 39, 40, 41, 42] [[], [], [], [], [], [], [], [], [], [], [], [], [], [], [], [], [], [], [], [], [], [], [], [], [], [], [], [], [], [], [], [], [], [], [], [], [], [], [], [], [], [], []] [])
        (.cond (.tmp 56)
          .skip
          (.exit 0)))
        (.block 1
          (.seq (.draw [
            ⟨(some 57), (.op (.mv (.tmp 7))), none⟩,
            ⟨(some 58), (.op (.bin .mul none (.cst (.int .i64 10)) (.tmp 57))), none⟩,
            ⟨(some 59), (.op (.mv (.tmp 0))), none⟩,
            ⟨(some 60), (.op (.nilc (.tmp 59))), none⟩,
            ⟨(some 61), (.op (.faddr 0 (.tmp 60))), none⟩,
            ⟨(some 62), (.op (.load none (.tmp 61))), none⟩,
            ⟨(some 63), (.op (.mv (.tmp 0))), none⟩,
            ⟨(some 64), (.op (.nilc (.tmp 63))), none⟩,
            ⟨(some 65), (.op (.faddr 1 (.tmp 64))), none⟩,
            ⟨(some 66), (.op (.load none (.tmp 65))), none⟩,
            ⟨(some 67), (.op (.idxS 1 (.tmp 62) (.tmp 66))), none⟩,
            ⟨(some 68), (.op (.load none (.tmp 67))), none⟩,
            ⟨(some 69), (.op (.bin .sub none (.tmp 68) (.cst (.int .u8 48)))), none⟩,
            ⟨(some 70), (.op (.cInt .i64 (.tmp 69))), none⟩,
            ⟨(some 71), (.op (.bin .add none (.tmp 58) (.tmp 70))), none⟩,
            ⟨(some 9), (.op (.mv (.tmp 71))), none⟩] [0, 1, 2, 3, 4, 5, 6, 7, 8, 9, 10, 11, 12, 13, 14, 15] [[], [], [], [], [], [], [], [], [], [], [], [], [], [], [], []] [])
          (.seq (.seq (.region [
            ⟨(some 72), (.op (.mv (.tmp 9))), none⟩,
            ⟨(some 73), (.op (.mv (.tmp 2))), none⟩,
            ⟨(some 74), (.op (.bin .gtr none (.tmp 72) (.tmp 73))), none⟩,
            ⟨(some 75), (.op (.mv (.tmp 74))), none⟩,
            ⟨(some 76), (.op (.mv (.tmp 9))), (some (75, false))⟩,
            ⟨(some 77), (.op (.mv (.tmp 1))), (some (75, false))⟩,
            ⟨(some 78), (.op (.bin .lss none (.tmp 76) (.tmp 77))), (some (75, false))⟩,
            ⟨(some 79), (.op (.pick (.tmp 75) (.cst (.bool true)) (.tmp 78))), none⟩,
            ⟨(some 80), (.op (.mv (.tmp 79))), none⟩,
            ⟨(some 81), (.op (.mv (.tmp 0))), (some (80, false))⟩,
            ⟨(some 82), (.op (.nilc (.tmp 81))), (some (80, false))⟩,
            ⟨(some 83), (.op (.faddr 1 (.tmp 82))), (some (80, false))⟩,
            ⟨(some 84), (.op (.load none (.tmp 83))), (some (80, false))⟩,
            ⟨(some 85), (.op (.mv (.tmp 8))), (some (80, false))⟩,
            ⟨(some 86), (.op (.bin .gtr none (.tmp 84) (.tmp 85))), (some (80, false))⟩,
            ⟨(some 87), (.op (.mv (.tmp 86))), (some (80, false))⟩,
            ⟨(some 88), (.op (.mv (.tmp 7))), (some (87, true))⟩,
            ⟨(some 89), (.op (.bin .eql (some .int) (.tmp 88) (.cst (.int .i64 0)))), (some (87, true))⟩,
            ⟨(some 90), (.op (.pick (.tmp 87) (.tmp 89) (.cst (.bool false)))), (some (80, false))⟩,
            ⟨(some 91), (.op (.pick (.tmp 80) (.cst (.bool true)) (.tmp 90))), none⟩] [])
          (.cond (.tmp 91)
            (.exit 0)
            .skip))
          (.seq (.region [
            ⟨(some 92), (.op (.mv (.tmp 9))), none⟩,
            ⟨(some 7), (.op (.mv (.tmp 92))), none⟩] [])
          (.region [
            ⟨(some 93), (.op (.mv (.tmp 0))), none⟩,
            ⟨(some 94), (.op (.nilc (.tmp 93))), none⟩,
            ⟨(some 95), (.op (.faddr 1 (.tmp 94))), none⟩,
            ⟨(some 96), (.op (.load none (.tmp 95))), none⟩,
            ⟨(some 97), (.op (.bin .add none (.tmp 96) (.cst (.int .i64 1)))), none⟩,
            ⟨(some 98), (.op (.nilc (.tmp 93))), none⟩,
            ⟨(some 99), (.op (.faddr 1 (.tmp 98))), none⟩,
            ⟨none, (.op (.store 1 (.tmp 99) (.tmp 97))), none⟩] []))))))))
    (.seq (.region [
      ⟨(some 100), (.op (.mv (.tmp 0))), none⟩,
      ⟨(some 101), (.op (.mv (.tmp 0))), none⟩,
      ⟨(some 102), (.op (.nilc (.tmp 101))), none⟩,
      ⟨(some 103), (.op (.faddr 2 (.tmp 102))), none⟩,
      ⟨(some 104), (.op (.load none (.tmp 103))), none⟩,
      ⟨(some 105), (.op (.mv (.tmp 104))), none⟩,
      ⟨(some 106), (.op (.mv (.tmp 0))), (some (105, false))⟩,
      ⟨(some 107), (.op (.nilc (.tmp 106))), (some (105, false))⟩,
      ⟨(some 108), (.op (.faddr 1 (.tmp 107))), (some (105, false))⟩,
      ⟨(some 109), (.op (.load none (.tmp 108))), (some (105, false))⟩,
      ⟨(some 110), (.op (.mv (.tmp 8))), (some (105, false))⟩,
      ⟨(some 111), (.op (.bin .eql (some .int) (.tmp 109) (.tmp 110))), (some (105, false))⟩,
      ⟨(some 112), (.op (.pick (.tmp 105) (.cst (.bool true)) (.tmp 111))), none⟩,
      ⟨(some 113), (.op (.nilc (.tmp 100))), none⟩,
      ⟨(some 114), (.op (.faddr 2 (.tmp 113))), none⟩,
      ⟨none, (.op (.store 1 (.tmp 114) (.tmp 112))), none⟩] [])
    (.seq (.region [
      ⟨(some 115), (.op (.mv (.tmp 7))), none⟩,
      ⟨(some 6), (.op (.mv (.tmp 115))), none⟩] [])
    .ret)))))⟩
theorem c62 : cFn Tryd.prog [] Tryd.f62 = some h62 := by kernel_rfl
/-- (*stint/answers.cursor).bytes -/
def h63 : HFn :=
  ⟨55, [(.tmp 4)],
    (.seq (.region [
      ⟨(some 4), (.op (.mv (.cst .nilSlice))), none⟩] [])
    (.seq (.seq (.region [
      ⟨(some 6), (.op (.mv (.tmp 0))), none⟩,
      ⟨(some 7), (.op (.nilc (.tmp 6))), none⟩,
      ⟨(some 8), (.op (.faddr 2 (.tmp 7))), none⟩,
      ⟨(some 9), (.op (.load none (.tmp 8))), none⟩] [])
    (.cond (.tmp 9)
      (.seq (.region [
        ⟨(some 4), (.op (.mv (.cst .nilSlice))), none⟩] [])
      .ret)
      .skip))
    (.seq (.seq (.draw [
      ⟨(some 10), (.op (.mv (.tmp 0))), none⟩,
      ⟨(some 11), (.op (.nilc (.tmp 10))), none⟩,
      ⟨(some 12), (.op (.faddr 0 (.tmp 11))), none⟩,
      ⟨(some 13), (.op (.load none (.tmp 12))), none⟩,
      ⟨(some 14), (.op (.len .slice (.tmp 13))), none⟩,
      ⟨(some 15), (.op (.mv (.tmp 0))), none⟩,
      ⟨(some 16), (.op (.nilc (.tmp 15))), none⟩,
      ⟨(some 17), (.op (.faddr 1 (.tmp 16))), none⟩,
      ⟨(some 18), (.op (.load none (.tmp 17))), none⟩,
      ⟨(some 19), (.op (.bin .sub none (.tmp 14) (.tmp 18))), none⟩,
      ⟨(some 20), (.op (.mv (.tmp 1))), none⟩,
      ⟨(some 21), (.op (.bin .lss none (.tmp 19) (.tmp 20))), none⟩] [0, 1, 2, 3, 4, 5, 6, 7, 8, 9, 10, 11] [[], [], [], [], [], [], [], [], [], [], [], []] [])
    (.cond (.tmp 21)
      (.seq (.region [
        ⟨(some 22), (.op (.mv (.tmp 0))), none⟩,
        ⟨(some 23), (.op (.mv (.tmp 0))), none⟩,
        ⟨(some 24), (.op (.mv (.tmp 0))), none⟩,
        ⟨(some 25), (.op (.nilc (.tmp 24))), none⟩,
        ⟨(some 26), (.op (.faddr 0 (.tmp 25))), none⟩,
        ⟨(some 27), (.op (.load none (.tmp 26))), none⟩,
        ⟨(some 28), (.op (.len .slice (.tmp 27))), none⟩,
        ⟨(some 29), (.op (.nilc (.tmp 22))), none⟩,
        ⟨(some 30), (.op (.faddr 1 (.tmp 29))), none⟩,
        ⟨none, (.op (.store 1 (.tmp 30) (.tmp 28))), none⟩,
        ⟨(some 31), (.op (.nilc (.tmp 23))), none⟩,
        ⟨(some 32), (.op (.faddr 2 (.tmp 31))), none⟩,
        ⟨none, (.op (.store 1 (.tmp 32) (.cst (.bool true)))), none⟩] [])
      (.seq (.region [
        ⟨(some 4), (.op (.mv (.cst .nilSlice))), none⟩] [])
      .ret))
      .skip))
    (.seq (.region [
      ⟨(some 33), (.op (.mv (.tmp 1))), none⟩,
      ⟨(some 34), (.op (.mkSlice 1 1 [(.int .u8 0)] (.tmp 33) (.tmp 33))), none⟩,
      ⟨(some 5), (.op (.mv (.tmp 34))), none⟩] [])
    (.seq (.draw [
      ⟨(some 35), (.op (.mv (.tmp 5))), none⟩,
      ⟨(some 36), (.op (.mv (.tmp 0))), none⟩,
      ⟨(some 37), (.op (.nilc (.tmp 36))), none⟩,
      ⟨(some 38), (.op (.faddr 0 (.tmp 37))), none⟩,
      ⟨(some 39), (.op (.load none (.tmp 38))), none⟩,
      ⟨(some 40), (.op (.mv (.tmp 0))), none⟩,
      ⟨(some 41), (.op (.nilc (.tmp 40))), none⟩,
      ⟨(some 42), (.op (.faddr 1 (.tmp 41))), none⟩,
      ⟨(some 43), (.op (.load none (.tmp 42))), none⟩,
      ⟨(some 44), (.op (.sliceSl 1 (.tmp 39) (some (.tmp 43)) none none)), none⟩,
      ⟨(some 45), (.op (.copy 1 (.tmp 35) (.tmp 44))), none⟩] [0, 1, 2, 3, 4, 5, 6, 7, 8, 9, 10] [[], [], [], [], [], [], [], [], [], [], [9, 4, 8]] [])
    (.seq (.region [
      ⟨(some 46), (.op (.mv (.tmp 0))), none⟩,
      ⟨(some 47), (.op (.nilc (.tmp 46))), none⟩,
      ⟨(some 48), (.op (.faddr 1 (.tmp 47))), none⟩,
      ⟨(some 49), (.op (.load none (.tmp 48))), none⟩,
      ⟨(some 50), (.op (.mv (.tmp 1))), none⟩,
      ⟨(some 51), (.op (.bin .add none (.tmp 49) (.tmp 50))), none⟩,
      ⟨(some 52), (.op (.nilc (.tmp 46))), none⟩,
      ⟨(some 53), (.op (.faddr 1 (.tmp 52))), none⟩,
      ⟨none, (.op (.store 1 (.tmp 53) (.tmp 51))), none⟩] [])
    (.seq (.region [
      ⟨(some 54), (.op (.mv (.tmp 5))), none⟩,
      ⟨(some 4), (.op (.mv (.tmp 54))), none⟩] [])
    .ret)))))))⟩
theorem c63 : cFn Tryd.prog [] Tryd.f63 = some h63 := by kernel_rfl
/-- (*stint/answers.cursor).name -/
def h64 : HFn :=
  ⟨73, [(.tmp 2)],
    (.seq (.region [
      ⟨(some 2), (.op (.mv (.cst (.str [])))), none⟩] [])
    (.seq (.region [
      ⟨(some 4), (.op (.mv (.tmp 0))), none⟩,
      ⟨(some 5), (.op (.nilc (.tmp 4))), none⟩,
      ⟨(some 6), (.op (.faddr 1 (.tmp 5))), none⟩,
      ⟨(some 7), (.op (.load none (.tmp 6))), none⟩,
      ⟨(some 3), (.op (.mv (.tmp 7))), none⟩] [])
    (.seq (.block 0
      (.loop
        (.seq (.seq (.draw [
          ⟨(some 8), (.op (.mv (.tmp 0))), none⟩,
          ⟨(some 9), (.op (.nilc (.tmp 8))), none⟩,
          ⟨(some 10), (.op (.faddr 2 (.tmp 9))), none⟩,
          ⟨(some 11), (.op (.load none (.tmp 10))), none⟩,
          ⟨(some 12), (.op (.un .not (.tmp 11))), none⟩,
          ⟨(some 13), (.op (.mv (.tmp 12))), none⟩,
          ⟨(some 14), (.op (.mv (.tmp 0))), (some (13, true))⟩,
          ⟨(some 15), (.op (.nilc (.tmp 14))), (some (13, true))⟩,
          ⟨(some 16), (.op (.faddr 1 (.tmp 15))), (some (13, true))⟩,
          ⟨(some 17), (.op (.load none (.tmp 16))), (some (13, true))⟩,
          ⟨(some 18), (.op (.mv (.tmp 0))), (some (13, true))⟩,
          ⟨(some 19), (.op (.nilc (.tmp 18))), (some (13, true))⟩,
          ⟨(some 20), (.op (.faddr 0 (.tmp 19))), (some (13, true))⟩,
          ⟨(some 21), (.op (.load none (.tmp 20))), (some (13, true))⟩,
          ⟨(some 22), (.op (.len .slice (.tmp 21))), (some (13, true))⟩,
          ⟨(some 23), (.op (.bin .lss none (.tmp 17) (.tmp 22))), (some (13, true))⟩,
          ⟨(some 24), (.op (.pick (.tmp 13) (.tmp 23) (.cst (.bool false)))), none⟩,
          ⟨(some 25), (.op (.mv (.tmp 24))), none⟩,
          ⟨(some 26), (.op (.mv (.tmp 0))), (some (25, true))⟩,
          ⟨(some 27), (.op (.nilc (.tmp 26))), (some (25, true))⟩,
          ⟨(some 28), (.op (.faddr 0 (.tmp 27))), (some (25, true))⟩,
          ⟨(some 29), (.op (.load none (.tmp 28))), (some (25, true))⟩,
          ⟨(some 30), (.op (.mv (.tmp 3))), (some (25, true))⟩,
          ⟨(some 31), (.op (.mv (.tmp 0))), (some (25, true))⟩,
          ⟨(some 32), (.op (.nilc (.tmp 31))), (some (25, true))⟩,
          ⟨(some 33), (.op (.faddr 1 (.tmp 32))), (some (25, true))⟩,
          ⟨(some 34), (.op (.load none (.tmp 33))), (some (25, true))⟩,
          ⟨(some 35), (.op (.bin .add none (.tmp 34) (.cst (.int .i64 1)))), (some (25, true))⟩,
          ⟨(some 36), (.op (.sliceSl 1 (.tmp 29) (some (.tmp 30)) (some (.tmp 35)) none)), (some (25, true))⟩,
          ⟨(some 37), (.op (.b2s (.tmp 36))), (some (25, true))⟩,
          ⟨(some 38), (.call (.cst (.func (.func 37) [] [])) [(.tmp 37)]), (some (25, true))⟩,
          ⟨(some 39), (.op (.pick (.tmp 25) (.tmp 38) (.cst (.bool false)))), none⟩] [0, 1, 2, 3, 4, 5, 6, 7, 8, 9, 10, 11, 12, 13, 14, 15, 16, 17, 18, 19, 20, 21, 22, 23, 24, 25, 26, 27, 28, 29, 30, 31] [[], [], [], [], [], [], [], [], [], [], [], [], [], [], [], [], [], [], [], [], [], [], [], [], [], [], [], [], [], [], [29, 28, 21, 3, 9, 14, 13, 26], []] [])
        (.cond (.tmp 39)
          .skip
          (.exit 0)))
        (.block 1
          (.region [
            ⟨(some 40), (.op (.mv (.tmp 0))), none⟩,
            ⟨(some 41), (.op (.nilc (.tmp 40))), none⟩,
            ⟨(some 42), (.op (.faddr 1 (.tmp 41))), none⟩,
            ⟨(some 43), (.op (.load none (.tmp 42))), none⟩,
            ⟨(some 44), (.op (.bin .add none (.tmp 43) (.cst (.int .i64 1)))), none⟩,
            ⟨(some 45), (.op (.nilc (.tmp 40))), none⟩,
            ⟨(some 46), (.op (.faddr 1 (.tmp 45))), none⟩,
            ⟨none, (.op (.store 1 (.tmp 46) (.tmp 44))), none⟩] [])))))
    (.seq (.region [
      ⟨(some 47), (.op (.mv (.tmp 0))), none⟩,
      ⟨(some 48), (.op (.mv (.tmp 0))), none⟩,
      ⟨(some 49), (.op (.nilc (.tmp 48))), none⟩,
      ⟨(some 50), (.op (.faddr 2 (.tmp 49))), none⟩,
      ⟨(some 51), (.op (.load none (.tmp 50))), none⟩,
      ⟨(some 52), (.op (.mv (.tmp 51))), none⟩,
      ⟨(some 53), (.op (.mv (.tmp 0))), (some (52, false))⟩,
      ⟨(some 54), (.op (.nilc (.tmp 53))), (some (52, false))⟩,
      ⟨(some 55), (.op (.faddr 1 (.tmp 54))), (some (52, false))⟩,
      ⟨(some 56), (.op (.load none (.tmp 55))), (some (52, false))⟩,
      ⟨(some 57), (.op (.mv (.tmp 3))), (some (52, false))⟩,
      ⟨(some 58), (.op (.bin .eql (some .int) (.tmp 56) (.tmp 57))), (some (52, false))⟩,
      ⟨(some 59), (.op (.pick (.tmp 52) (.cst (.bool true)) (.tmp 58))), none⟩,
      ⟨(some 60), (.op (.nilc (.tmp 47))), none⟩,
      ⟨(some 61), (.op (.faddr 2 (.tmp 60))), none⟩,
      ⟨none, (.op (.store 1 (.tmp 61) (.tmp 59))), none⟩] [])
    (.seq (.draw [
      ⟨(some 62), (.op (.mv (.tmp 0))), none⟩,
      ⟨(some 63), (.op (.nilc (.tmp 62))), none⟩,
      ⟨(some 64), (.op (.faddr 0 (.tmp 63))), none⟩,
      ⟨(some 65), (.op (.load none (.tmp 64))), none⟩,
      ⟨(some 66), (.op (.mv (.tmp 3))), none⟩,
      ⟨(some 67), (.op (.mv (.tmp 0))), none⟩,
      ⟨(some 68), (.op (.nilc (.tmp 67))), none⟩,
      ⟨(some 69), (.op (.faddr 1 (.tmp 68))), none⟩,
      ⟨(some 70), (.op (.load none (.tmp 69))), none⟩,
      ⟨(some 71), (.op (.sliceSl 1 (.tmp 65) (some (.tmp 66)) (some (.tmp 70)) none)), none⟩,
      ⟨(some 72), (.op (.b2s (.tmp 71))), none⟩,
      ⟨(some 2), (.op (.mv (.tmp 72))), none⟩] [0, 1, 2, 3, 4, 5, 6, 7, 8, 9, 10, 11] [[], [], [], [], [], [], [], [], [], [], [], []] [])
    .ret)))))⟩
theorem c64 : cFn Tryd.prog [] Tryd.f64 = some h64 := by kernel_rfl
/-- internal/stringslite.IndexByte -/
def h68 : HFn :=
  ⟨8, [(.tmp 4)],
    (.seq (.region [
      ⟨(some 4), (.op (.mv (.cst (.int .i64 0)))), none⟩] [])
    (.seq (.region [
      ⟨(some 5), (.op (.mv (.tmp 0))), none⟩,
      ⟨(some 6), (.op (.mv (.tmp 1))), none⟩,
      ⟨(some 7), (.call (.cst (.func (.func 73) [] [])) [(.tmp 5), (.tmp 6)]), none⟩,
      ⟨(some 4), (.op (.mv (.tmp 7))), none⟩] [])
    .ret))⟩
theorem c68 : cFn Tryd.prog [] Tryd.f68 = some h68 := by kernel_rfl
/-- internal/strconv.FormatInt -/
def h69 : HFn :=
  ⟨54, [(.tmp 4)],
    (.seq (.region [
      ⟨(some 4), (.op (.mv (.cst (.str [])))), none⟩] [])
    (.seq (.seq (.region [
      ⟨(some 10), (.op (.mv (.tmp 1))), none⟩,
      ⟨(some 11), (.op (.bin .eql (some .int) (.tmp 10) (.cst (.int .i64 10)))), none⟩] [])
    (.cond (.tmp 11)
      (.seq (.seq (.region [
        ⟨(some 12), (.op (.mv (.tmp 0))), none⟩,
        ⟨(some 13), (.op (.bin .leq none (.cst (.int .i64 0)) (.tmp 12))), none⟩,
        ⟨(some 14), (.op (.mv (.tmp 13))), none⟩,
        ⟨(some 15), (.op (.mv (.tmp 0))), (some (14, true))⟩,
        ⟨(some 16), (.op (.bin .lss none (.tmp 15) (.cst (.int .i64 100)))), (some (14, true))⟩,
        ⟨(some 17), (.op (.pick (.tmp 14) (.tmp 16) (.cst (.bool false)))), none⟩] [])
      (.cond (.tmp 17)
        (.seq (.region [
          ⟨(some 18), (.op (.mv (.tmp 0))), none⟩,
          ⟨(some 19), (.call (.cst (.func (.func 74) [] [])) [(.tmp 18)]), none⟩,
          ⟨(some 4), (.op (.mv (.tmp 19))), none⟩] [])
        .ret)
        .skip))
      (.seq (.region [
        ⟨(some 5), (.op (.box (.cst (.agg [(.int .u8 0), (.int .u8 0), (.int .u8 0), (.int .u8 0), (.int .u8 0), (.int .u8 0), (.int .u8 0), (.int .u8 0), (.int .u8 0), (.int .u8 0), (.int .u8 0), (.int .u8 0), (.int .u8 0), (.int .u8 0), (.int .u8 0), (.int .u8 0), (.int .u8 0), (.int .u8 0), (.int .u8 0), (.int .u8 0), (.int .u8 0), (.int .u8 0), (.int .u8 0), (.int .u8 0)])))), none⟩] [])
      (.seq (.region [
        ⟨(some 20), (.op (.mv (.tmp 0))), none⟩,
        ⟨(some 21), (.op (.cInt .u64 (.tmp 20))), none⟩,
        ⟨(some 6), (.op (.mv (.tmp 21))), none⟩] [])
      (.seq (.seq (.region [
        ⟨(some 22), (.op (.mv (.tmp 0))), none⟩,
        ⟨(some 23), (.op (.bin .lss none (.tmp 22) (.cst (.int .i64 0)))), none⟩] [])
      (.cond (.tmp 23)
        (.region [
          ⟨(some 24), (.op (.mv (.tmp 6))), none⟩,
          ⟨(some 25), (.op (.un .neg (.tmp 24))), none⟩,
          ⟨(some 6), (.op (.mv (.tmp 25))), none⟩] [])
        .skip))
      (.seq (.region [
        ⟨(some 26), (.op (.mv (.tmp 6))), none⟩,
        ⟨(some 27), (.call (.cst (.func (.func 75) [] [])) [(.tmp 26)]), none⟩,
        ⟨(some 7), (.op (.mv (.tmp 27))), none⟩] [])
      (.seq (.region [
        ⟨(some 28), (.op (.mv (.tmp 7))), none⟩,
        ⟨(some 29), (.op (.bin .add none (.cst (.int .i64 1)) (.tmp 28))), none⟩,
        ⟨(some 30), (.op (.sliceArr 24 1 (.tmp 5) (some (.cst (.int .i64 1))) (some (.tmp 29)) none)), none⟩,
        ⟨(some 31), (.op (.mv (.tmp 6))), none⟩,
        ⟨(some 32), (.call (.cst (.func (.func 76) [] [])) [(.tmp 30), (.tmp 31)]), none⟩] [])
      (.seq (.seq (.region [
        ⟨(some 33), (.op (.mv (.tmp 0))), none⟩,
        ⟨(some 34), (.op (.bin .lss none (.tmp 33) (.cst (.int .i64 0)))), none⟩] [])
      (.cond (.tmp 34)
        (.seq (.region [
          ⟨(some 35), (.op (.idxA 24 1 (.tmp 5) (.cst (.int .i64 0)))), none⟩,
          ⟨none, (.op (.store 1 (.tmp 35) (.cst (.int .u8 45)))), none⟩] [])
        (.seq (.region [
          ⟨(some 36), (.op (.mv (.tmp 7))), none⟩,
          ⟨(some 37), (.op (.bin .add none (.cst (.int .i64 1)) (.tmp 36))), none⟩,
          ⟨(some 38), (.op (.sliceArr 24 1 (.tmp 5) none (some (.tmp 37)) none)), none⟩,
          ⟨(some 39), (.op (.b2s (.tmp 38))), none⟩,
          ⟨(some 4), (.op (.mv (.tmp 39))), none⟩] [])
        .ret))
        .skip))
      (.seq (.region [
        ⟨(some 40), (.op (.mv (.tmp 7))), none⟩,
        ⟨(some 41), (.op (.bin .add none (.cst (.int .i64 1)) (.tmp 40))), none⟩,
        ⟨(some 42), (.op (.sliceArr 24 1 (.tmp 5) (some (.cst (.int .i64 1))) (some (.tmp 41)) none)), none⟩,
        ⟨(some 43), (.op (.b2s (.tmp 42))), none⟩,
        ⟨(some 4), (.op (.mv (.tmp 43))), none⟩] [])
      .ret))))))))
      .skip))
    (.seq (.region [
      ⟨(some 45), (.op (.mv (.tmp 0))), none⟩,
      ⟨(some 46), (.op (.cInt .u64 (.tmp 45))), none⟩,
      ⟨(some 47), (.op (.mv (.tmp 1))), none⟩,
      ⟨(some 48), (.op (.mv (.tmp 0))), none⟩,
      ⟨(some 49), (.op (.bin .lss none (.tmp 48) (.cst (.int .i64 0)))), none⟩,
      ⟨(some 50), (.call (.cst (.func (.func 77) [] [])) [(.cst .nilSlice), (.tmp 46), (.tmp 47), (.tmp 49), (.cst (.bool false))]), none⟩,
      ⟨(some 44), (.op (.mv (.tmp 50))), none⟩,
      ⟨(some 51), (.op (.ext 0 (.tmp 44))), none⟩,
      ⟨(some 52), (.op (.ext 1 (.tmp 44))), none⟩,
      ⟨(some 8), (.op (.mv (.tmp 51))), none⟩,
      ⟨(some 9), (.op (.mv (.tmp 52))), none⟩] [])
    (.seq (.region [
      ⟨(some 53), (.op (.mv (.tmp 9))), none⟩,
      ⟨(some 4), (.op (.mv (.tmp 53))), none⟩] [])
    .ret))))⟩
theorem c69 : cFn Tryd.prog [] Tryd.f69 = some h69 := by kernel_rfl
/-- internal/strconv.small -/
def h74 : HFn :=
  ⟨15, [(.tmp 2)],
    (.seq (.region [
      ⟨(some 2), (.op (.mv (.cst (.str [])))), none⟩] [])
    (.seq (.seq (.region [
      ⟨(some 3), (.op (.mv (.tmp 0))), none⟩,
      ⟨(some 4), (.op (.bin .lss none (.tmp 3) (.cst (.int .i64 10)))), none⟩] [])
    (.cond (.tmp 4)
      (.seq (.region [
        ⟨(some 5), (.op (.mv (.tmp 0))), none⟩,
        ⟨(some 6), (.op (.mv (.tmp 0))), none⟩,
        ⟨(some 7), (.op (.bin .add none (.tmp 6) (.cst (.int .i64 1)))), none⟩,
        ⟨(some 8), (.op (.sliceStr (.cst (.str [48, 49, 50, 51, 52, 53, 54, 55, 56, 57, 97, 98, 99, 100, 101, 102, 103, 104, 105, 106, 107, 108, 109, 110, 111, 112, 113, 114, 115, 116, 117, 118, 119, 120, 121, 122])) (some (.tmp 5)) (some (.tmp 7)))), none⟩,
        ⟨(some 2), (.op (.mv (.tmp 8))), none⟩] [])
      .ret)
      .skip))
    (.seq (.region [
      ⟨(some 9), (.op (.mv (.tmp 0))), none⟩,
      ⟨(some 10), (.op (.bin .mul none (.tmp 9) (.cst (.int .i64 2)))), none⟩,
      ⟨(some 11), (.op (.mv (.tmp 0))), none⟩,
      ⟨(some 12), (.op (.bin .mul none (.tmp 11) (.cst (.int .i64 2)))), none⟩,
      ⟨(some 13), (.op (.bin .add none (.tmp 12) (.cst (.int .i64 2)))), none⟩,
      ⟨(some 14), (.op (.sliceStr (.cst (.str [48, 48, 48, 49, 48, 50, 48, 51, 48, 52, 48, 53, 48, 54, 48, 55, 48, 56, 48, 57, 49, 48, 49, 49, 49, 50, 49, 51, 49, 52, 49, 53, 49, 54, 49, 55, 49, 56, 49, 57, 50, 48, 50, 49, 50, 50, 50, 51, 50, 52, 50, 53, 50, 54, 50, 55, 50, 56, 50, 57, 51, 48, 51, 49, 51, 50, 51, 51, 51, 52, 51, 53, 51, 54, 51, 55, 51, 56, 51, 57, 52, 48, 52, 49, 52, 50, 52, 51, 52, 52, 52, 53, 52, 54, 52, 55, 52, 56, 52, 57, 53, 48, 53, 49, 53, 50, 53, 51, 53, 52, 53, 53, 53, 54, 53, 55, 53, 56, 53, 57, 54, 48, 54, 49, 54, 50, 54, 51, 54, 52, 54, 53, 54, 54, 54, 55, 54, 56, 54, 57, 55, 48, 55, 49, 55, 50, 55, 51, 55, 52, 55, 53, 55, 54, 55, 55, 55, 56, 55, 57, 56, 48, 56, 49, 56, 50, 56, 51, 56, 52, 56, 53, 56, 54, 56, 55, 56, 56, 56, 57, 57, 48, 57, 49, 57, 50, 57, 51, 57, 52, 57, 53, 57, 54, 57, 55, 57, 56, 57, 57])) (some (.tmp 10)) (some (.tmp 13)))), none⟩,
      ⟨(some 2), (.op (.mv (.tmp 14))), none⟩] [])
    .ret)))⟩
theorem c74 : cFn Tryd.prog [] Tryd.f74 = some h74 := by kernel_rfl
/-- internal/strconv.numDigits -/
def h75 : HFn :=
  ⟨15, [(.tmp 2)],
    (.seq (.region [
      ⟨(some 2), (.op (.mv (.cst (.int .i64 0)))), none⟩] [])
    (.seq (.region [
      ⟨(some 4), (.op (.mv (.tmp 0))), none⟩,
      ⟨(some 5), (.call (.cst (.func (.func 80) [] [])) [(.tmp 4)]), none⟩,
      ⟨(some 6), (.call (.cst (.func (.func 79) [] [])) [(.tmp 5)]), none⟩,
      ⟨(some 3), (.op (.mv (.tmp 6))), none⟩] [])
    (.seq (.region [
      ⟨(some 7), (.op (.mv (.tmp 3))), none⟩,
      ⟨(some 8), (.op (.mv (.tmp 0))), none⟩,
      ⟨(some 9), (.op (.mv (.tmp 3))), none⟩,
      ⟨(some 10), (.op (.gidxA 20 1 1 (.tmp 9))), none⟩,
      ⟨(some 11), (.op (.load none (.tmp 10))), none⟩,
      ⟨(some 12), (.op (.bin .geq none (.tmp 8) (.tmp 11))), none⟩,
      ⟨(some 13), (.call (.cst (.func (.func 81) [] [])) [(.tmp 12)]), none⟩,
      ⟨(some 14), (.op (.bin .add none (.tmp 7) (.tmp 13))), none⟩,
      ⟨(some 2), (.op (.mv (.tmp 14))), none⟩] [])
    .ret)))⟩
theorem c75 : cFn Tryd.prog [] Tryd.f75 = some h75 := by kernel_rfl
/-- internal/strconv.formatBase10 -/
def h76 : HFn :=
  ⟨167, [],
    (.seq (.region [
      ⟨(some 17), (.op (.mv (.tmp 0))), none⟩,
      ⟨(some 18), (.op (.len .slice (.tmp 17))), none⟩,
      ⟨(some 4), (.op (.mv (.tmp 18))), none⟩] [])
    (.seq (.block 0
      (.loop
        (.seq (.seq (.region [
          ⟨(some 19), (.op (.mv (.tmp 4))), none⟩,
          ⟨(some 20), (.op (.bin .geq none (.tmp 19) (.cst (.int .i64 8)))), none⟩] [])
        (.cond (.tmp 20)
          .skip
          (.exit 0)))
        (.block 1
          (.seq (.region [
            ⟨(some 21), (.op (.mv (.tmp 1))), none⟩,
            ⟨(some 22), (.op (.bin .rem none (.tmp 21) (.cst (.int .u64 100000000)))), none⟩,
            ⟨(some 23), (.op (.cInt .u32 (.tmp 22))), none⟩,
            ⟨(some 5), (.op (.mv (.tmp 23))), none⟩] [])
          (.seq (.region [
            ⟨(some 24), (.op (.mv (.tmp 1))), none⟩,
            ⟨(some 25), (.op (.bin .quo none (.tmp 24) (.cst (.int .u64 100000000)))), none⟩,
            ⟨(some 1), (.op (.mv (.tmp 25))), none⟩] [])
          (.seq (.region [
            ⟨(some 26), (.op (.mv (.tmp 5))), none⟩,
            ⟨(some 27), (.op (.bin .quo none (.tmp 26) (.cst (.int .u32 10000)))), none⟩,
            ⟨(some 28), (.op (.mv (.tmp 5))), none⟩,
            ⟨(some 29), (.op (.bin .rem none (.tmp 28) (.cst (.int .u32 10000)))), none⟩,
            ⟨(some 6), (.op (.mv (.tmp 27))), none⟩,
            ⟨(some 7), (.op (.mv (.tmp 29))), none⟩] [])
          (.seq (.region [
            ⟨(some 30), (.op (.mv (.tmp 7))), none⟩,
            ⟨(some 31), (.op (.bin .quo none (.tmp 30) (.cst (.int .u32 100)))), none⟩,
            ⟨(some 32), (.op (.bin .mul none (.tmp 31) (.cst (.int .u32 2)))), none⟩,
            ⟨(some 33), (.op (.mv (.tmp 7))), none⟩,
            ⟨(some 34), (.op (.bin .rem none (.tmp 33) (.cst (.int .u32 100)))), none⟩,
            ⟨(some 35), (.op (.bin .mul none (.tmp 34) (.cst (.int .u32 2)))), none⟩,
            ⟨(some 8), (.op (.mv (.tmp 32))), none⟩,
            ⟨(some 9), (.op (.mv (.tmp 35))), none⟩] [])
          (.seq (.region [
            ⟨(some 36), (.op (.mv (.tmp 6))), none⟩,
            ⟨(some 37), (.op (.bin .quo none (.tmp 36) (.cst (.int .u32 100)))), none⟩,
            ⟨(some 38), (.op (.bin .mul none (.tmp 37) (.cst (.int .u32 2)))), none⟩,
            ⟨(some 39), (.op (.mv (.tmp 6))), none⟩,
            ⟨(some 40), (.op (.bin .rem none (.tmp 39) (.cst (.int .u32 100)))), none⟩,
            ⟨(some 41), (.op (.bin .mul none (.tmp 40) (.cst (.int .u32 2)))), none⟩,
            ⟨(some 10), (.op (.mv (.tmp 38))), none⟩,
            ⟨(some 11), (.op (.mv (.tmp 41))), none⟩] [])
          (.seq (.draw [
            ⟨(some 42), (.op (.mv (.tmp 0))), none⟩,
            ⟨(some 43), (.op (.mv (.tmp 4))), none⟩,
            ⟨(some 44), (.op (.bin .sub none (.tmp 43) (.cst (.int .i64 1)))), none⟩,
            ⟨(some 45), (.op (.mv (.tmp 0))), none⟩,
            ⟨(some 46), (.op (.mv (.tmp 4))), none⟩,
            ⟨(some 47), (.op (.bin .sub none (.tmp 46) (.cst (.int .i64 2)))), none⟩,
            ⟨(some 48), (.op (.mv (.tmp 9))), none⟩,
            ⟨(some 49), (.op (.bin .add none (.tmp 48) (.cst (.int .u32 1)))), none⟩,
            ⟨(some 50), (.op (.idxStr (.cst (.str [48, 48, 48, 49, 48, 50, 48, 51, 48, 52, 48, 53, 48, 54, 48, 55, 48, 56, 48, 57, 49, 48, 49, 49, 49, 50, 49, 51, 49, 52, 49, 53, 49, 54, 49, 55, 49, 56, 49, 57, 50, 48, 50, 49, 50, 50, 50, 51, 50, 52, 50, 53, 50, 54, 50, 55, 50, 56, 50, 57, 51, 48, 51, 49, 51, 50, 51, 51, 51, 52, 51, 53, 51, 54, 51, 55, 51, 56, 51, 57, 52, 48, 52, 49, 52, 50, 52, 51, 52, 52, 52, 53, 52, 54, 52, 55, 52, 56, 52, 57, 53, 48, 53, 49, 53, 50, 53, 51, 53, 52, 53, 53, 53, 54, 53, 55, 53, 56, 53, 57, 54, 48, 54, 49, 54, 50, 54, 51, 54, 52, 54, 53, 54, 54, 54, 55, 54, 56, 54, 57, 55, 48, 55, 49, 55, 50, 55, 51, 55, 52, 55, 53, 55, 54, 55, 55, 55, 56, 55, 57, 56, 48, 56, 49, 56, 50, 56, 51, 56, 52, 56, 53, 56, 54, 56, 55, 56, 56, 56, 57, 57, 48, 57, 49, 57, 50, 57, 51, 57, 52, 57, 53, 57, 54, 57, 55, 57, 56, 57, 57])) (.tmp 49))), none⟩,
            ⟨(some 51), (.op (.mv (.tmp 9))), none⟩,
            ⟨(some 52), (.op (.idxStr (.cst (.str [48, 48, 48, 49, 48, 50, 48, 51, 48, 52, 48, 53, 48, 54, 48, 55, 48, 56, 48, 57, 49, 48, 49, 49, 49, 50, 49, 51, 49, 52, 49, 53, 49, 54, 49, 55, 49, 56, 49, 57, 50, 48, 50, 49, 50, 50, 50, 51, 50, 52, 50, 53, 50, 54, 50, 55, 50, 56, 50, 57, 51, 48, 51, 49, 51, 50, 51, 51, 51, 52, 51, 53, 51, 54, 51, 55, 51, 56, 51, 57, 52, 48, 52, 49, 52, 50, 52, 51, 52, 52, 52, 53, 52, 54, 52, 55, 52, 56, 52, 57, 53, 48, 53, 49, 53, 50, 53, 51, 53, 52, 53, 53, 53, 54, 53, 55, 53, 56, 53, 57, 54, 48, 54, 49, 54, 50, 54, 51, 54, 52, 54, 53, 54, 54, 54, 55, 54, 56, 54, 57, 55, 48, 55, 49, 55, 50, 55, 51, 55, 52, 55, 53, 55, 54, 55, 55, 55, 56, 55, 57, 56, 48, 56, 49, 56, 50, 56, 51, 56, 52, 56, 53, 56, 54, 56, 55, 56, 56, 56, 57, 57, 48, 57, 49, 57, 50, 57, 51, 57, 52, 57, 53, 57, 54, 57, 55, 57, 56, 57, 57])) (.tmp 51))), none⟩,
            ⟨(some 53), (.op (.idxS 1 (.tmp 42) (.tmp 44))), none⟩,
            ⟨none, (.op (.store 1 (.tmp 53) (.tmp 50))), none⟩,
            ⟨(some 54), (.op (.idxS 1 (.tmp 45) (.tmp 47))), none⟩,
            ⟨none, (.op (.store 1 (.tmp 54) (.tmp 52))), none⟩] [0, 1, 2, 3, 4, 5, 6, 7, 8, 9, 10, 11, 12, 13, 14] [[], [], [], [], [], [], [], [], [], [], [], [], [11], [], [13, 11]] [])
          (.seq (.draw [
            ⟨(some 55), (.op (.mv (.tmp 0))), none⟩,
            ⟨(some 56), (.op (.mv (.tmp 4))), none⟩,
            ⟨(some 57), (.op (.bin .sub none (.tmp 56) (.cst (.int .i64 3)))), none⟩,
            ⟨(some 58), (.op (.mv (.tmp 0))), none⟩,
            ⟨(some 59), (.op (.mv (.tmp 4))), none⟩,
            ⟨(some 60), (.op (.bin .sub none (.tmp 59) (.cst (.int .i64 4)))), none⟩,
            ⟨(some 61), (.op (.mv (.tmp 8))), none⟩,
            ⟨(some 62), (.op (.bin .add none (.tmp 61) (.cst (.int .u32 1)))), none⟩,
            ⟨(some 63), (.op (.idxStr (.cst (.str [48, 48, 48, 49, 48, 50, 48, 51, 48, 52, 48, 53, 48, 54, 48, 55, 48, 56, 48, 57, 49, 48, 49, 49, 49, 50, 49, 51, 49, 52, 49, 53, 49, 54, 49, 55, 49, 56, 49, 57, 50, 48, 50, 49, 50, 50, 50, 51, 50, 52, 50, 53, 50, 54, 50, 55, 50, 56, 50, 57, 51, 48, 51, 49, 51, 50, 51, 51, 51, 52, 51, 53, 51, 54, 51, 55, 51, 56, 51, 57, 52, 48, 52, 49, 52, 50, 52, 51, 52, 52, 52, 53, 52, 54, 52, 55, 52, 56, 52, 57, 53, 48, 53, 49, 53, 50, 53, 51, 53, 52, 53, 53, 53, 54, 53, 55, 53, 56, 53, 57, 54, 48, 54, 49, 54, 50, 54, 51, 54, 52, 54, 53, 54, 54, 54, 55, 54, 56, 54, 57, 55, 48, 55, 49, 55, 50, 55, 51, 55, 52, 55, 53, 55, 54, 55, 55, 55, 56, 55, 57, 56, 48, 56, 49, 56, 50, 56, 51, 56, 52, 56, 53, 56, 54, 56, 55, 56, 56, 56, 57, 57, 48, 57, 49, 57, 50, 57, 51, 57, 52, 57, 53, 57, 54, 57, 55, 57, 56, 57, 57])) (.tmp 62))), none⟩,
            ⟨(some 64), (.op (.mv (.tmp 8))), none⟩,
            ⟨(some 65), (.op (.idxStr (.cst (.str [48, 48, 48, 49, 48, 50, 48, 51, 48, 52, 48, 53, 48, 54, 48, 55, 48, 56, 48, 57, 49, 48, 49, 49, 49, 50, 49, 51, 49, 52, 49, 53, 49, 54, 49, 55, 49, 56, 49, 57, 50, 48, 50, 49, 50, 50, 50, 51, 50, 52, 50, 53, 50, 54, 50, 55, 50, 56, 50, 57, 51, 48, 51, 49, 51, 50, 51, 51, 51, 52, 51, 53, 51, 54, 51, 55, 51, 56, 51, 57, 52, 48, 52, 49, 52, 50, 52, 51, 52, 52, 52, 53, 52, 54, 52, 55, 52, 56, 52, 57, 53, 48, 53, 49, 53, 50, 53, 51, 53, 52, 53, 53, 53, 54, 53, 55, 53, 56, 53, 57, 54, 48, 54, 49, 54, 50, 54, 51, 54, 52, 54, 53, 54, 54, 54, 55, 54, 56, 54, 57, 55, 48, 55, 49, 55, 50, 55, 51, 55, 52, 55, 53, 55, 54, 55, 55, 55, 56, 55, 57, 56, 48, 56, 49, 56, 50, 56, 51, 56, 52, 56, 53, 56, 54, 56, 55, 56, 56, 56, 57, 57, 48, 57, 49, 57, 50, 57, 51, 57, 52, 57, 53, 57, 54, 57, 55, 57, 56, 57, 57])) (.tmp 64))), none⟩,
            ⟨(some 66), (.op (.idxS 1 (.tmp 55) (.tmp 57))), none⟩,
            ⟨none, (.op (.store 1 (.tmp 66) (.tmp 63))), none⟩,
            ⟨(some 67), (.op (.idxS 1 (.tmp 58) (.tmp 60))), none⟩,
            ⟨none, (.op (.store 1 (.tmp 67) (.tmp 65))), none⟩] [0, 1, 2, 3, 4, 5, 6, 7, 8, 9, 10, 11, 12, 13, 14] [[], [], [], [], [], [], [], [], [], [], [], [], [11], [], [13, 11]] [])
          (.seq (.draw [
            ⟨(some 68), (.op (.mv (.tmp 0))), none⟩,
            ⟨(some 69), (.op (.mv (.tmp 4))), none⟩,
            ⟨(some 70), (.op (.bin .sub none (.tmp 69) (.cst (.int .i64 5)))), none⟩,
            ⟨(some 71), (.op (.mv (.tmp 0))), none⟩,
            ⟨(some 72), (.op (.mv (.tmp 4))), none⟩,
            ⟨(some 73), (.op (.bin .sub none (.tmp 72) (.cst (.int .i64 6)))), none⟩,
            ⟨(some 74), (.op (.mv (.tmp 11))), none⟩,
            ⟨(some 75), (.op (.bin .add none (.tmp 74) (.cst (.int .u32 1)))), none⟩,
            ⟨(some 76), (.op (.idxStr (.cst (.str [48, 48, 48, 49, 48, 50, 48, 51, 48, 52, 48, 53, 48, 54, 48, 55, 48, 56, 48, 57, 49, 48, 49, 49, 49, 50, 49, 51, 49, 52, 49, 53, 49, 54, 49, 55, 49, 56, 49, 57, 50, 48, 50, 49, 50, 50, 50, 51, 50, 52, 50, 53, 50, 54, 50, 55, 50, 56, 50, 57, 51, 48, 51, 49, 51, 50, 51, 51, 51, 52, 51, 53, 51, 54, 51, 55, 51, 56, 51, 57, 52, 48, 52, 49, 52, 50, 52, 51, 52, 52, 52, 53, 52, 54, 52, 55, 52, 56, 52, 57, 53, 48, 53, 49, 53, 50, 53, 51, 53, 52, 53, 53, 53, 54, 53, 55, 53, 56, 53, 57, 54, 48, 54, 49, 54, 50, 54, 51, 54, 52, 54, 53, 54, 54, 54, 55, 54, 56, 54, 57, 55, 48, 55, 49, 55, 50, 55, 51, 55, 52, 55, 53, 55, 54, 55, 55, 55, 56, 55, 57, 56, 48, 56, 49, 56, 50, 56, 51, 56, 52, 56, 53, 56, 54, 56, 55, 56, 56, 56, 57, 57, 48, 57, 49, 57, 50, 57, 51, 57, 52, 57, 53, 57, 54, 57, 55, 57, 56, 57, 57])) (.tmp 75))), none⟩,
            ⟨(some 77), (.op (.mv (.tmp 11))), none⟩,
            ⟨(some 78), (.op (.idxStr (.cst (.str [48, 48, 48, 49, 48, 50, 48, 51, 48, 52, 48, 53, 48, 54, 48, 55, 48, 56, 48, 57, 49, 48, 49, 49, 49, 50, 49, 51, 49, 52, 49, 53, 49, 54, 49, 55, 49, 56, 49, 57, 50, 48, 50, 49, 50, 50, 50, 51, 50, 52, 50, 53, 50, 54, 50, 55, 50, 56, 50, 57, 51, 48, 51, 49, 51, 50, 51, 51, 51, 52, 51, 53, 51, 54, 51, 55, 51, 56, 51, 57, 52, 48, 52, 49, 52, 50, 52, 51, 52, 52, 52, 53, 52, 54, 52, 55, 52, 56, 52, 57, 53, 48, 53, 49, 53, 50, 53, 51, 53, 52, 53, 53, 53, 54, 53, 55, 53, 56, 53, 57, 54, 48, 54, 49, 54, 50, 54, 51, 54, 52, 54, 53, 54, 54, 54, 55, 54, 56, 54, 57, 55, 48, 55, 49, 55, 50, 55, 51, 55, 52, 55, 53, 55, 54, 55, 55, 55, 56, 55, 57, 56, 48, 56, 49, 56, 50, 56, 51, 56, 52, 56, 53, 56, 54, 56, 55, 56, 56, 56, 57, 57, 48, 57, 49, 57, 50, 57, 51, 57, 52, 57, 53, 57, 54, 57, 55, 57, 56, 57, 57])) (.tmp 77))), none⟩,
            ⟨(some 79), (.op (.idxS 1 (.tmp 68) (.tmp 70))), none⟩,
            ⟨none, (.op (.store 1 (.tmp 79) (.tmp 76))), none⟩,
            ⟨(some 80), (.op (.idxS 1 (.tmp 71) (.tmp 73))), none⟩,
            ⟨none, (.op (.store 1 (.tmp 80) (.tmp 78))), none⟩] [0, 1, 2, 3, 4, 5, 6, 7, 8, 9, 10, 11, 12, 13, 14] [[], [], [], [], [], [], [], [], [], [], [], [], [11], [], [13, 11]] [])
          (.seq (.draw [
            ⟨(some 81), (.op (.mv (.tmp 0))), none⟩,
            ⟨(some 82), (.op (.mv (.tmp 4))), none⟩,
            ⟨(some 83), (.op (.bin .sub none (.tmp 82) (.cst (.int .i64 7)))), none⟩,
            ⟨(some 84), (.op (.mv (.tmp 0))), none⟩,
            ⟨(some 85), (.op (.mv (.tmp 4))), none⟩,
            ⟨(some 86), (.op (.bin .sub none (.tmp 85) (.cst (.int .i64 8)))), none⟩,
            ⟨(some 87), (.op (.mv (.tmp 10))), none⟩,
            ⟨(some 88), (.op (.bin .add none (.tmp 87) (.cst (.int .u32 1)))), none⟩,
            ⟨(some 89), (.op (.idxStr (.cst (.str [48, 48, 48, 49, 48, 50, 48, 51, 48, 52, 48, 53, 48, 54, 48, 55, 48, 56, 48, 57, 49, 48, 49, 49, 49, 50, 49, 51, 49, 52, 49, 53, 49, 54, 49, 55, 49, 56, 49, 57, 50, 48, 50, 49, 50, 50, 50, 51, 50, 52, 50, 53, 50, 54, 50, 55, 50, 56, 50, 57, 51, 48, 51, 49, 51, 50, 51, 51, 51, 52, 51, 53, 51, 54, 51, 55, 51, 56, 51, 57, 52, 48, 52, 49, 52, 50, 52, 51, 52, 52, 52, 53, 52, 54, 52, 55, 52, 56, 52, 57, 53, 48, 53, 49, 53, 50, 53, 51, 53, 52, 53, 53, 53, 54, 53, 55, 53, 56, 53, 57, 54, 48, 54, 49, 54, 50, 54, 51, 54, 52, 54, 53, 54, 54, 54, 55, 54, 56, 54, 57, 55, 48, 55, 49, 55, 50, 55, 51, 55, 52, 55, 53, 55, 54, 55, 55, 55, 56, 55, 57, 56, 48, 56, 49, 56, 50, 56, 51, 56, 52, 56, 53, 56, 54, 56, 55, 56, 56, 56, 57, 57, 48, 57, 49, 57, 50, 57, 51, 57, 52, 57, 53, 57, 54, 57, 55, 57, 56, 57, 57])) (.tmp 88))), none⟩,
            ⟨(some 90), (.op (.mv (.tmp 10))), none⟩,
            ⟨(some 91), (.op (.idxStr (.cst (.str [48, 48, 48, 49, 48, 50, 48, 51, 48, 52, 48, 53, 48, 54, 48, 55, 48, 56, 48, 57, 49, 48, 49, 49, 49, 50, 49, 51, 49, 52, 49, 53, 49, 54, 49, 55, 49, 56, 49, 57, 50, 48, 50, 49, 50, 50, 50, 51, 50, 52, 50, 53, 50, 54, 50, 55, 50, 56, 50, 57, 51, 48, 51, 49, 51, 50, 51, 51, 51, 52, 51, 53, 51, 54, 51, 55, 51, 56, 51, 57, 52, 48, 52, 49, 52, 50, 52, 51, 52, 52, 52, 53, 52, 54, 52, 55, 52, 56, 52, 57, 53, 48, 53, 49, 53, 50, 53, 51, 53, 52, 53, 53, 53, 54, 53, 55, 53, 56, 53, 57, 54, 48, 54, 49, 54, 50, 54, 51, 54, 52, 54, 53, 54, 54, 54, 55, 54, 56, 54, 57, 55, 48, 55, 49, 55, 50, 55, 51, 55, 52, 55, 53, 55, 54, 55, 55, 55, 56, 55, 57, 56, 48, 56, 49, 56, 50, 56, 51, 56, 52, 56, 53, 56, 54, 56, 55, 56, 56, 56, 57, 57, 48, 57, 49, 57, 50, 57, 51, 57, 52, 57, 53, 57, 54, 57, 55, 57, 56, 57, 57])) (.tmp 90))), none⟩,
            ⟨(some 92), (.op (.idxS 1 (.tmp 81) (.tmp 83))), none⟩,
            ⟨none, (.op (.store 1 (.tmp 92) (.tmp 89))), none⟩,
            ⟨(some 93), (.op (.idxS 1 (.tmp 84) (.tmp 86))), none⟩,
            ⟨none, (.op (.store 1 (.tmp 93) (.tmp 91))), none⟩] [0, 1, 2, 3, 4, 5, 6, 7, 8, 9, 10, 11, 12, 13, 14] [[], [], [], [], [], [], [], [], [], [], [], [], [11], [], [13, 11]] [])
          (.region [
            ⟨(some 94), (.op (.mv (.tmp 4))), none⟩,
            ⟨(some 95), (.op (.bin .sub none (.tmp 94) (.cst (.int .i64 8)))), none⟩,
            ⟨(some 4), (.op (.mv (.tmp 95))), none⟩] []))))))))))))))
    (.seq (.region [
      ⟨(some 96), (.op (.mv (.tmp 1))), none⟩,
      ⟨(some 97), (.op (.cInt .u32 (.tmp 96))), none⟩,
      ⟨(some 12), (.op (.mv (.tmp 97))), none⟩] [])
    (.seq (.seq (.region [
      ⟨(some 98), (.op (.mv (.tmp 4))), none⟩,
      ⟨(some 99), (.op (.bin .geq none (.tmp 98) (.cst (.int .i64 4)))), none⟩] [])
    (.cond (.tmp 99)
      (.seq (.region [
        ⟨(some 100), (.op (.mv (.tmp 12))), none⟩,
        ⟨(some 101), (.op (.bin .rem none (.tmp 100) (.cst (.int .u32 10000)))), none⟩,
        ⟨(some 13), (.op (.mv (.tmp 101))), none⟩] [])
      (.seq (.region [
        ⟨(some 102), (.op (.mv (.tmp 12))), none⟩,
        ⟨(some 103), (.op (.bin .quo none (.tmp 102) (.cst (.int .u32 10000)))), none⟩,
        ⟨(some 12), (.op (.mv (.tmp 103))), none⟩] [])
      (.seq (.region [
        ⟨(some 104), (.op (.mv (.tmp 13))), none⟩,
        ⟨(some 105), (.op (.bin .quo none (.tmp 104) (.cst (.int .u32 100)))), none⟩,
        ⟨(some 106), (.op (.bin .mul none (.tmp 105) (.cst (.int .u32 2)))), none⟩,
        ⟨(some 107), (.op (.mv (.tmp 13))), none⟩,
        ⟨(some 108), (.op (.bin .rem none (.tmp 107) (.cst (.int .u32 100)))), none⟩,
        ⟨(some 109), (.op (.bin .mul none (.tmp 108) (.cst (.int .u32 2)))), none⟩,
        ⟨(some 14), (.op (.mv (.tmp 106))), none⟩,
        ⟨(some 15), (.op (.mv (.tmp 109))), none⟩] [])
      (.seq (.draw [
        ⟨(some 110), (.op (.mv (.tmp 0))), none⟩,
        ⟨(some 111), (.op (.mv (.tmp 4))), none⟩,
        ⟨(some 112), (.op (.bin .sub none (.tmp 111) (.cst (.int .i64 1)))), none⟩,
        ⟨(some 113), (.op (.mv (.tmp 0))), none⟩,
        ⟨(some 114), (.op (.mv (.tmp 4))), none⟩,
        ⟨(some 115), (.op (.bin .sub none (.tmp 114) (.cst (.int .i64 2)))), none⟩,
        ⟨(some 116), (.op (.mv (.tmp 15))), none⟩,
        ⟨(some 117), (.op (.bin .add none (.tmp 116) (.cst (.int .u32 1)))), none⟩,
        ⟨(some 118), (.op (.idxStr (.cst (.str [48, 48, 48, 49, 48, 50, 48, 51, 48, 52, 48, 53, 48, 54, 48, 55, 48, 56, 48, 57, 49, 48, 49, 49, 49, 50, 49, 51, 49, 52, 49, 53, 49, 54, 49, 55, 49, 56, 49, 57, 50, 48, 50, 49, 50, 50, 50, 51, 50, 52, 50, 53, 50, 54, 50, 55, 50, 56, 50, 57, 51, 48, 51, 49, 51, 50, 51, 51, 51, 52, 51, 53, 51, 54, 51, 55, 51, 56, 51, 57, 52, 48, 52, 49, 52, 50, 52, 51, 52, 52, 52, 53, 52, 54, 52, 55, 52, 56, 52, 57, 53, 48, 53, 49, 53, 50, 53, 51, 53, 52, 53, 53, 53, 54, 53, 55, 53, 56, 53, 57, 54, 48, 54, 49, 54, 50, 54, 51, 54, 52, 54, 53, 54, 54, 54, 55, 54, 56, 54, 57, 55, 48, 55, 49, 55, 50, 55, 51, 55, 52, 55, 53, 55, 54, 55, 55, 55, 56, 55, 57, 56, 48, 56, 49, 56, 50, 56, 51, 56, 52, 56, 53, 56, 54, 56, 55, 56, 56, 56, 57, 57, 48, 57, 49, 57, 50, 57, 51, 57, 52, 57, 53, 57, 54, 57, 55, 57, 56, 57, 57])) (.tmp 117))), none⟩,
        ⟨(some 119), (.op (.mv (.tmp 15))), none⟩,
        ⟨(some 120), (.op (.idxStr (.cst (.str [48, 48, 48, 49, 48, 50, 48, 51, 48, 52, 48, 53, 48, 54, 48, 55, 48, 56, 48, 57, 49, 48, 49, 49, 49, 50, 49, 51, 49, 52, 49, 53, 49, 54, 49, 55, 49, 56, 49, 57, 50, 48, 50, 49, 50, 50, 50, 51, 50, 52, 50, 53, 50, 54, 50, 55, 50, 56, 50, 57, 51, 48, 51, 49, 51, 50, 51, 51, 51, 52, 51, 53, 51, 54, 51, 55, 51, 56, 51, 57, 52, 48, 52, 49, 52, 50, 52, 51, 52, 52, 52, 53, 52, 54, 52, 55, 52, 56, 52, 57, 53, 48, 53, 49, 53, 50, 53, 51, 53, 52, 53, 53, 53, 54, 53, 55, 53, 56, 53, 57, 54, 48, 54, 49, 54, 50, 54, 51, 54, 52, 54, 53, 54, 54, 54, 55, 54, 56, 54, 57, 55, 48, 55, 49, 55, 50, 55, 51, 55, 52, 55, 53, 55, 54, 55, 55, 55, 56, 55, 57, 56, 48, 56, 49, 56, 50, 56, 51, 56, 52, 56, 53, 56, 54, 56, 55, 56, 56, 56, 57, 57, 48, 57, 49, 57, 50, 57, 51, 57, 52, 57, 53, 57, 54, 57, 55, 57, 56, 57, 57])) (.tmp 119))), none⟩,
        ⟨(some 121), (.op (.idxS 1 (.tmp 110) (.tmp 112))), none⟩,
        ⟨none, (.op (.store 1 (.tmp 121) (.tmp 118))), none⟩,
        ⟨(some 122), (.op (.idxS 1 (.tmp 113) (.tmp 115))), none⟩,
        ⟨none, (.op (.store 1 (.tmp 122) (.tmp 120))), none⟩] [0, 1, 2, 3, 4, 5, 6, 7, 8, 9, 10, 11, 12, 13, 14] [[], [], [], [], [], [], [], [], [], [], [], [], [11], [], [13, 11]] [])
      (.seq (.draw [
        ⟨(some 123), (.op (.mv (.tmp 0))), none⟩,
        ⟨(some 124), (.op (.mv (.tmp 4))), none⟩,
        ⟨(some 125), (.op (.bin .sub none (.tmp 124) (.cst (.int .i64 3)))), none⟩,
        ⟨(some 126), (.op (.mv (.tmp 0))), none⟩,
        ⟨(some 127), (.op (.mv (.tmp 4))), none⟩,
        ⟨(some 128), (.op (.bin .sub none (.tmp 127) (.cst (.int .i64 4)))), none⟩,
        ⟨(some 129), (.op (.mv (.tmp 14))), none⟩,
        ⟨(some 130), (.op (.bin .add none (.tmp 129) (.cst (.int .u32 1)))), none⟩,
        ⟨(some 131), (.op (.idxStr (.cst (.str [48, 48, 48, 49, 48, 50, 48, 51, 48, 52, 48, 53, 48, 54, 48, 55, 48, 56, 48, 57, 49, 48, 49, 49, 49, 50, 49, 51, 49, 52, 49, 53, 49, 54, 49, 55, 49, 56, 49, 57, 50, 48, 50, 49, 50, 50, 50, 51, 50, 52, 50, 53, 50, 54, 50, 55, 50, 56, 50, 57, 51, 48, 51, 49, 51, 50, 51, 51, 51, 52, 51, 53, 51, 54, 51, 55, 51, 56, 51, 57, 52, 48, 52, 49, 52, 50, 52, 51, 52, 52, 52, 53, 52, 54, 52, 55, 52, 56, 52, 57, 53, 48, 53, 49, 53, 50, 53, 51, 53, 52, 53, 53, 53, 54, 53, 55, 53, 56, 53, 57, 54, 48, 54, 49, 54, 50, 54, 51, 54, 52, 54, 53, 54, 54, 54, 55, 54, 56, 54, 57, 55, 48, 55, 49, 55, 50, 55, 51, 55, 52, 55, 53, 55, 54, 55, 55, 55, 56, 55, 57, 56, 48, 56, 49, 56, 50, 56, 51, 56, 52, 56, 53, 56, 54, 56, 55, 56, 56, 56, 57, 57, 48, 57, 49, 57, 50, 57, 51, 57, 52, 57, 53, 57, 54, 57, 55, 57, 56, 57, 57])) (.tmp 130))), none⟩,
        ⟨(some 132), (.op (.mv (.tmp 14))), none⟩,
        ⟨(some 133), (.op (.idxStr (.cst (.str [48, 48, 48, 49, 48, 50, 48, 51, 48, 52, 48, 53, 48, 54, 48, 55, 48, 56, 48, 57, 49, 48, 49, 49, 49, 50, 49, 51, 49, 52, 49, 53, 49, 54, 49, 55, 49, 56, 49, 57, 50, 48, 50, 49, 50, 50, 50, 51, 50, 52, 50, 53, 50, 54, 50, 55, 50, 56, 50, 57, 51, 48, 51, 49, 51, 50, 51, 51, 51, 52, 51, 53, 51, 54, 51, 55, 51, 56, 51, 57, 52, 48, 52, 49, 52, 50, 52, 51, 52, 52, 52, 53, 52, 54, 52, 55, 52, 56, 52, 57, 53, 48, 53, 49, 53, 50, 53, 51, 53, 52, 53, 53, 53, 54, 53, 55, 53, 56, 53, 57, 54, 48, 54, 49, 54, 50, 54, 51, 54, 52, 54, 53, 54, 54, 54, 55, 54, 56, 54, 57, 55, 48, 55, 49, 55, 50, 55, 51, 55, 52, 55, 53, 55, 54, 55, 55, 55, 56, 55, 57, 56, 48, 56, 49, 56, 50, 56, 51, 56, 52, 56, 53, 56, 54, 56, 55, 56, 56, 56, 57, 57, 48, 57, 49, 57, 50, 57, 51, 57, 52, 57, 53, 57, 54, 57, 55, 57, 56, 57, 57])) (.tmp 132))), none⟩,
        ⟨(some 134), (.op (.idxS 1 (.tmp 123) (.tmp 125))), none⟩,
        ⟨none, (.op (.store 1 (.tmp 134) (.tmp 131))), none⟩,
        ⟨(some 135), (.op (.idxS 1 (.tmp 126) (.tmp 128))), none⟩,
        ⟨none, (.op (.store 1 (.tmp 135) (.tmp 133))), none⟩] [0, 1, 2, 3, 4, 5, 6, 7, 8, 9, 10, 11, 12, 13, 14] [[], [], [], [], [], [], [], [], [], [], [], [], [11], [], [13, 11]] [])
      (.region [
        ⟨(some 136), (.op (.mv (.tmp 4))), none⟩,
        ⟨(some 137), (.op (.bin .sub none (.tmp 136) (.cst (.int .i64 4)))), none⟩,
        ⟨(some 4), (.op (.mv (.tmp 137))), none⟩] []))))))
      .skip))
    (.seq (.seq (.region [
      ⟨(some 138), (.op (.mv (.tmp 4))), none⟩,
      ⟨(some 139), (.op (.bin .geq none (.tmp 138) (.cst (.int .i64 2)))), none⟩] [])
    (.cond (.tmp 139)
      (.seq (.region [
        ⟨(some 140), (.op (.mv (.tmp 12))), none⟩,
        ⟨(some 141), (.op (.bin .rem none (.tmp 140) (.cst (.int .u32 100)))), none⟩,
        ⟨(some 142), (.op (.bin .mul none (.tmp 141) (.cst (.int .u32 2)))), none⟩,
        ⟨(some 16), (.op (.mv (.tmp 142))), none⟩] [])
      (.seq (.region [
        ⟨(some 143), (.op (.mv (.tmp 12))), none⟩,
        ⟨(some 144), (.op (.bin .quo none (.tmp 143) (.cst (.int .u32 100)))), none⟩,
        ⟨(some 12), (.op (.mv (.tmp 144))), none⟩] [])
      (.seq (.draw [
        ⟨(some 145), (.op (.mv (.tmp 0))), none⟩,
        ⟨(some 146), (.op (.mv (.tmp 4))), none⟩,
        ⟨(some 147), (.op (.bin .sub none (.tmp 146) (.cst (.int .i64 1)))), none⟩,
        ⟨(some 148), (.op (.mv (.tmp 0))), none⟩,
        ⟨(some 149), (.op (.mv (.tmp 4))), none⟩,
        ⟨(some 150), (.op (.bin .sub none (.tmp 149) (.cst (.int .i64 2)))), none⟩,
        ⟨(some 151), (.op (.mv (.tmp 16))), none⟩,
        ⟨(some 152), (.op (.bin .add none (.tmp 151) (.cst (.int .u32 1)))), none⟩,
        ⟨(some 153), (.op (.idxStr (.cst (.str [48, 48, 48, 49, 48, 50, 48, 51, 48, 52, 48, 53, 48, 54, 48, 55, 48, 56, 48, 57, 49, 48, 49, 49, 49, 50, 49, 51, 49, 52, 49, 53, 49, 54, 49, 55, 49, 56, 49, 57, 50, 48, 50, 49, 50, 50, 50, 51, 50, 52, 50, 53, 50, 54, 50, 55, 50, 56, 50, 57, 51, 48, 51, 49, 51, 50, 51, 51, 51, 52, 51, 53, 51, 54, 51, 55, 51, 56, 51, 57, 52, 48, 52, 49, 52, 50, 52, 51, 52, 52, 52, 53, 52, 54, 52, 55, 52, 56, 52, 57, 53, 48, 53, 49, 53, 50, 53, 51, 53, 52, 53, 53, 53, 54, 53, 55, 53, 56, 53, 57, 54, 48, 54, 49, 54, 50, 54, 51, 54, 52, 54, 53, 54, 54, 54, 55, 54, 56, 54, 57, 55, 48, 55, 49, 55, 50, 55, 51, 55, 52, 55, 53, 55, 54, 55, 55, 55, 56, 55, 57, 56, 48, 56, 49, 56, 50, 56, 51, 56, 52, 56, 53, 56, 54, 56, 55, 56, 56, 56, 57, 57, 48, 57, 49, 57, 50, 57, 51, 57, 52, 57, 53, 57, 54, 57, 55, 57, 56, 57, 57])) (.tmp 152))), none⟩,
        ⟨(some 154), (.op (.mv (.tmp 16))), none⟩,
        ⟨(some 155), (.op (.idxStr (.cst (.str [48, 48, 48, 49, 48, 50, 48, 51, 48, 52, 48, 53, 48, 54, 48, 55, 48, 56, 48, 57, 49, 48, 49, 49, 49, 50, 49, 51, 49, 52, 49, 53, 49, 54, 49, 55, 49, 56, 49, 57, 50, 48, 50, 49, 50, 50, 50, 51, 50, 52, 50, 53, 50, 54, 50, 55, 50, 56, 50, 57, 51, 48, 51, 49, 51, 50, 51, 51, 51, 52, 51, 53, 51, 54, 51, 55, 51, 56, 51, 57, 52, 48, 52, 49, 52, 50, 52, 51, 52, 52, 52, 53, 52, 54, 52, 55, 52, 56, 52, 57, 53, 48, 53, 49, 53, 50, 53, 51, 53, 52, 53, 53, 53, 54, 53, 55, 53, 56, 53, 57, 54, 48, 54, 49, 54, 50, 54, 51, 54, 52, 54, 53, 54, 54, 54, 55, 54, 56, 54, 57, 55, 48, 55, 49, 55, 50, 55, 51, 55, 52, 55, 53, 55, 54, 55, 55, 55, 56, 55, 57, 56, 48, 56, 49, 56, 50, 56, 51, 56, 52, 56, 53, 56, 54, 56, 55, 56, 56, 56, 57, 57, 48, 57, 49, 57, 50, 57, 51, 57, 52, 57, 53, 57, 54, 57, 55, 57, 56, 57, 57])) (.tmp 154))), none⟩,
        ⟨(some 156), (.op (.idxS 1 (.tmp 145) (.tmp 147))), none⟩,
        ⟨none, (.op (.store 1 (.tmp 156) (.tmp 153))), none⟩,
        ⟨(some 157), (.op (.idxS 1 (.tmp 148) (.tmp 150))), none⟩,
        ⟨none, (.op (.store 1 (.tmp 157) (.tmp 155))), none⟩] [0, 1, 2, 3, 4, 5, 6, 7, 8, 9, 10, 11, 12, 13, 14] [[], [], [], [], [], [], [], [], [], [], [], [], [11], [], [13, 11]] [])
      (.region [
        ⟨(some 158), (.op (.mv (.tmp 4))), none⟩,
        ⟨(some 159), (.op (.bin .sub none (.tmp 158) (.cst (.int .i64 2)))), none⟩,
        ⟨(some 4), (.op (.mv (.tmp 159))), none⟩] []))))
      .skip))
    (.seq (.region [
      ⟨(some 160), (.op (.mv (.tmp 4))), none⟩,
      ⟨(some 161), (.op (.bin .gtr none (.tmp 160) (.cst (.int .i64 0)))), none⟩] [])
    (.cond (.tmp 161)
      (.region [
        ⟨(some 162), (.op (.mv (.tmp 0))), none⟩,
        ⟨(some 163), (.op (.mv (.tmp 12))), none⟩,
        ⟨(some 164), (.op (.bin .add none (.cst (.int .u32 48)) (.tmp 163))), none⟩,
        ⟨(some 165), (.op (.cInt .u8 (.tmp 164))), none⟩,
        ⟨(some 166), (.op (.idxS 1 (.tmp 162) (.cst (.int .i64 0)))), none⟩,
        ⟨none, (.op (.store 1 (.tmp 166) (.tmp 165))), none⟩] [])
      .skip)))))))⟩
theorem c76 : cFn Tryd.prog [] Tryd.f76 = some h76 := by kernel_rfl
/-- internal/strconv.formatBits -/
def h77 : HFn :=
  ⟨102, [(.tmp 10), (.tmp 11)],
    (.seq (.region [
      ⟨(some 10), (.op (.mv (.cst .nilSlice))), none⟩,
      ⟨(some 11), (.op (.mv (.cst (.str [])))), none⟩] [])
    (.seq (.seq (.region [
      ⟨(some 19), (.op (.mv (.tmp 2))), none⟩,
      ⟨(some 20), (.op (.bin .lss none (.tmp 19) (.cst (.int .i64 2)))), none⟩,
      ⟨(some 21), (.op (.mv (.tmp 20))), none⟩,
      ⟨(some 22), (.op (.mv (.tmp 2))), (some (21, false))⟩,
      ⟨(some 23), (.op (.bin .eql (some .int) (.tmp 22) (.cst (.int .i64 10)))), (some (21, false))⟩,
      ⟨(some 24), (.op (.pick (.tmp 21) (.cst (.bool true)) (.tmp 23))), none⟩,
      ⟨(some 25), (.op (.mv (.tmp 24))), none⟩,
      ⟨(some 26), (.op (.mv (.tmp 2))), (some (25, false))⟩,
      ⟨(some 27), (.op (.bin .gtr none (.tmp 26) (.cst (.int .i64 36)))), (some (25, false))⟩,
      ⟨(some 28), (.op (.pick (.tmp 25) (.cst (.bool true)) (.tmp 27))), none⟩] [])
    (.cond (.tmp 28)
      (.region [
        ⟨(some 29), (.op (.iface 9 (.cst (.str [115, 116, 114, 99, 111, 110, 118, 58, 32, 105, 108, 108, 101, 103, 97, 108, 32, 65, 112, 112, 101, 110, 100, 73, 110, 116, 47, 70, 111, 114, 109, 97, 116, 73, 110, 116, 32, 98, 97, 115, 101])))), none⟩,
        ⟨none, (.op .bad), none⟩] [])
      .skip))
    (.seq (.region [
      ⟨(some 12), (.op (.box (.cst (.agg [(.int .u8 0), (.int .u8 0), (.int .u8 0), (.int .u8 0), (.int .u8 0), (.int .u8 0), (.int .u8 0), (.int .u8 0), (.int .u8 0), (.int .u8 0), (.int .u8 0), (.int .u8 0), (.int .u8 0), (.int .u8 0), (.int .u8 0), (.int .u8 0), (.int .u8 0), (.int .u8 0), (.int .u8 0), (.int .u8 0), (.int .u8 0), (.int .u8 0), (.int .u8 0), (.int .u8 0), (.int .u8 0), (.int .u8 0), (.int .u8 0), (.int .u8 0), (.int .u8 0), (.int .u8 0), (.int .u8 0), (.int .u8 0), (.int .u8 0), (.int .u8 0), (.int .u8 0), (.int .u8 0), (.int .u8 0), (.int .u8 0), (.int .u8 0), (.int .u8 0), (.int .u8 0), (.int .u8 0), (.int .u8 0), (.int .u8 0), (.int .u8 0), (.int .u8 0), (.int .u8 0), (.int .u8 0), (.int .u8 0), (.int .u8 0), (.int .u8 0), (.int .u8 0), (.int .u8 0), (.int .u8 0), (.int .u8 0), (.int .u8 0), (.int .u8 0), (.int .u8 0), (.int .u8 0), (.int .u8 0), (.int .u8 0), (.int .u8 0), (.int .u8 0), (.int .u8 0), (.int .u8 0)])))), none⟩] [])
    (.seq (.region [
      ⟨(some 13), (.op (.mv (.cst (.int .i64 65)))), none⟩] [])
    (.seq (.seq (.region [
      ⟨(some 30), (.op (.mv (.tmp 3))), none⟩] [])
    (.cond (.tmp 30)
      (.region [
        ⟨(some 31), (.op (.mv (.tmp 1))), none⟩,
        ⟨(some 32), (.op (.un .neg (.tmp 31))), none⟩,
        ⟨(some 1), (.op (.mv (.tmp 32))), none⟩] [])
      .skip))
    (.seq (.seq (.region [
      ⟨(some 33), (.op (.mv (.tmp 2))), none⟩,
      ⟨(some 34), (.call (.cst (.func (.func 82) [] [])) [(.tmp 33)]), none⟩] [])
    (.cond (.tmp 34)
      (.seq (.region [
        ⟨(some 35), (.op (.mv (.tmp 2))), none⟩,
        ⟨(some 36), (.op (.cInt .u64 (.tmp 35))), none⟩,
        ⟨(some 37), (.call (.cst (.func (.func 83) [] [])) [(.tmp 36)]), none⟩,
        ⟨(some 38), (.op (.cInt .u64 (.tmp 37))), none⟩,
        ⟨(some 14), (.op (.mv (.tmp 38))), none⟩] [])
      (.seq (.region [
        ⟨(some 39), (.op (.mv (.tmp 2))), none⟩,
        ⟨(some 40), (.op (.cInt .u64 (.tmp 39))), none⟩,
        ⟨(some 15), (.op (.mv (.tmp 40))), none⟩] [])
      (.seq (.region [
        ⟨(some 41), (.op (.mv (.tmp 2))), none⟩,
        ⟨(some 42), (.op (.cInt .u64 (.tmp 41))), none⟩,
        ⟨(some 43), (.op (.bin .sub none (.tmp 42) (.cst (.int .u64 1)))), none⟩,
        ⟨(some 16), (.op (.mv (.tmp 43))), none⟩] [])
      (.seq (.block 0
        (.loop
          (.seq (.seq (.region [
            ⟨(some 44), (.op (.mv (.tmp 1))), none⟩,
            ⟨(some 45), (.op (.mv (.tmp 15))), none⟩,
            ⟨(some 46), (.op (.bin .geq none (.tmp 44) (.tmp 45))), none⟩] [])
          (.cond (.tmp 46)
            .skip
            (.exit 0)))
          (.block 1
            (.seq (.region [
              ⟨(some 47), (.op (.mv (.tmp 13))), none⟩,
              ⟨(some 48), (.op (.bin .sub none (.tmp 47) (.cst (.int .i64 1)))), none⟩,
              ⟨(some 13), (.op (.mv (.tmp 48))), none⟩] [])
            (.seq (.region [
              ⟨(some 49), (.op (.mv (.tmp 13))), none⟩,
              ⟨(some 50), (.op (.mv (.tmp 1))), none⟩,
              ⟨(some 51), (.op (.mv (.tmp 16))), none⟩,
              ⟨(some 52), (.op (.bin .and none (.tmp 50) (.tmp 51))), none⟩,
              ⟨(some 53), (.op (.idxStr (.cst (.str [48, 49, 50, 51, 52, 53, 54, 55, 56, 57, 97, 98, 99, 100, 101, 102, 103, 104, 105, 106, 107, 108, 109, 110, 111, 112, 113, 114, 115, 116, 117, 118, 119, 120, 121, 122])) (.tmp 52))), none⟩,
              ⟨(some 54), (.op (.idxA 65 1 (.tmp 12) (.tmp 49))), none⟩,
              ⟨none, (.op (.store 1 (.tmp 54) (.tmp 53))), none⟩] [])
            (.region [
              ⟨(some 55), (.op (.mv (.tmp 1))), none⟩,
              ⟨(some 56), (.op (.mv (.tmp 14))), none⟩,
              ⟨(some 57), (.op (.bin .shr none (.tmp 55) (.tmp 56))), none⟩,
              ⟨(some 1), (.op (.mv (.tmp 57))), none⟩] [])))))))
      (.seq (.region [
        ⟨(some 58), (.op (.mv (.tmp 13))), none⟩,
        ⟨(some 59), (.op (.bin .sub none (.tmp 58) (.cst (.int .i64 1)))), none⟩,
        ⟨(some 13), (.op (.mv (.tmp 59))), none⟩] [])
      (.region [
        ⟨(some 60), (.op (.mv (.tmp 13))), none⟩,
        ⟨(some 61), (.op (.mv (.tmp 1))), none⟩,
        ⟨(some 62), (.op (.idxStr (.cst (.str [48, 49, 50, 51, 52, 53, 54, 55, 56, 57, 97, 98, 99, 100, 101, 102, 103, 104, 105, 106, 107, 108, 109, 110, 111, 112, 113, 114, 115, 116, 117, 118, 119, 120, 121, 122])) (.tmp 61))), none⟩,
        ⟨(some 63), (.op (.idxA 65 1 (.tmp 12) (.tmp 60))), none⟩,
        ⟨none, (.op (.store 1 (.tmp 63) (.tmp 62))), none⟩] []))))))
      (.seq (.region [
        ⟨(some 64), (.op (.mv (.tmp 2))), none⟩,
        ⟨(some 65), (.op (.cInt .u64 (.tmp 64))), none⟩,
        ⟨(some 17), (.op (.mv (.tmp 65))), none⟩] [])
      (.seq (.block 2
        (.loop
          (.seq (.seq (.region [
            ⟨(some 66), (.op (.mv (.tmp 1))), none⟩,
            ⟨(some 67), (.op (.mv (.tmp 17))), none⟩,
            ⟨(some 68), (.op (.bin .geq none (.tmp 66) (.tmp 67))), none⟩] [])
          (.cond (.tmp 68)
            .skip
            (.exit 2)))
          (.block 3
            (.seq (.region [
              ⟨(some 69), (.op (.mv (.tmp 13))), none⟩,
              ⟨(some 70), (.op (.bin .sub none (.tmp 69) (.cst (.int .i64 1)))), none⟩,
              ⟨(some 13), (.op (.mv (.tmp 70))), none⟩] [])
            (.seq (.region [
              ⟨(some 71), (.op (.mv (.tmp 1))), none⟩,
              ⟨(some 72), (.op (.mv (.tmp 17))), none⟩,
              ⟨(some 73), (.op (.bin .quo none (.tmp 71) (.tmp 72))), none⟩,
              ⟨(some 18), (.op (.mv (.tmp 73))), none⟩] [])
            (.seq (.region [
              ⟨(some 74), (.op (.mv (.tmp 13))), none⟩,
              ⟨(some 75), (.op (.mv (.tmp 1))), none⟩,
              ⟨(some 76), (.op (.mv (.tmp 18))), none⟩,
              ⟨(some 77), (.op (.mv (.tmp 17))), none⟩,
              ⟨(some 78), (.op (.bin .mul none (.tmp 76) (.tmp 77))), none⟩,
              ⟨(some 79), (.op (.bin .sub none (.tmp 75) (.tmp 78))), none⟩,
              ⟨(some 80), (.op (.idxStr (.cst (.str [48, 49, 50, 51, 52, 53, 54, 55, 56, 57, 97, 98, 99, 100, 101, 102, 103, 104, 105, 106, 107, 108, 109, 110, 111, 112, 113, 114, 115, 116, 117, 118, 119, 120, 121, 122])) (.tmp 79))), none⟩,
              ⟨(some 81), (.op (.idxA 65 1 (.tmp 12) (.tmp 74))), none⟩,
              ⟨none, (.op (.store 1 (.tmp 81) (.tmp 80))), none⟩] [])
            (.region [
              ⟨(some 82), (.op (.mv (.tmp 18))), none⟩,
              ⟨(some 1), (.op (.mv (.tmp 82))), none⟩] []))))))))
      (.seq (.region [
        ⟨(some 83), (.op (.mv (.tmp 13))), none⟩,
        ⟨(some 84), (.op (.bin .sub none (.tmp 83) (.cst (.int .i64 1)))), none⟩,
        ⟨(some 13), (.op (.mv (.tmp 84))), none⟩] [])
      (.region [
        ⟨(some 85), (.op (.mv (.tmp 13))), none⟩,
        ⟨(some 86), (.op (.mv (.tmp 1))), none⟩,
        ⟨(some 87), (.op (.idxStr (.cst (.str [48, 49, 50, 51, 52, 53, 54, 55, 56, 57, 97, 98, 99, 100, 101, 102, 103, 104, 105, 106, 107, 108, 109, 110, 111, 112, 113, 114, 115, 116, 117, 118, 119, 120, 121, 122])) (.tmp 86))), none⟩,
        ⟨(some 88), (.op (.idxA 65 1 (.tmp 12) (.tmp 85))), none⟩,
        ⟨none, (.op (.store 1 (.tmp 88) (.tmp 87))), none⟩] []))))))
    (.seq (.seq (.region [
      ⟨(some 89), (.op (.mv (.tmp 3))), none⟩] [])
    (.cond (.tmp 89)
      (.seq (.region [
        ⟨(some 90), (.op (.mv (.tmp 13))), none⟩,
        ⟨(some 91), (.op (.bin .sub none (.tmp 90) (.cst (.int .i64 1)))), none⟩,
        ⟨(some 13), (.op (.mv (.tmp 91))), none⟩] [])
      (.region [
        ⟨(some 92), (.op (.mv (.tmp 13))), none⟩,
        ⟨(some 93), (.op (.idxA 65 1 (.tmp 12) (.tmp 92))), none⟩,
        ⟨none, (.op (.store 1 (.tmp 93) (.cst (.int .u8 45)))), none⟩] []))
      .skip))
    (.seq (.seq (.region [
      ⟨(some 94), (.op (.mv (.tmp 4))), none⟩] [])
    (.cond (.tmp 94)
      (.seq (.region [
        ⟨(some 95), (.op (.mv (.tmp 0))), none⟩,
        ⟨(some 96), (.op (.mv (.tmp 13))), none⟩,
        ⟨(some 97), (.op (.sliceArr 65 1 (.tmp 12) (some (.tmp 96)) none none)), none⟩,
        ⟨(some 98), (.op (.append 1 1 (.tmp 95) (.tmp 97))), none⟩,
        ⟨(some 10), (.op (.mv (.tmp 98))), none⟩] [])
      .ret)
      .skip))
    (.seq (.region [
      ⟨(some 99), (.op (.mv (.tmp 13))), none⟩,
      ⟨(some 100), (.op (.sliceArr 65 1 (.tmp 12) (some (.tmp 99)) none none)), none⟩,
      ⟨(some 101), (.op (.b2s (.tmp 100))), none⟩,
      ⟨(some 11), (.op (.mv (.tmp 101))), none⟩] [])
    .ret)))))))))⟩
theorem c77 : cFn Tryd.prog [] Tryd.f77 = some h77 := by kernel_rfl
/-- internal/strconv.log10Pow2 -/
def h79 : HFn :=
  ⟨6, [(.tmp 2)],
    (.seq (.region [
      ⟨(some 2), (.op (.mv (.cst (.int .i64 0)))), none⟩] [])
    (.seq (.region [
      ⟨(some 3), (.op (.mv (.tmp 0))), none⟩,
      ⟨(some 4), (.op (.bin .mul none (.tmp 3) (.cst (.int .i64 78913)))), none⟩,
      ⟨(some 5), (.op (.bin .shr none (.tmp 4) (.cst (.int .u64 18)))), none⟩,
      ⟨(some 2), (.op (.mv (.tmp 5))), none⟩] [])
    .ret))⟩
theorem c79 : cFn Tryd.prog [] Tryd.f79 = some h79 := by kernel_rfl
/-- math/bits.Len64 -/
def h80 : HFn :=
  ⟨25, [(.tmp 2)],
    (.seq (.region [
      ⟨(some 2), (.op (.mv (.cst (.int .i64 0)))), none⟩] [])
    (.seq (.seq (.region [
      ⟨(some 3), (.op (.mv (.tmp 0))), none⟩,
      ⟨(some 4), (.op (.bin .geq none (.tmp 3) (.cst (.int .u64 4294967296)))), none⟩] [])
    (.cond (.tmp 4)
      (.seq (.region [
        ⟨(some 5), (.op (.mv (.tmp 0))), none⟩,
        ⟨(some 6), (.op (.bin .shr none (.tmp 5) (.cst (.int .u64 32)))), none⟩,
        ⟨(some 0), (.op (.mv (.tmp 6))), none⟩] [])
      (.region [
        ⟨(some 2), (.op (.mv (.cst (.int .i64 32)))), none⟩] []))
      .skip))
    (.seq (.seq (.region [
      ⟨(some 7), (.op (.mv (.tmp 0))), none⟩,
      ⟨(some 8), (.op (.bin .geq none (.tmp 7) (.cst (.int .u64 65536)))), none⟩] [])
    (.cond (.tmp 8)
      (.seq (.region [
        ⟨(some 9), (.op (.mv (.tmp 0))), none⟩,
        ⟨(some 10), (.op (.bin .shr none (.tmp 9) (.cst (.int .u64 16)))), none⟩,
        ⟨(some 0), (.op (.mv (.tmp 10))), none⟩] [])
      (.region [
        ⟨(some 11), (.op (.mv (.tmp 2))), none⟩,
        ⟨(some 12), (.op (.bin .add none (.tmp 11) (.cst (.int .i64 16)))), none⟩,
        ⟨(some 2), (.op (.mv (.tmp 12))), none⟩] []))
      .skip))
    (.seq (.seq (.region [
      ⟨(some 13), (.op (.mv (.tmp 0))), none⟩,
      ⟨(some 14), (.op (.bin .geq none (.tmp 13) (.cst (.int .u64 256)))), none⟩] [])
    (.cond (.tmp 14)
      (.seq (.region [
        ⟨(some 15), (.op (.mv (.tmp 0))), none⟩,
        ⟨(some 16), (.op (.bin .shr none (.tmp 15) (.cst (.int .u64 8)))), none⟩,
        ⟨(some 0), (.op (.mv (.tmp 16))), none⟩] [])
      (.region [
        ⟨(some 17), (.op (.mv (.tmp 2))), none⟩,
        ⟨(some 18), (.op (.bin .add none (.tmp 17) (.cst (.int .i64 8)))), none⟩,
        ⟨(some 2), (.op (.mv (.tmp 18))), none⟩] []))
      .skip))
    (.seq (.region [
      ⟨(some 19), (.op (.mv (.tmp 2))), none⟩,
      ⟨(some 20), (.op (.mv (.tmp 0))), none⟩,
      ⟨(some 21), (.op (.cInt .u8 (.tmp 20))), none⟩,
      ⟨(some 22), (.op (.idxStr (.cst (.str [0, 1, 2, 2, 3, 3, 3, 3, 4, 4, 4, 4, 4, 4, 4, 4, 5, 5, 5, 5, 5, 5, 5, 5, 5, 5, 5, 5, 5, 5, 5, 5, 6, 6, 6, 6, 6, 6, 6, 6, 6, 6, 6, 6, 6, 6, 6, 6, 6, 6, 6, 6, 6, 6, 6, 6, 6, 6, 6, 6, 6, 6, 6, 6, 7, 7, 7, 7, 7, 7, 7, 7, 7, 7, 7, 7, 7, 7, 7, 7, 7, 7, 7, 7, 7, 7, 7, 7, 7, 7, 7, 7, 7, 7, 7, 7, 7, 7, 7, 7, 7, 7, 7, 7, 7, 7, 7, 7, 7, 7, 7, 7, 7, 7, 7, 7, 7, 7, 7, 7, 7, 7, 7, 7, 7, 7, 7, 7, 8, 8, 8, 8, 8, 8, 8, 8, 8, 8, 8, 8, 8, 8, 8, 8, 8, 8, 8, 8, 8, 8, 8, 8, 8, 8, 8, 8, 8, 8, 8, 8, 8, 8, 8, 8, 8, 8, 8, 8, 8, 8, 8, 8, 8, 8, 8, 8, 8, 8, 8, 8, 8, 8, 8, 8, 8, 8, 8, 8, 8, 8, 8, 8, 8, 8, 8, 8, 8, 8, 8, 8, 8, 8, 8, 8, 8, 8, 8, 8, 8, 8, 8, 8, 8, 8, 8, 8, 8, 8, 8, 8, 8, 8, 8, 8, 8, 8, 8, 8, 8, 8, 8, 8, 8, 8, 8, 8, 8, 8, 8, 8, 8, 8, 8, 8, 8, 8, 8, 8, 8, 8, 8, 8, 8, 8, 8, 8])) (.tmp 21))), none⟩,
      ⟨(some 23), (.op (.cInt .i64 (.tmp 22))), none⟩,
      ⟨(some 24), (.op (.bin .add none (.tmp 19) (.tmp 23))), none⟩,
      ⟨(some 2), (.op (.mv (.tmp 24))), none⟩] [])
    .ret)))))⟩
theorem c80 : cFn Tryd.prog [] Tryd.f80 = some h80 := by kernel_rfl
/-- internal/strconv.bool2[int] -/
def h81 : HFn :=
  ⟨4, [(.tmp 2)],
    (.seq (.region [
      ⟨(some 2), (.op (.mv (.cst (.int .i64 0)))), none⟩] [])
    (.seq (.seq (.region [
      ⟨(some 3), (.op (.mv (.tmp 0))), none⟩] [])
    (.cond (.tmp 3)
      (.seq (.region [
        ⟨(some 2), (.op (.mv (.cst (.int .i64 1)))), none⟩] [])
      .ret)
      .skip))
    (.seq (.region [
      ⟨(some 2), (.op (.mv (.cst (.int .i64 0)))), none⟩] [])
    .ret)))⟩
theorem c81 : cFn Tryd.prog [] Tryd.f81 = some h81 := by kernel_rfl
/-- internal/strconv.isPowerOfTwo -/
def h82 : HFn :=
  ⟨8, [(.tmp 2)],
    (.seq (.region [
      ⟨(some 2), (.op (.mv (.cst (.bool false)))), none⟩] [])
    (.seq (.region [
      ⟨(some 3), (.op (.mv (.tmp 0))), none⟩,
      ⟨(some 4), (.op (.mv (.tmp 0))), none⟩,
      ⟨(some 5), (.op (.bin .sub none (.tmp 4) (.cst (.int .i64 1)))), none⟩,
      ⟨(some 6), (.op (.bin .and none (.tmp 3) (.tmp 5))), none⟩,
      ⟨(some 7), (.op (.bin .eql (some .int) (.tmp 6) (.cst (.int .i64 0)))), none⟩,
      ⟨(some 2), (.op (.mv (.tmp 7))), none⟩] [])
    .ret))⟩
theorem c82 : cFn Tryd.prog [] Tryd.f82 = some h82 := by kernel_rfl
/-- math/bits.TrailingZeros -/
def h83 : HFn :=
  ⟨8, [(.tmp 2)],
    (.seq (.region [
      ⟨(some 2), (.op (.mv (.cst (.int .i64 0)))), none⟩] [])
    (.seq (.cond (.cst (.bool false))
      (.seq (.region [
        ⟨(some 3), (.op (.mv (.tmp 0))), none⟩,
        ⟨(some 4), (.op (.cInt .u32 (.tmp 3))), none⟩,
        ⟨(some 5), (.call (.cst (.func (.func 84) [] [])) [(.tmp 4)]), none⟩,
        ⟨(some 2), (.op (.mv (.tmp 5))), none⟩] [])
      .ret)
      .skip)
    (.seq (.region [
      ⟨(some 6), (.op (.mv (.tmp 0))), none⟩,
      ⟨(some 7), (.call (.cst (.func (.func 85) [] [])) [(.tmp 6)]), none⟩,
      ⟨(some 2), (.op (.mv (.tmp 7))), none⟩] [])
    .ret)))⟩
theorem c83 : cFn Tryd.prog [] Tryd.f83 = some h83 := by kernel_rfl
/-- math/bits.TrailingZeros32 -/
def h84 : HFn :=
  ⟨14, [(.tmp 2)],
    (.seq (.region [
      ⟨(some 2), (.op (.mv (.cst (.int .i64 0)))), none⟩] [])
    (.seq (.seq (.region [
      ⟨(some 3), (.op (.mv (.tmp 0))), none⟩,
      ⟨(some 4), (.op (.bin .eql (some .int) (.tmp 3) (.cst (.int .u32 0)))), none⟩] [])
    (.cond (.tmp 4)
      (.seq (.region [
        ⟨(some 2), (.op (.mv (.cst (.int .i64 32)))), none⟩] [])
      .ret)
      .skip))
    (.seq (.region [
      ⟨(some 5), (.op (.mv (.tmp 0))), none⟩,
      ⟨(some 6), (.op (.mv (.tmp 0))), none⟩,
      ⟨(some 7), (.op (.un .neg (.tmp 6))), none⟩,
      ⟨(some 8), (.op (.bin .and none (.tmp 5) (.tmp 7))), none⟩,
      ⟨(some 9), (.op (.bin .mul none (.tmp 8) (.cst (.int .u32 125613361)))), none⟩,
      ⟨(some 10), (.op (.bin .shr none (.tmp 9) (.cst (.int .u64 27)))), none⟩,
      ⟨(some 11), (.op (.gidxA 32 1 2 (.tmp 10))), none⟩,
      ⟨(some 12), (.op (.load none (.tmp 11))), none⟩,
      ⟨(some 13), (.op (.cInt .i64 (.tmp 12))), none⟩,
      ⟨(some 2), (.op (.mv (.tmp 13))), none⟩] [])
    .ret)))⟩
theorem c84 : cFn Tryd.prog [] Tryd.f84 = some h84 := by kernel_rfl
/-- math/bits.TrailingZeros64 -/
def h85 : HFn :=
  ⟨14, [(.tmp 2)],
    (.seq (.region [
      ⟨(some 2), (.op (.mv (.cst (.int .i64 0)))), none⟩] [])
    (.seq (.seq (.region [
      ⟨(some 3), (.op (.mv (.tmp 0))), none⟩,
      ⟨(some 4), (.op (.bin .eql (some .int) (.tmp 3) (.cst (.int .u64 0)))), none⟩] [])
    (.cond (.tmp 4)
      (.seq (.region [
        ⟨(some 2), (.op (.mv (.cst (.int .i64 64)))), none⟩] [])
      .ret)
      .skip))
    (.seq (.region [
      ⟨(some 5), (.op (.mv (.tmp 0))), none⟩,
      ⟨(some 6), (.op (.mv (.tmp 0))), none⟩,
      ⟨(some 7), (.op (.un .neg (.tmp 6))), none⟩,
      ⟨(some 8), (.op (.bin .and none (.tmp 5) (.tmp 7))), none⟩,
      ⟨(some 9), (.op (.bin .mul none (.tmp 8) (.cst (.int .u64 285870213051353865)))), none⟩,
      ⟨(some 10), (.op (.bin .shr none (.tmp 9) (.cst (.int .u64 58)))), none⟩,
      ⟨(some 11), (.op (.gidxA 64 1 3 (.tmp 10))), none⟩,
      ⟨(some 12), (.op (.load none (.tmp 11))), none⟩,
      ⟨(some 13), (.op (.cInt .i64 (.tmp 12))), none⟩,
      ⟨(some 2), (.op (.mv (.tmp 13))), none⟩] [])
    .ret)))⟩
theorem c85 : cFn Tryd.prog [] Tryd.f85 = some h85 := by kernel_rfl
def F : FuncId → Option HFn
  | 9 => some h9
  | 11 => some h11
  | 12 => some h12
  | 21 => some h21
  | 22 => some h22
  | 23 => some h23
  | 25 => some h25
  | 35 => some h35
  | 36 => some h36
  | 37 => some h37
  | 38 => some h38
  | 46 => some h46
  | 47 => some h47
  | 52 => some h52
  | 53 => some h53
  | 57 => some h57
  | 59 => some h59
  | 60 => some h60
  | 61 => some h61
  | 62 => some h62
  | 63 => some h63
  | 64 => some h64
  | 68 => some h68
  | 69 => some h69
  | 74 => some h74
  | 75 => some h75
  | 76 => some h76
  | 77 => some h77
  | 79 => some h79
  | 80 => some h80
  | 81 => some h81
  | 82 => some h82
  | 83 => some h83
  | 84 => some h84
  | 85 => some h85
  | _ => none
theorem F_ok : FOk Tryd.prog F := by
  intro f hf h
  unfold F at h
  split at h
  · simp at h; subst h; exact ⟨_, [], Tryd.func9, c9⟩
  · simp at h; subst h; exact ⟨_, [], Tryd.func11, c11⟩
  · simp at h; subst h; exact ⟨_, [], Tryd.func12, c12⟩
  · simp at h; subst h; exact ⟨_, [], Tryd.func21, c21⟩
  · simp at h; subst h; exact ⟨_, [], Tryd.func22, c22⟩
  · simp at h; subst h; exact ⟨_, [], Tryd.func23, c23⟩
  · simp at h; subst h; exact ⟨_, [], Tryd.func25, c25⟩
  · simp at h; subst h; exact ⟨_, [], Tryd.func35, c35⟩
  · simp at h; subst h; exact ⟨_, [], Tryd.func36, c36⟩
  · simp at h; subst h; exact ⟨_, [], Tryd.func37, c37⟩
  · simp at h; subst h; exact ⟨_, [], Tryd.func38, c38⟩
  · simp at h; subst h; exact ⟨_, [], Tryd.func46, c46⟩
  · simp at h; subst h; exact ⟨_, [], Tryd.func47, c47⟩
  · simp at h; subst h; exact ⟨_, [], Tryd.func52, c52⟩
  · simp at h; subst h; exact ⟨_, [], Tryd.func53, c53⟩
  · simp at h; subst h; exact ⟨_, [], Tryd.func57, c57⟩
  · simp at h; subst h; exact ⟨_, [], Tryd.func59, c59⟩
  · simp at h; subst h; exact ⟨_, [], Tryd.func60, c60⟩
  · simp at h; subst h; exact ⟨_, [], Tryd.func61, c61⟩
  · simp at h; subst h; exact ⟨_, [], Tryd.func62, c62⟩
  · simp at h; subst h; exact ⟨_, [], Tryd.func63, c63⟩
  · simp at h; subst h; exact ⟨_, [], Tryd.func64, c64⟩
  · simp at h; subst h; exact ⟨_, [], Tryd.func68, c68⟩
  · simp at h; subst h; exact ⟨_, [], Tryd.func69, c69⟩
  · simp at h; subst h; exact ⟨_, [], Tryd.func74, c74⟩
  · simp at h; subst h; exact ⟨_, [], Tryd.func75, c75⟩
  · simp at h; subst h; exact ⟨_, [], Tryd.func76, c76⟩
  · simp at h; subst h; exact ⟨_, [], Tryd.func77, c77⟩
  · simp at h; subst h; exact ⟨_, [], Tryd.func79, c79⟩
  · simp at h; subst h; exact ⟨_, [], Tryd.func80, c80⟩
  · simp at h; subst h; exact ⟨_, [], Tryd.func81, c81⟩
  · simp at h; subst h; exact ⟨_, [], Tryd.func82, c82⟩
  · simp at h; subst h; exact ⟨_, [], Tryd.func83, c83⟩
  · simp at h; subst h; exact ⟨_, [], Tryd.func84, c84⟩
  · simp at h; subst h; exact ⟨_, [], Tryd.func85, c85⟩
  · simp at h
end S
end Go.Proofs.YthihchoccpnfeaaDoor
namespace Go.Proofs.YthihchoccpnfeaaDoor
open Go Go.HL Go.Shelf V
namespace A
set_option maxRecDepth 100000
set_option maxHeartbeats 40000000
theorem ok9 : okF Tryd.prog 9 := ⟨_, Tryd.func9, by kernel_rfl, by kernel_rfl⟩
theorem run9 : ((hcall S.F X 400 9 [] []).map fun x => HV.eqb x.1 (.bool true)) = some true := by kernel_rfl
theorem shown9 (hs : HS) : HC Tryd.prog 9 [] hs fun v hs' => v = .bool true ∧ hs' = hs :=
  HC.frame (R := fun v => v = .bool true) rfl (fun v h => by subst h; rfl) (hcall_bool mixed S.F_ok X_ok rfl run9)
theorem shown9S {hs : HS} {l : List SA} (H : Sat hs l) : HC Tryd.prog 9 [] hs fun v hs' => v = .bool true ∧ Sat hs' l := (shown9 hs).mono fun v hs' h => ⟨h.1, by rw [h.2]; exact H⟩
theorem fill5 {k a b : Int} {t : List UInt8} {w : HV} (h : w.one = true) : hfill [.int .i64 0, .int .i64 0, .int .i64 0, .str [], .nilSlice] [(0, 5, .agg [.int .i64 k, .int .i64 a, .int .i64 b, .str t, w])] = some [.int .i64 k, .int .i64 a, .int .i64 b, .str t, w] := by
  rw [hf_agg (n := 5) (by simp only [List.all_cons, List.all_nil, on_int, on_str, h, Bool.and_self]) rfl (by decide)]; rfl
theorem goods_snoc {A : List AE} {i : Nat} {e : AE} (h : A[i]? = some e) : goods (A.take (i + 1)) = goods (A.take i) ++ (if checkF e.k e.id e.num e.t e.b.length = 0 then [e] else []) := by
  unfold goods
  rw [List.take_add_one, h, List.filter_append]
  congr 1
  show List.filter AE.ok [e] = _
  unfold AE.ok
  split <;> simp_all
theorem puts_snoc {A : List AE} {i : Nat} {e : AE} (h : A[i]? = some e) : (A.take (i + 1)).flatMap AE.put = (A.take i).flatMap AE.put ++ e.put := by
  rw [List.take_add_one, h, List.flatMap_append]
  show _ ++ List.flatMap AE.put [e] = _
  rw [List.flatMap_singleton]
theorem goods_len (A : List AE) (i : Nat) : (goods (A.take i)).length ≤ i := by
  unfold goods
  have h := List.length_filter_le AE.ok (A.take i)
  rw [List.length_take] at h
  omega
theorem put_short {k id num : Int} {t b : List UInt8} (hid : id ≤ 9223372036854775807) (hnum : num ≤ 9223372036854775807) (hb : b.length < 140737488355328) : (putB k id num t b).length ≤ 300 + b.length := by
  unfold putB
  split
  · rename_i hc
    obtain ⟨q1, q2, q3, q4, q5⟩ := check_all hc
    have wl := word_len k
    have il := pr_len hid
    have nl := pr_len hnum
    have bl := pr_len (n := ((b.length : Nat) : Int)) (by omega)
    unfold putF
    split
    · simp; omega
    · split
      · simp; omega
      · split
        · simp; omega
        · split
          · rename_i hk
            have tl : t.length ≤ 200 := by
              unfold tubeB at q4
              rw [if_pos hk] at q4
              exact valid_len q4
            simp; omega
          · split <;> (simp; omega)
  · simp
theorem puts_short : ∀ {A : List AE}, (∀ e ∈ A, e.id ≤ 9223372036854775807 ∧ e.num ≤ 9223372036854775807 ∧ e.b.length < 140737488355328) → (A.flatMap AE.put).length ≤ 300 * A.length + sumB A
  | [], _ => by simp [sumB]
  | e :: A, h => by
    have h1 := h e List.mem_cons_self
    have h2 := puts_short (A := A) fun x hx => h x (List.mem_cons_of_mem _ hx)
    have h3 := put_short (k := e.k) (t := e.t) h1.1 h1.2.1 h1.2.2
    rw [List.flatMap_cons, List.length_append, List.length_cons]
    have h4 : e.put.length ≤ 300 + e.b.length := h3
    have h5 : sumB (e :: A) = e.b.length + sumB A := by unfold sumB; simp
    omega
theorem goods_all {A : List AE} {e : AE} (h : e ∈ goods A) : e ∈ A ∧ e.ok = true := List.mem_filter.1 h
end A
end Go.Proofs.YthihchoccpnfeaaDoor
namespace Go.Proofs.YthihchoccpnfeaaDoor
open Go Go.HL Go.Shelf V
namespace A
set_option maxRecDepth 100000
set_option maxHeartbeats 40000000
set_option linter.unusedSimpArgs false
attribute [local irreducible] pt My Ex Vw Gr GrK each grp exs Sat takeCells happend hbuildSlice hstore hbox hslice hmakeSlice hs2b hcopy HL.unit opC
theorem my_cut {hs : HS} {l : List SA} {w : HV} {bs : List UInt8} {a j : Nat} (H : Sat hs (My 1 w bs.length (bcells bs) :: l)) (ha : a ≤ j) (hk : j ≤ bs.length) : ∃ x, hslice w (some (.int .i64 (a : Nat))) (some (.int .i64 (j : Nat))) none = some x ∧
    ∀ hs l, Sat hs (My 1 w bs.length (bcells bs) :: l) → Rd hs 1 x ((bs.take j).drop a).length (bcells ((bs.take j).drop a)) := by
  obtain ⟨x, hx, _⟩ := rd_cut H.rd rfl (lo := a) (hi := j) (Lo.some (k := .i64)) (Hi.some (k := .i64)) ha hk
  refine ⟨x, hx, fun hs l H => ?_⟩
  obtain ⟨x2, hx2, r2⟩ := rd_cut H.rd rfl (lo := a) (hi := j) (Lo.some (k := .i64)) (Hi.some (k := .i64)) ha hk
  rw [hx] at hx2; cases hx2
  rw [List.length_drop, List.length_take, Nat.min_eq_left hk, List.drop_take]
  exact r2
theorem take_mid {all : List UInt8} {a n : Nat} : all.take a ++ (all.take (a + n)).drop a = all.take (a + n) := by
  have h := List.take_append_drop a (all.take (a + n))
  rwa [List.take_take, Nat.min_eq_left (by omega)] at h
theorem told_mid {W : List AE} {L : List RE} {told : Nat} {m : List (Int × Fm)} (ht : told ≤ W.length) (h : W.map AE.out = (W.take told).map AE.out ++ L.map RE.x ++ m) :
    told + L.length ≤ W.length ∧ (∀ k e, L[k]? = some e → ∃ w, W[told + k]? = some w ∧ w.out = e.x) ∧ (W.take (told + L.length)).map AE.out = (W.take told).map AE.out ++ L.map RE.x := by
  have h0 := congrArg List.length h
  simp only [List.length_map, List.length_append, List.length_take, Nat.min_eq_left ht] at h0
  have hl : ((W.take told).map AE.out).length = told := by rw [List.length_map, List.length_take, Nat.min_eq_left ht]
  refine ⟨by omega, fun k e he => ?_, ?_⟩
  · have hk := lt_of_get he
    have h1 : (W.map AE.out)[told + k]? = some e.x := by
      rw [h, List.append_assoc, List.getElem?_append_right (by rw [hl]; omega), hl, Nat.add_sub_cancel_left, List.getElem?_append_left (by simpa using hk), List.getElem?_map, he]; rfl
    rw [List.getElem?_map, Option.map_eq_some_iff] at h1
    exact h1
  · rw [List.map_take, h, List.take_append_of_le_length (by rw [List.length_append, hl, List.length_map]; omega), List.take_of_length_le (by rw [List.length_append, hl, List.length_map]; omega)]
theorem dec_nil : Dec [] [] false [] := by
  have h : firstK [] = none := by
    cases e : firstK [] with
    | none => rfl
    | some k =>
      obtain ⟨_, h2, h3⟩ := first_put e
      have := put_long k (formF k []).id (formF k []).num (formF k []).tube (formF k []).body
      have h4 := congrArg List.length h3
      unfold outF at h4
      simp only [List.length_append, List.length_nil] at h4
      omega
  exact Dec.wait h (by simp)
theorem back4 {hs : HS} {l : List SA} {v cv : HV} {A : List AE} {C : List Int} (H : Sat hs l) (RA : ∀ hs, Sat hs l → Rd hs 5 v A.length (A.flatMap AE.cells)) (RB : ∀ hs, Sat hs l → ∀ e ∈ A, Rd hs 1 e.w e.b.length (bcells e.b)) (RC : ∀ hs, Sat hs l → Rd hs 1 cv C.length (C.map (HV.int .i64))) (G : ∀ hs, Sat hs l → hasTab hs 1 .u64 Lib.pow10Tab = true)
    (hA : A.length < 4398046511104) (hB : ∀ e ∈ A, e.b.length < 140737488355328) (hT : ∀ e ∈ A, e.t.length ≤ 140737488351232) (hI : ∀ e ∈ A, (-9223372036854775808 ≤ e.id ∧ e.id ≤ 9223372036854775807) ∧ (-9223372036854775808 ≤ e.num ∧ e.num ≤ 9223372036854775807)) (hC : C.length < 35184372088832) :
    HC Tryd.prog 4 [v, cv] hs fun r _ => r = .bool true := by
  have hmax : maxLen = 9223372036854775807 := rfl
  have one := (RA _ H).one
  have cel := (RA _ H).cells
  have len := (RA _ H).len
  have one2 := (RC _ H).one
  have cel2 := (RC _ H).cells
  have len2 := (RC _ H).len
  have hputs := puts_short (A := A) fun e he => ⟨(hI e he).1.2, (hI e he).2.2, hB e he⟩
  refine HC.wp mixed Tryd.func4 c4 ?_
  first | have f0 := Sat.pf (H) | have f0 := trivial
  first | have f1 := Sat.pf (H.t) | have f1 := trivial
  first | have f2 := Sat.pf (H.t.t) | have f2 := trivial
  first | have f3 := Sat.pf (H.t.t.t) | have f3 := trivial
  first | have f4 := Sat.pf (H.t.t.t.t) | have f4 := trivial
  first | have f5 := Sat.pf (H.t.t.t.t.t) | have f5 := trivial
  first | have f6 := Sat.pf (H.t.t.t.t.t.t) | have f6 := trivial
  first | have f7 := Sat.pf (H.t.t.t.t.t.t.t) | have f7 := trivial
  repeat' first
    | ((with_reducible show Need _); refine need_of ?_; (first | have f0 := Sat.pf (H) | have f0 := trivial); (first | have f1 := Sat.pf (H.t) | have f1 := trivial); (first | have f2 := Sat.pf (H.t.t) | have f2 := trivial); (first | have f3 := Sat.pf (H.t.t.t) | have f3 := trivial); (first | have f4 := Sat.pf (H.t.t.t.t) | have f4 := trivial); (first | have f5 := Sat.pf (H.t.t.t.t.t) | have f5 := trivial); (first | have f6 := Sat.pf (H.t.t.t.t.t.t) | have f6 := trivial); (first | have f7 := Sat.pf (H.t.t.t.t.t.t.t) | have f7 := trivial))
    | simp -implicitDefEqProofs (disch := first | omega | decide | exact rfl | assumption | exact Nat.le_of_ble_eq_true rfl | exact One.c | exact One.o) only [vsA, vsB, eq_self, if_true, if_false, implies_true, false_implies, evp, HX.ev, Nat.reduceAdd, HOp.looks, Nat.reduceEqDiff, overw, Nat.reduceBEq, h4, one, cel, len, one2, cel2, len2, ub4, f0, f1, f2, f3, f4, f5, f6, f7, frame0, List.replicate, Nat.sub]
    | (refine condK_cases (fun h => ?_) (fun h => ?_) <;> (try simp only [h]) <;> (try simp only [athA, ne_eq] at h) <;> (try (exfalso; omega)))
    | (refine guardK_cases (fun h => ?_) (fun h => ?_) <;> (try simp only [h]) <;> (try simp only [athA, ne_eq] at h) <;> (try (exfalso; omega)))
    | (refine dgK_cases (fun h => ?_) (fun h => ?_) <;> (try simp only [h]) <;> (try simp only [athA, ne_eq] at h) <;> (try (exfalso; omega)))
    | (clear H f0 f1 f2 f3 f4 f5 f6 f7; (with_reducible intro v2 hs H); (try simp only [setA, overw, Nat.reduceAdd] at H); refine need ?_)
    | ((with_reducible show actK _ (HAct.call (HX.cst (HV.func (Fn.func 20) _ _)) _) _ _ _ _ _); refine vcall_of ok20 rfl (beyond20 H RA RB hA hB) ?_;  clear H f0 f1 f2 f3 f4 f5 f6 f7; rintro r hs ⟨c, rfl, hcc, H⟩; refine need ?_)
    | ((with_reducible show drK _ _ _ _ _ _ _ _ _ (some ⟨_, HAct.call (HX.cst (HV.func (Fn.func 20) _ _)) _, none⟩)); refine vdr_call ok20 rfl (beyond20 H RA RB hA hB) ?_;  clear H f0 f1 f2 f3 f4 f5 f6 f7; rintro r hs ⟨c, rfl, hcc, H⟩; refine need ?_)
    | ((with_reducible show actK _ (HAct.call (HX.cst (HV.func (Fn.func 9) _ _)) _) _ _ _ _ _); refine vcall_of ok9 rfl (shown9S H) ?_;  clear H f0 f1 f2 f3 f4 f5 f6 f7; rintro r hs ⟨rfl, H⟩; refine need ?_)
    | ((with_reducible show drK _ _ _ _ _ _ _ _ _ (some ⟨_, HAct.call (HX.cst (HV.func (Fn.func 9) _ _)) _, none⟩)); refine vdr_call ok9 rfl (shown9S H) ?_;  clear H f0 f1 f2 f3 f4 f5 f6 f7; rintro r hs ⟨rfl, H⟩; refine need ?_)
    | ((with_reducible show actK _ (HAct.call (HX.cst (HV.func (Fn.func 21) _ _)) _) _ _ _ _ _); refine vcall_of ok21 rfl (new21 H) ?_;  clear H f0 f1 f2 f3 f4 f5 f6 f7; rintro r hs ⟨p, rfl, H⟩; refine need ?_)
    | ((with_reducible show drK _ _ _ _ _ _ _ _ _ (some ⟨_, HAct.call (HX.cst (HV.func (Fn.func 21) _ _)) _, none⟩)); refine vdr_call ok21 rfl (new21 H) ?_;  clear H f0 f1 f2 f3 f4 f5 f6 f7; rintro r hs ⟨p, rfl, H⟩; refine need ?_)
    | refine opC_K ?_
    | refine opC_D ?_
    | ((with_reducible show opC (hbuildSlice _ _ _ _ _) _); refine sl_bslice0 H ?_; clear H f0 f1 f2 f3 f4 f5 f6 f7; intro r hs H; refine need ?_)
    | ((with_reducible show opC (unit (hstore _ _ _ _)) _); refine sl_store1 (by with_reducible first | exact H | exact H.p1 | exact H.p2 | exact H.p3 | exact H.p4 | exact H.p5 | exact H.p6 | exact H.p7) (Nat.le_of_ble_eq_true rfl) (by first | exact rfl | (simp only [f0, f1, f2, f3, f4, f5, f6, f7]; done) | (simp only [onA, *]; done)) (by first | exact rfl | (simp only [f0, f1, f2, f3, f4, f5, f6, f7]; done) | (simp only [onA, *]; done)) ?_)
    | ((with_reducible show opC (unit (hstore _ _ _ _)) _); refine sl_storeN (by with_reducible first | exact H | exact H.p1 | exact H.p2 | exact H.p3 | exact H.p4 | exact H.p5 | exact H.p6 | exact H.p7) rfl (Nat.le_of_ble_eq_true rfl) (by first | exact rfl | (simp only [f0, f1, f2, f3, f4, f5, f6, f7]; done) | (simp only [onA, *]; done)) ?_)
    | ((with_reducible show opC (happend _ _ _ _ _) _); refine sl_append (by with_reducible first | exact H | exact H.p1 | exact H.p2 | exact H.p3 | exact H.p4 | exact H.p5 | exact H.p6 | exact H.p7) (by first | assumption | with_reducible first | exact f0.2.1 | exact f1.2.1 | exact f2.2.1 | exact f3.2.1 | exact f4.2.1 | exact f5.2.1 | exact f6.2.1 | exact f7.2.1 | exact va_takeS) (by first | exact roomFor_of (by omega) | exact roomFor_wide (by omega)) (by omega) ?_)
    | ((with_reducible show opC (happend _ _ _ _ _) _); refine sl_append0X H (by first | assumption | with_reducible first | exact f0.2.1 | exact f1.2.1 | exact f2.2.1 | exact f3.2.1 | exact f4.2.1 | exact f5.2.1 | exact f6.2.1 | exact f7.2.1 | exact va_takeS) (by first | exact roomFor_of (by omega) | exact roomFor_wide (by omega)) (by omega) ?_)
    | ((with_reducible show opC (happend _ _ _ _ _) _); refine sl_appendX (by with_reducible first | exact H | exact H.p1 | exact H.p2 | exact H.p3 | exact H.p4 | exact H.p5 | exact H.p6 | exact H.p7) (by first | assumption | with_reducible first | exact f0.2.1 | exact f1.2.1 | exact f2.2.1 | exact f3.2.1 | exact f4.2.1 | exact f5.2.1 | exact f6.2.1 | exact f7.2.1 | exact va_takeS) (by first | exact roomFor_of (by omega) | exact roomFor_wide (by omega)) (by omega) ?_)
    | ((with_reducible show opC (hbuildSlice _ _ _ _ _) _); refine sl_bslice1 H rfl (by first | exact rfl | (simp only [f0, f1, f2, f3, f4, f5, f6, f7]; done) | (simp only [onA, *]; done)) (by first | exact rfl | (simp only [f0, f1, f2, f3, f4, f5, f6, f7]; done) | (simp only [onA, *]; done)) ?_)
    | ((with_reducible show opC (hbox _ _) _); refine sl_box1 H (by first | exact rfl | (simp only [f0, f1, f2, f3, f4, f5, f6, f7]; done) | (simp only [onA, *]; done)) (by first | exact rfl | (simp only [f0, f1, f2, f3, f4, f5, f6, f7]; done) | (simp only [onA, *]; done)) ?_)
    | ((with_reducible show opC (hbox _ _) _); refine sl_boxA H (by first | exact rfl | (simp only [f0, f1, f2, f3, f4, f5, f6, f7]; done) | (simp only [onA, *]; done)) ?_)
    | refine hwp_draw mixed rfl ?_
    | with_reducible intro hy

  have hsum := hcc (by first | rfl | assumption | simp_all)
  clear hcc
  rename_i w6 _
  refine HW.loopA mixed (fun t : Nat × HV × HV => (v :: cv :: .undef :: .undef :: .undef :: .ptr p 0 :: t.2.1 :: t.2.2 :: .int .i64 (t.1 : Nat) :: .undef :: .undef :: .undef :: .undef :: .undef :: .undef :: .undef :: .undef :: .undef :: .undef :: .undef :: .undef :: .undef :: .undef :: .undef :: .undef :: .undef :: .undef :: .undef :: .undef :: .undef :: .undef :: .undef :: .undef :: .undef :: .undef :: .undef :: .undef :: .undef :: .undef :: .undef :: .undef :: .undef :: .undef :: .undef :: .undef :: .undef :: .undef :: .undef :: .undef :: .undef :: .undef :: .undef :: .undef :: .undef :: .undef :: .undef :: .undef :: .undef :: .undef :: .undef :: .undef :: .undef :: .undef :: .undef :: .undef :: .undef :: .undef :: .undef :: .undef :: .undef :: .undef :: .undef :: .undef :: .undef :: .undef :: .undef :: .undef :: .undef :: .undef :: .undef :: .undef :: .undef :: .undef :: .undef :: .undef :: .undef :: .undef :: .undef :: .undef :: .undef :: .undef :: .undef :: .undef :: .undef :: .undef :: .undef :: .undef :: .undef :: .undef :: .undef :: .undef :: .undef :: .undef :: .undef :: .undef :: .undef :: .undef :: .undef :: .undef :: .undef :: .undef :: .undef :: .undef :: .undef :: .undef :: .undef :: .undef :: .undef :: .undef :: .undef :: .undef :: .undef :: .undef :: .undef :: .undef :: .undef :: .undef :: .undef :: .undef :: .undef :: .undef :: .undef :: .undef :: .undef :: .undef :: .undef :: .undef :: .undef :: .undef :: .undef :: .undef :: .undef :: .undef :: .undef :: .undef :: .undef :: .undef :: .undef :: .undef :: []))
    (fun t => My 5 t.2.2 (goods (A.take t.1)).length ((goods (A.take t.1)).flatMap AE.cells) :: My 1 t.2.1 ((A.take t.1).flatMap AE.put).length (bcells ((A.take t.1).flatMap AE.put)) :: ReadP p [] false [] :: l) (fun t => A.length - t.1) (fun t => t.1 ≤ A.length) (0, w6, r) (Nat.zero_le _) (by (repeat first | exact Less.nil | refine Less.undef _ ?_ | refine Less.keep _ ?_)) H ?_
  clear H
  rintro ⟨i, w6, w7⟩ hs hi H
  simp only at hi H
  by_cases h : i < A.length
  · obtain ⟨e, he⟩ : ∃ e, A[i]? = some e := ⟨_, List.getElem?_eq_getElem h⟩
    have hm := List.mem_of_getElem? he
    obtain ⟨hh, oo, hix, _, hld⟩ := (RA _ H.t.t.t).idxF (s := 5) (fun _ => rfl) rfl he .i64
    have so := (RA _ H.t.t.t).sOk
    have ew1 := (RB _ H.t.t.t e hm).one
    have ew2 := (RB _ H.t.t.t e hm).cells
    have d0 : decide (((i : Nat) : Int) < ((A.length : Nat) : Int)) = true := decide_eq_true (by omega)
    have hgl := goods_len A i
    have hpl : ((A.take i).flatMap AE.put).length ≤ (A.flatMap AE.put).length := by
      conv => rhs; rw [← List.take_append_drop i A]
      rw [List.flatMap_append, List.length_append]; omega
    have hel := put_short (k := e.k) (t := e.t) (hI e hm).1.2 (hI e hm).2.2 (hB e hm)
    have heb := hB e hm
    have fl5 := fill5 (k := e.k) (a := e.id) (b := e.num) (t := e.t) ew1
    obtain ⟨q, hq⟩ : ∃ q, q = checkF e.k e.id e.num e.t e.b.length := ⟨_, rfl⟩
    have hgs := goods_snoc he
    have hps := puts_snoc he
    rw [← hq] at hgs
    unfold AE.cells at hld
    by_cases hc : q = 0
    · subst hc
      have ob := True.intro
      first | have f0 := Sat.pf (H) | have f0 := trivial
      first | have f1 := Sat.pf (H.t) | have f1 := trivial
      first | have f2 := Sat.pf (H.t.t) | have f2 := trivial
      first | have f3 := Sat.pf (H.t.t.t) | have f3 := trivial
      first | have f4 := Sat.pf (H.t.t.t.t) | have f4 := trivial
      first | have f5 := Sat.pf (H.t.t.t.t.t) | have f5 := trivial
      first | have f6 := Sat.pf (H.t.t.t.t.t.t) | have f6 := trivial
      first | have f7 := Sat.pf (H.t.t.t.t.t.t.t) | have f7 := trivial
      repeat' first
        | ((with_reducible show Need _); refine need_of ?_; (first | have f0 := Sat.pf (H) | have f0 := trivial); (first | have f1 := Sat.pf (H.t) | have f1 := trivial); (first | have f2 := Sat.pf (H.t.t) | have f2 := trivial); (first | have f3 := Sat.pf (H.t.t.t) | have f3 := trivial); (first | have f4 := Sat.pf (H.t.t.t.t) | have f4 := trivial); (first | have f5 := Sat.pf (H.t.t.t.t.t) | have f5 := trivial); (first | have f6 := Sat.pf (H.t.t.t.t.t.t) | have f6 := trivial); (first | have f7 := Sat.pf (H.t.t.t.t.t.t.t) | have f7 := trivial); (first | have so := (RA _ (by with_reducible first | exact H.t | exact H.t.t | exact H.t.t.t | exact H.t.t.t.t | exact H.t.t.t.t.t | exact H.t.t.t.t.t.t | exact H.t.t.t.t.t.t.t | exact H.t.t.t.t.t.t.t.t)).sOk | skip); (first | have hld := (RA _ (by with_reducible first | exact H.t | exact H.t.t | exact H.t.t.t | exact H.t.t.t.t | exact H.t.t.t.t.t | exact H.t.t.t.t.t.t | exact H.t.t.t.t.t.t.t | exact H.t.t.t.t.t.t.t.t)).ldF (s := 5) (fun _ => rfl) rfl he hix; unfold AE.cells at hld | skip))
        | simp -implicitDefEqProofs (disch := first | omega | decide | exact rfl | assumption | exact Nat.le_of_ble_eq_true rfl | exact One.c | exact One.o) only [vsA, vsB, eq_self, if_true, if_false, implies_true, false_implies, evp, HX.ev, Nat.reduceAdd, HOp.looks, Nat.reduceEqDiff, overw, Nat.reduceBEq, one, cel, len, d0, hix, hld, so, ew1, ew2, ob, vadd1, ub4, f0, f1, f2, f3, f4, f5, f6, f7]
        | (refine condK_cases (fun h => ?_) (fun h => ?_) <;> (try simp only [h]) <;> (try simp only [athA, ne_eq] at h) <;> (try (exfalso; omega)))
        | (refine guardK_cases (fun h => ?_) (fun h => ?_) <;> (try simp only [h]) <;> (try simp only [athA, ne_eq] at h) <;> (try (exfalso; omega)))
        | (refine dgK_cases (fun h => ?_) (fun h => ?_) <;> (try simp only [h]) <;> (try simp only [athA, ne_eq] at h) <;> (try (exfalso; omega)))
        | (clear H f0 f1 f2 f3 f4 f5 f6 f7; (with_reducible intro v2 hs H); (try simp only [setA, overw, Nat.reduceAdd] at H); refine need ?_)
        | ((with_reducible show actK _ (HAct.call (HX.cst (HV.func (Fn.func 11) _ _)) _) _ _ _ _ _); refine vcall_of ok11 rfl (check11S H (fun _ h => RB _ h.t.t.t e hm) e.k e.id e.num e.t) ?_;  clear H f0 f1 f2 f3 f4 f5 f6 f7; intro v hs h; rw [← hq] at h; obtain ⟨rfl, H⟩ := h; refine need ?_)
        | ((with_reducible show drK _ _ _ _ _ _ _ _ _ (some ⟨_, HAct.call (HX.cst (HV.func (Fn.func 11) _ _)) _, none⟩)); refine vdr_call ok11 rfl (check11S H (fun _ h => RB _ h.t.t.t e hm) e.k e.id e.num e.t) ?_;  clear H f0 f1 f2 f3 f4 f5 f6 f7; intro v hs h; rw [← hq] at h; obtain ⟨rfl, H⟩ := h; refine need ?_)
        | ((with_reducible show actK _ (HAct.call (HX.cst (HV.func (Fn.func 12) _ _)) _) _ _ _ _ _); refine vcall_of ok12 rfl (put12S H (fun _ h => RB _ h.t.t.t e hm) (fun _ h => G _ h.t.t.t) e.k e.id e.num (hI e hm).1 (hI e hm).2 e.t (hT e hm)) ?_;  clear H f0 f1 f2 f3 f4 f5 f6 f7; intro v hs h; rw [← hq] at h; obtain ⟨w, rfl, H⟩ := h; refine need ?_)
        | ((with_reducible show drK _ _ _ _ _ _ _ _ _ (some ⟨_, HAct.call (HX.cst (HV.func (Fn.func 12) _ _)) _, none⟩)); refine vdr_call ok12 rfl (put12S H (fun _ h => RB _ h.t.t.t e hm) (fun _ h => G _ h.t.t.t) e.k e.id e.num (hI e hm).1 (hI e hm).2 e.t (hT e hm)) ?_;  clear H f0 f1 f2 f3 f4 f5 f6 f7; intro v hs h; rw [← hq] at h; obtain ⟨w, rfl, H⟩ := h; refine need ?_)
        | refine opC_K ?_
        | refine opC_D ?_
        | ((with_reducible show opC (hbuildSlice _ _ _ _ _) _); refine sl_bslice H rfl rfl (by omega) fl5 rfl ?_; clear H f0 f1 f2 f3 f4 f5 f6 f7; intro y hs H hy; have T := hy.take; refine need ?_)
        | ((with_reducible show opC (happend _ _ _ _ _) _); refine sl_append (n := (goods (A.take i)).length) (xs := (goods (A.take i)).flatMap AE.cells) (by with_reducible first | exact H | exact H.p1 | exact H.p2 | exact H.p3 | exact H.p4 | exact H.p5 | exact H.p6 | exact H.p7) T (by first | exact roomFor_of (by omega) | exact roomFor_wide (by omega)) (by omega) ?_; clear H f0 f1 f2 f3 f4 f5 f6 f7; intro vn hs H; refine need ?_)
        | ((with_reducible show opC (unit (hstore _ _ _ _)) _); refine sl_store1 (by with_reducible first | exact H | exact H.p1 | exact H.p2 | exact H.p3 | exact H.p4 | exact H.p5 | exact H.p6 | exact H.p7) (Nat.le_of_ble_eq_true rfl) (by first | exact rfl | (simp only [f0, f1, f2, f3, f4, f5, f6, f7]; done) | (simp only [onA, *]; done)) (by first | exact rfl | (simp only [f0, f1, f2, f3, f4, f5, f6, f7]; done) | (simp only [onA, *]; done)) ?_)
        | ((with_reducible show opC (unit (hstore _ _ _ _)) _); refine sl_storeN (by with_reducible first | exact H | exact H.p1 | exact H.p2 | exact H.p3 | exact H.p4 | exact H.p5 | exact H.p6 | exact H.p7) rfl (Nat.le_of_ble_eq_true rfl) (by first | exact rfl | (simp only [f0, f1, f2, f3, f4, f5, f6, f7]; done) | (simp only [onA, *]; done)) ?_)
        | ((with_reducible show opC (happend _ _ _ _ _) _); refine sl_append (by with_reducible first | exact H | exact H.p1 | exact H.p2 | exact H.p3 | exact H.p4 | exact H.p5 | exact H.p6 | exact H.p7) (by first | assumption | with_reducible first | exact f0.2.1 | exact f1.2.1 | exact f2.2.1 | exact f3.2.1 | exact f4.2.1 | exact f5.2.1 | exact f6.2.1 | exact f7.2.1 | exact va_takeS) (by first | exact roomFor_of (by omega) | exact roomFor_wide (by omega)) (by omega) ?_)
        | ((with_reducible show opC (happend _ _ _ _ _) _); refine sl_append0X H (by first | assumption | with_reducible first | exact f0.2.1 | exact f1.2.1 | exact f2.2.1 | exact f3.2.1 | exact f4.2.1 | exact f5.2.1 | exact f6.2.1 | exact f7.2.1 | exact va_takeS) (by first | exact roomFor_of (by omega) | exact roomFor_wide (by omega)) (by omega) ?_)
        | ((with_reducible show opC (happend _ _ _ _ _) _); refine sl_appendX (by with_reducible first | exact H | exact H.p1 | exact H.p2 | exact H.p3 | exact H.p4 | exact H.p5 | exact H.p6 | exact H.p7) (by first | assumption | with_reducible first | exact f0.2.1 | exact f1.2.1 | exact f2.2.1 | exact f3.2.1 | exact f4.2.1 | exact f5.2.1 | exact f6.2.1 | exact f7.2.1 | exact va_takeS) (by first | exact roomFor_of (by omega) | exact roomFor_wide (by omega)) (by omega) ?_)
        | ((with_reducible show opC (hbuildSlice _ _ _ _ _) _); refine sl_bslice1 H rfl (by first | exact rfl | (simp only [f0, f1, f2, f3, f4, f5, f6, f7]; done) | (simp only [onA, *]; done)) (by first | exact rfl | (simp only [f0, f1, f2, f3, f4, f5, f6, f7]; done) | (simp only [onA, *]; done)) ?_)
        | ((with_reducible show opC (hbox _ _) _); refine sl_box1 H (by first | exact rfl | (simp only [f0, f1, f2, f3, f4, f5, f6, f7]; done) | (simp only [onA, *]; done)) (by first | exact rfl | (simp only [f0, f1, f2, f3, f4, f5, f6, f7]; done) | (simp only [onA, *]; done)) ?_)
        | ((with_reducible show opC (hbox _ _) _); refine sl_boxA H (by first | exact rfl | (simp only [f0, f1, f2, f3, f4, f5, f6, f7]; done) | (simp only [onA, *]; done)) ?_)
        | refine hwp_draw mixed rfl ?_
        | with_reducible intro hy

      refine ⟨(i + 1, v2, vn), _, by simp only; omega, by simp only; omega, (by (repeat first | exact Less.nil | refine Less.undef _ ?_ | refine Less.keep _ ?_)), Weak.refl _, ?_⟩
      have h := H.p2.t
      simp only [hgs, hps, if_true, List.length_append, List.flatMap_append, List.flatMap_singleton, List.length_singleton]
      rw [show bcells ((A.take i).flatMap AE.put ++ e.put) = bcells ((A.take i).flatMap AE.put) ++ bcells e.put by simp [bcells]]
      exact h
    · have hpb : putB e.k e.id e.num e.t e.b = [] := by unfold putB; rw [if_neg (by rw [← hq]; exact hc)]
      rw [if_neg hc, List.append_nil] at hgs
      have hps' : (A.take (i + 1)).flatMap AE.put = (A.take i).flatMap AE.put := by
        rw [hps]; unfold AE.put; rw [hpb, List.append_nil]
      have d1 : decide (q = 0) = false := decide_eq_false hc
      have d2 : decide ((0 : Int) < ((0 : Nat) : Int)) = false := by decide
      first | have f0 := Sat.pf (H) | have f0 := trivial
      first | have f1 := Sat.pf (H.t) | have f1 := trivial
      first | have f2 := Sat.pf (H.t.t) | have f2 := trivial
      first | have f3 := Sat.pf (H.t.t.t) | have f3 := trivial
      first | have f4 := Sat.pf (H.t.t.t.t) | have f4 := trivial
      first | have f5 := Sat.pf (H.t.t.t.t.t) | have f5 := trivial
      first | have f6 := Sat.pf (H.t.t.t.t.t.t) | have f6 := trivial
      first | have f7 := Sat.pf (H.t.t.t.t.t.t.t) | have f7 := trivial
      repeat' first
        | ((with_reducible show Need _); refine need_of ?_; (first | have f0 := Sat.pf (H) | have f0 := trivial); (first | have f1 := Sat.pf (H.t) | have f1 := trivial); (first | have f2 := Sat.pf (H.t.t) | have f2 := trivial); (first | have f3 := Sat.pf (H.t.t.t) | have f3 := trivial); (first | have f4 := Sat.pf (H.t.t.t.t) | have f4 := trivial); (first | have f5 := Sat.pf (H.t.t.t.t.t) | have f5 := trivial); (first | have f6 := Sat.pf (H.t.t.t.t.t.t) | have f6 := trivial); (first | have f7 := Sat.pf (H.t.t.t.t.t.t.t) | have f7 := trivial); (first | have so := (RA _ (by with_reducible first | exact H.t | exact H.t.t | exact H.t.t.t | exact H.t.t.t.t | exact H.t.t.t.t.t | exact H.t.t.t.t.t.t | exact H.t.t.t.t.t.t.t | exact H.t.t.t.t.t.t.t.t)).sOk | skip); (first | have hld := (RA _ (by with_reducible first | exact H.t | exact H.t.t | exact H.t.t.t | exact H.t.t.t.t | exact H.t.t.t.t.t | exact H.t.t.t.t.t.t | exact H.t.t.t.t.t.t.t | exact H.t.t.t.t.t.t.t.t)).ldF (s := 5) (fun _ => rfl) rfl he hix; unfold AE.cells at hld | skip))
        | simp -implicitDefEqProofs (disch := first | omega | decide | exact rfl | assumption | exact Nat.le_of_ble_eq_true rfl | exact One.c | exact One.o) only [vsA, vsB, eq_self, if_true, if_false, implies_true, false_implies, evp, HX.ev, Nat.reduceAdd, HOp.looks, Nat.reduceEqDiff, overw, Nat.reduceBEq, one, cel, len, d0, d1, d2, hix, hld, so, ew1, ew2, vadd1, ub4, f0, f1, f2, f3, f4, f5, f6, f7]
        | (refine condK_cases (fun h => ?_) (fun h => ?_) <;> (try simp only [h]) <;> (try simp only [athA, ne_eq] at h) <;> (try (exfalso; omega)))
        | (refine guardK_cases (fun h => ?_) (fun h => ?_) <;> (try simp only [h]) <;> (try simp only [athA, ne_eq] at h) <;> (try (exfalso; omega)))
        | (refine dgK_cases (fun h => ?_) (fun h => ?_) <;> (try simp only [h]) <;> (try simp only [athA, ne_eq] at h) <;> (try (exfalso; omega)))
        | (clear H f0 f1 f2 f3 f4 f5 f6 f7; (with_reducible intro v2 hs H); (try simp only [setA, overw, Nat.reduceAdd] at H); refine need ?_)
        | ((with_reducible show actK _ (HAct.call (HX.cst (HV.func (Fn.func 11) _ _)) _) _ _ _ _ _); refine vcall_of ok11 rfl (check11S H (fun _ h => RB _ h.t.t.t e hm) e.k e.id e.num e.t) ?_;  clear H f0 f1 f2 f3 f4 f5 f6 f7; intro v hs h; rw [← hq] at h; obtain ⟨rfl, H⟩ := h; refine need ?_)
        | ((with_reducible show drK _ _ _ _ _ _ _ _ _ (some ⟨_, HAct.call (HX.cst (HV.func (Fn.func 11) _ _)) _, none⟩)); refine vdr_call ok11 rfl (check11S H (fun _ h => RB _ h.t.t.t e hm) e.k e.id e.num e.t) ?_;  clear H f0 f1 f2 f3 f4 f5 f6 f7; intro v hs h; rw [← hq] at h; obtain ⟨rfl, H⟩ := h; refine need ?_)
        | ((with_reducible show actK _ (HAct.call (HX.cst (HV.func (Fn.func 12) _ _)) _) _ _ _ _ _); refine vcall_of ok12 rfl (put12S H (fun _ h => RB _ h.t.t.t e hm) (fun _ h => G _ h.t.t.t) e.k e.id e.num (hI e hm).1 (hI e hm).2 e.t (hT e hm)) ?_;  clear H f0 f1 f2 f3 f4 f5 f6 f7; intro v hs h; rw [← hq, hpb] at h; obtain ⟨w, rfl, H⟩ := h; refine need ?_)
        | ((with_reducible show drK _ _ _ _ _ _ _ _ _ (some ⟨_, HAct.call (HX.cst (HV.func (Fn.func 12) _ _)) _, none⟩)); refine vdr_call ok12 rfl (put12S H (fun _ h => RB _ h.t.t.t e hm) (fun _ h => G _ h.t.t.t) e.k e.id e.num (hI e hm).1 (hI e hm).2 e.t (hT e hm)) ?_;  clear H f0 f1 f2 f3 f4 f5 f6 f7; intro v hs h; rw [← hq, hpb] at h; obtain ⟨w, rfl, H⟩ := h; refine need ?_)
        | refine opC_K ?_
        | refine opC_D ?_
        | ((with_reducible show opC (unit (hstore _ _ _ _)) _); refine sl_store1 (by with_reducible first | exact H | exact H.p1 | exact H.p2 | exact H.p3 | exact H.p4 | exact H.p5 | exact H.p6 | exact H.p7) (Nat.le_of_ble_eq_true rfl) (by first | exact rfl | (simp only [f0, f1, f2, f3, f4, f5, f6, f7]; done) | (simp only [onA, *]; done)) (by first | exact rfl | (simp only [f0, f1, f2, f3, f4, f5, f6, f7]; done) | (simp only [onA, *]; done)) ?_)
        | ((with_reducible show opC (unit (hstore _ _ _ _)) _); refine sl_storeN (by with_reducible first | exact H | exact H.p1 | exact H.p2 | exact H.p3 | exact H.p4 | exact H.p5 | exact H.p6 | exact H.p7) rfl (Nat.le_of_ble_eq_true rfl) (by first | exact rfl | (simp only [f0, f1, f2, f3, f4, f5, f6, f7]; done) | (simp only [onA, *]; done)) ?_)
        | ((with_reducible show opC (happend _ _ _ _ _) _); refine sl_append (by with_reducible first | exact H | exact H.p1 | exact H.p2 | exact H.p3 | exact H.p4 | exact H.p5 | exact H.p6 | exact H.p7) (by first | assumption | with_reducible first | exact f0.2.1 | exact f1.2.1 | exact f2.2.1 | exact f3.2.1 | exact f4.2.1 | exact f5.2.1 | exact f6.2.1 | exact f7.2.1 | exact va_takeS) (by first | exact roomFor_of (by omega) | exact roomFor_wide (by omega)) (by omega) ?_)
        | ((with_reducible show opC (happend _ _ _ _ _) _); refine sl_append0X H (by first | assumption | with_reducible first | exact f0.2.1 | exact f1.2.1 | exact f2.2.1 | exact f3.2.1 | exact f4.2.1 | exact f5.2.1 | exact f6.2.1 | exact f7.2.1 | exact va_takeS) (by first | exact roomFor_of (by omega) | exact roomFor_wide (by omega)) (by omega) ?_)
        | ((with_reducible show opC (happend _ _ _ _ _) _); refine sl_appendX (by with_reducible first | exact H | exact H.p1 | exact H.p2 | exact H.p3 | exact H.p4 | exact H.p5 | exact H.p6 | exact H.p7) (by first | assumption | with_reducible first | exact f0.2.1 | exact f1.2.1 | exact f2.2.1 | exact f3.2.1 | exact f4.2.1 | exact f5.2.1 | exact f6.2.1 | exact f7.2.1 | exact va_takeS) (by first | exact roomFor_of (by omega) | exact roomFor_wide (by omega)) (by omega) ?_)
        | ((with_reducible show opC (hbuildSlice _ _ _ _ _) _); refine sl_bslice1 H rfl (by first | exact rfl | (simp only [f0, f1, f2, f3, f4, f5, f6, f7]; done) | (simp only [onA, *]; done)) (by first | exact rfl | (simp only [f0, f1, f2, f3, f4, f5, f6, f7]; done) | (simp only [onA, *]; done)) ?_)
        | ((with_reducible show opC (hbox _ _) _); refine sl_box1 H (by first | exact rfl | (simp only [f0, f1, f2, f3, f4, f5, f6, f7]; done) | (simp only [onA, *]; done)) (by first | exact rfl | (simp only [f0, f1, f2, f3, f4, f5, f6, f7]; done) | (simp only [onA, *]; done)) ?_)
        | ((with_reducible show opC (hbox _ _) _); refine sl_boxA H (by first | exact rfl | (simp only [f0, f1, f2, f3, f4, f5, f6, f7]; done) | (simp only [onA, *]; done)) ?_)
        | refine hwp_draw mixed rfl ?_
        | with_reducible intro hy

      refine ⟨(i + 1, w6, w7), _, by simp only; omega, by simp only; omega, (by (repeat first | exact Less.nil | refine Less.undef _ ?_ | refine Less.keep _ ?_)), Weak.refl _, ?_⟩
      have h := H.t
      simp only [hgs, hps']
      exact h
  · obtain rfl : i = A.length := by omega
    rw [List.take_length] at H
    have d0 : decide (((A.length : Nat) : Int) < ((A.length : Nat) : Int)) = false := decide_eq_false (by omega)
    first | have f0 := Sat.pf (H) | have f0 := trivial
    first | have f1 := Sat.pf (H.t) | have f1 := trivial
    first | have f2 := Sat.pf (H.t.t) | have f2 := trivial
    first | have f3 := Sat.pf (H.t.t.t) | have f3 := trivial
    first | have f4 := Sat.pf (H.t.t.t.t) | have f4 := trivial
    first | have f5 := Sat.pf (H.t.t.t.t.t) | have f5 := trivial
    first | have f6 := Sat.pf (H.t.t.t.t.t.t) | have f6 := trivial
    first | have f7 := Sat.pf (H.t.t.t.t.t.t.t) | have f7 := trivial
    repeat' first
      | ((with_reducible show Need _); refine need_of ?_; (first | have f0 := Sat.pf (H) | have f0 := trivial); (first | have f1 := Sat.pf (H.t) | have f1 := trivial); (first | have f2 := Sat.pf (H.t.t) | have f2 := trivial); (first | have f3 := Sat.pf (H.t.t.t) | have f3 := trivial); (first | have f4 := Sat.pf (H.t.t.t.t) | have f4 := trivial); (first | have f5 := Sat.pf (H.t.t.t.t.t) | have f5 := trivial); (first | have f6 := Sat.pf (H.t.t.t.t.t.t) | have f6 := trivial); (first | have f7 := Sat.pf (H.t.t.t.t.t.t.t) | have f7 := trivial))
      | simp -implicitDefEqProofs (disch := first | omega | decide | exact rfl | assumption | exact Nat.le_of_ble_eq_true rfl | exact One.c | exact One.o) only [vsA, vsB, eq_self, if_true, if_false, implies_true, false_implies, evp, HX.ev, Nat.reduceAdd, HOp.looks, Nat.reduceEqDiff, overw, Nat.reduceBEq, one, cel, len, d0, ub4, f0, f1, f2, f3, f4, f5, f6, f7]
      | (refine condK_cases (fun h => ?_) (fun h => ?_) <;> (try simp only [h]) <;> (try simp only [athA, ne_eq] at h) <;> (try (exfalso; omega)))
      | (refine guardK_cases (fun h => ?_) (fun h => ?_) <;> (try simp only [h]) <;> (try simp only [athA, ne_eq] at h) <;> (try (exfalso; omega)))
      | (refine dgK_cases (fun h => ?_) (fun h => ?_) <;> (try simp only [h]) <;> (try simp only [athA, ne_eq] at h) <;> (try (exfalso; omega)))
      | (clear H f0 f1 f2 f3 f4 f5 f6 f7; (with_reducible intro v2 hs H); (try simp only [setA, overw, Nat.reduceAdd] at H); refine need ?_)
      | refine opC_K ?_
      | refine opC_D ?_
      | ((with_reducible show opC (unit (hstore _ _ _ _)) _); refine sl_store1 (by with_reducible first | exact H | exact H.p1 | exact H.p2 | exact H.p3 | exact H.p4 | exact H.p5 | exact H.p6 | exact H.p7) (Nat.le_of_ble_eq_true rfl) (by first | exact rfl | (simp only [f0, f1, f2, f3, f4, f5, f6, f7]; done) | (simp only [onA, *]; done)) (by first | exact rfl | (simp only [f0, f1, f2, f3, f4, f5, f6, f7]; done) | (simp only [onA, *]; done)) ?_)
      | ((with_reducible show opC (unit (hstore _ _ _ _)) _); refine sl_storeN (by with_reducible first | exact H | exact H.p1 | exact H.p2 | exact H.p3 | exact H.p4 | exact H.p5 | exact H.p6 | exact H.p7) rfl (Nat.le_of_ble_eq_true rfl) (by first | exact rfl | (simp only [f0, f1, f2, f3, f4, f5, f6, f7]; done) | (simp only [onA, *]; done)) ?_)
      | ((with_reducible show opC (happend _ _ _ _ _) _); refine sl_append (by with_reducible first | exact H | exact H.p1 | exact H.p2 | exact H.p3 | exact H.p4 | exact H.p5 | exact H.p6 | exact H.p7) (by first | assumption | with_reducible first | exact f0.2.1 | exact f1.2.1 | exact f2.2.1 | exact f3.2.1 | exact f4.2.1 | exact f5.2.1 | exact f6.2.1 | exact f7.2.1 | exact va_takeS) (by first | exact roomFor_of (by omega) | exact roomFor_wide (by omega)) (by omega) ?_)
      | ((with_reducible show opC (happend _ _ _ _ _) _); refine sl_append0X H (by first | assumption | with_reducible first | exact f0.2.1 | exact f1.2.1 | exact f2.2.1 | exact f3.2.1 | exact f4.2.1 | exact f5.2.1 | exact f6.2.1 | exact f7.2.1 | exact va_takeS) (by first | exact roomFor_of (by omega) | exact roomFor_wide (by omega)) (by omega) ?_)
      | ((with_reducible show opC (happend _ _ _ _ _) _); refine sl_appendX (by with_reducible first | exact H | exact H.p1 | exact H.p2 | exact H.p3 | exact H.p4 | exact H.p5 | exact H.p6 | exact H.p7) (by first | assumption | with_reducible first | exact f0.2.1 | exact f1.2.1 | exact f2.2.1 | exact f3.2.1 | exact f4.2.1 | exact f5.2.1 | exact f6.2.1 | exact f7.2.1 | exact va_takeS) (by first | exact roomFor_of (by omega) | exact roomFor_wide (by omega)) (by omega) ?_)
      | ((with_reducible show opC (hbuildSlice _ _ _ _ _) _); refine sl_bslice1 H rfl (by first | exact rfl | (simp only [f0, f1, f2, f3, f4, f5, f6, f7]; done) | (simp only [onA, *]; done)) (by first | exact rfl | (simp only [f0, f1, f2, f3, f4, f5, f6, f7]; done) | (simp only [onA, *]; done)) ?_)
      | ((with_reducible show opC (hbox _ _) _); refine sl_box1 H (by first | exact rfl | (simp only [f0, f1, f2, f3, f4, f5, f6, f7]; done) | (simp only [onA, *]; done)) (by first | exact rfl | (simp only [f0, f1, f2, f3, f4, f5, f6, f7]; done) | (simp only [onA, *]; done)) ?_)
      | ((with_reducible show opC (hbox _ _) _); refine sl_boxA H (by first | exact rfl | (simp only [f0, f1, f2, f3, f4, f5, f6, f7]; done) | (simp only [onA, *]; done)) ?_)
      | refine hwp_draw mixed rfl ?_
      | with_reducible intro hy

    obtain ⟨all, hall⟩ : ∃ all, all = A.flatMap AE.put := ⟨_, rfl⟩
    obtain ⟨W, hW⟩ : ∃ W, W = goods A := ⟨_, rfl⟩
    have hdec := dec_goods A
    rw [← hall, ← hW] at hdec
    rw [← hall] at hputs
    rw [← hall, ← hW] at H
    have hWl : W.length ≤ A.length := by rw [hW]; unfold goods; exact List.length_filter_le _ _
    have hWm : ∀ e ∈ W, e ∈ A ∧ e.ok = true := fun e he => goods_all (by rw [← hW]; exact he)
    clear hall hW
    refine HW.loopA mixed (fun t : Nat × Nat × Nat × List UInt8 => (.undef :: cv :: .undef :: .undef :: .undef :: .ptr p 0 :: w6 :: w7 :: .undef :: .undef :: .undef :: .undef :: .int .i64 (t.2.2.1 : Nat) :: .int .i64 (t.2.1 : Nat) :: .int .i64 (t.1 : Nat) :: .undef :: .undef :: .undef :: .undef :: .undef :: .undef :: .undef :: .undef :: .undef :: .undef :: .undef :: .undef :: .undef :: .undef :: .undef :: .undef :: .undef :: .undef :: .undef :: .undef :: .undef :: .undef :: .undef :: .undef :: .undef :: .undef :: .undef :: .undef :: .undef :: .undef :: .undef :: .undef :: .undef :: .undef :: .undef :: .undef :: .undef :: .undef :: .undef :: .undef :: .undef :: .undef :: .undef :: .undef :: .undef :: .undef :: .undef :: .undef :: .undef :: .undef :: .undef :: .undef :: .undef :: .undef :: .undef :: .undef :: .undef :: .undef :: .undef :: .undef :: .undef :: .undef :: .undef :: .undef :: .undef :: .undef :: .undef :: .undef :: .undef :: .undef :: .undef :: .undef :: .undef :: .undef :: .undef :: .undef :: .undef :: .undef :: .undef :: .undef :: .undef :: .undef :: .undef :: .undef :: .undef :: .undef :: .undef :: .undef :: .undef :: .undef :: .undef :: .undef :: .undef :: .undef :: .undef :: .undef :: .undef :: .undef :: .undef :: .undef :: .undef :: .undef :: .undef :: .undef :: .undef :: .undef :: .undef :: .undef :: .undef :: .undef :: .undef :: .undef :: .undef :: .undef :: .undef :: .undef :: .undef :: .undef :: .undef :: .undef :: .undef :: .undef :: .undef :: .undef :: .undef :: .undef :: .undef :: .undef :: .undef :: .undef :: .undef :: .undef :: .undef :: .undef :: []))
      (fun t => My 5 w7 W.length (W.flatMap AE.cells) :: My 1 w6 all.length (bcells all) :: ReadP p [] false t.2.2.2 :: l) (fun t => C.length + 1 - t.1)
      (fun t => t.1 ≤ C.length + 1 ∧ t.2.1 ≤ all.length ∧ t.2.2.1 ≤ W.length ∧ Dec (all.take t.2.1) ((W.take t.2.2.1).map AE.out) false t.2.2.2 ∧ (t.1 = C.length + 1 → t.2.1 = all.length)) (0, 0, 0, []) ⟨Nat.zero_le _, Nat.zero_le _, Nat.zero_le _, dec_nil, fun h => by simp only at h; omega⟩ (by (repeat first | exact Less.nil | refine Less.undef _ ?_ | refine Less.keep _ ?_)) H ?_
    clear H
    rintro ⟨i, at_, told, r⟩ hs ⟨hi, hat, htd, hD, hend⟩ H
    simp only at hi hat htd hD hend H
    by_cases hic : i ≤ C.length
    · obtain ⟨n, hn⟩ : ∃ n : Nat, n = (if i < C.length ∧ 0 ≤ C.getD i 0 ∧ C.getD i 0 < ((all.length - at_ : Nat) : Int) then (C.getD i 0).toNat else all.length - at_) := ⟨_, rfl⟩
      have hnl : n ≤ all.length - at_ := by rw [hn]; split <;> omega
      have hlast : i + 1 = C.length + 1 → at_ + n = all.length := fun h => by rw [hn, if_neg (by omega)]; omega
      have d0 : decide (((i : Nat) : Int) ≤ ((C.length : Nat) : Int)) = true := decide_eq_true (by omega)
      have va : hbin .sub none (.int .i64 (all.length : Nat)) (.int .i64 (at_ : Nat)) = some (.int .i64 ((all.length - at_ : Nat) : Int)) := vsubn ⟨hat, by omega⟩
      have va2 : hbin .add none (.int .i64 (at_ : Nat)) (.int .i64 (n : Nat)) = some (.int .i64 ((at_ + n : Nat) : Int)) := vaddn (by omega)
      have c1 : i < C.length → (C.map (HV.int .i64))[i]? = some (.int .i64 (C.getD i 0)) := fun h => by rw [List.getElem?_map, List.getD_eq_getElem?_getD, List.getElem?_eq_getElem h]; rfl
      obtain ⟨y, hy, hyr⟩ := my_cut (a := at_) (j := at_ + n) H.p1 (by omega) (by omega)
      have oy : y.one = true ∧ y.cells = [y] := ⟨(hyr _ _ H.p1).one, (hyr _ _ H.p1).cells⟩
      obtain ⟨oy1, oy2⟩ := oy
      have hbl : ((all.take (at_ + n)).drop at_).length = n := by rw [List.length_drop, List.length_take]; omega
      have fed := fun hs H => feed22 (hs := hs) (l := My 5 w7 W.length (W.flatMap AE.cells) :: My 1 w6 all.length (bcells all) :: l) (p := p) (L := []) (r := r) (b := (all.take (at_ + n)).drop at_) (bv := y) H (fun _ h => hyr _ _ h.p1) (by rw [hbl]; have := dec_bounds hD; simp only [List.length_nil, List.length_take] at this ⊢; omega)
      have hcase : (∃ q, hindexAddr 1 cv (.int .i64 (i : Nat)) = some q ∧ hload none hs q = some (.int .i64 (n : Nat)) ∧ HL.sOk hs 1 cv = true ∧ decide (((i : Nat) : Int) < ((C.length : Nat) : Int)) = true ∧ decide (0 ≤ ((n : Nat) : Int)) = true ∧ decide (((n : Nat) : Int) < ((all.length - at_ : Nat) : Int)) = true ∧ hbin .sub none (.int .i64 (all.length : Nat)) (.int .i64 (at_ : Nat)) = some (.int .i64 ((all.length - at_ : Nat) : Int))) ∨
          (∃ c0 q, hindexAddr 1 cv (.int .i64 (i : Nat)) = some q ∧ hload none hs q = some (.int .i64 c0) ∧ HL.sOk hs 1 cv = true ∧ decide (((i : Nat) : Int) < ((C.length : Nat) : Int)) = true ∧ decide (0 ≤ c0) = true ∧ decide (c0 < ((n : Nat) : Int)) = false ∧ hbin .sub none (.int .i64 (all.length : Nat)) (.int .i64 (at_ : Nat)) = some (.int .i64 ((n : Nat) : Int))) ∨
          (∃ c0 q, hindexAddr 1 cv (.int .i64 (i : Nat)) = some q ∧ hload none hs q = some (.int .i64 c0) ∧ HL.sOk hs 1 cv = true ∧ decide (((i : Nat) : Int) < ((C.length : Nat) : Int)) = true ∧ decide (0 ≤ c0) = false ∧ True ∧ hbin .sub none (.int .i64 (all.length : Nat)) (.int .i64 (at_ : Nat)) = some (.int .i64 ((n : Nat) : Int))) ∨
          (True ∧ True ∧ True ∧ decide (((i : Nat) : Int) < ((C.length : Nat) : Int)) = false ∧ True ∧ True ∧ hbin .sub none (.int .i64 (all.length : Nat)) (.int .i64 (at_ : Nat)) = some (.int .i64 ((n : Nat) : Int))) := by
        by_cases h1 : i < C.length
        · have ci := c1 h1
          obtain ⟨q, hq, _⟩ := (RC _ H.t.t.t).idx1 ci .i64
          have ld := (RC _ H.t.t.t).ld1 hq ci
          have so := (RC _ H.t.t.t).sOk
          have d1 : decide (((i : Nat) : Int) < ((C.length : Nat) : Int)) = true := decide_eq_true (by omega)
          obtain ⟨c0, hc0⟩ : ∃ c0, c0 = C.getD i 0 := ⟨_, rfl⟩
          rw [← hc0] at hn ci ld
          clear hc0 c1
          by_cases h2 : 0 ≤ c0
          · by_cases h3 : c0 < ((all.length - at_ : Nat) : Int)
            · rw [if_pos ⟨h1, h2, h3⟩] at hn
              obtain rfl : c0 = (n : Nat) := by omega
              exact .inl ⟨q, hq, ld, so, d1, decide_eq_true h2, decide_eq_true h3, va⟩
            · rw [if_neg (fun h => h3 h.2.2)] at hn
              rw [← hn] at va h3
              exact .inr (.inl ⟨c0, q, hq, ld, so, d1, decide_eq_true h2, decide_eq_false h3, va⟩)
          · rw [if_neg (fun h => h2 h.2.1)] at hn
            rw [← hn] at va
            exact .inr (.inr (.inl ⟨c0, q, hq, ld, so, d1, decide_eq_false h2, trivial, va⟩))
        · rw [if_neg (fun h => h1 h.1)] at hn
          rw [← hn] at va
          exact .inr (.inr (.inr ⟨trivial, trivial, trivial, decide_eq_false (by omega), trivial, trivial, va⟩))
      clear va hn c1
      rcases hcase with ⟨q, hq, ld, so, d1, d2, d3, va⟩ | ⟨c0, q, hq, ld, so, d1, d2, d3, va⟩ | ⟨c0, q, hq, ld, so, d1, d2, d3, va⟩ | ⟨hq, ld, so, d1, d2, d3, va⟩
      all_goals
        first | have f0 := Sat.pf (H) | have f0 := trivial
        first | have f1 := Sat.pf (H.t) | have f1 := trivial
        first | have f2 := Sat.pf (H.t.t) | have f2 := trivial
        first | have f3 := Sat.pf (H.t.t.t) | have f3 := trivial
        first | have f4 := Sat.pf (H.t.t.t.t) | have f4 := trivial
        first | have f5 := Sat.pf (H.t.t.t.t.t) | have f5 := trivial
        first | have f6 := Sat.pf (H.t.t.t.t.t.t) | have f6 := trivial
        first | have f7 := Sat.pf (H.t.t.t.t.t.t.t) | have f7 := trivial
        repeat' first
          | ((with_reducible show Need _); refine need_of ?_; (first | have f0 := Sat.pf (H) | have f0 := trivial); (first | have f1 := Sat.pf (H.t) | have f1 := trivial); (first | have f2 := Sat.pf (H.t.t) | have f2 := trivial); (first | have f3 := Sat.pf (H.t.t.t) | have f3 := trivial); (first | have f4 := Sat.pf (H.t.t.t.t) | have f4 := trivial); (first | have f5 := Sat.pf (H.t.t.t.t.t) | have f5 := trivial); (first | have f6 := Sat.pf (H.t.t.t.t.t.t) | have f6 := trivial); (first | have f7 := Sat.pf (H.t.t.t.t.t.t.t) | have f7 := trivial))
          | simp -implicitDefEqProofs (disch := first | omega | decide | exact rfl | assumption | exact Nat.le_of_ble_eq_true rfl | exact One.c | exact One.o) only [vsA, vsB, eq_self, if_true, if_false, implies_true, false_implies, evp, HX.ev, Nat.reduceAdd, HOp.looks, Nat.reduceEqDiff, overw, Nat.reduceBEq, one, cel, len, one2, cel2, len2, d0, d1, d2, d3, va, va2, ld, hq, so, hy, oy1, oy2, ub4, f0, f1, f2, f3, f4, f5, f6, f7]
          | (refine condK_cases (fun h => ?_) (fun h => ?_) <;> (try simp only [h]) <;> (try simp only [athA, ne_eq] at h) <;> (try (exfalso; omega)))
          | (refine guardK_cases (fun h => ?_) (fun h => ?_) <;> (try simp only [h]) <;> (try simp only [athA, ne_eq] at h) <;> (try (exfalso; omega)))
          | (refine dgK_cases (fun h => ?_) (fun h => ?_) <;> (try simp only [h]) <;> (try simp only [athA, ne_eq] at h) <;> (try (exfalso; omega)))
          | (clear H f0 f1 f2 f3 f4 f5 f6 f7; (with_reducible intro v2 hs H); (try simp only [setA, overw, Nat.reduceAdd] at H); refine need ?_)
          | ((with_reducible show actK _ (HAct.call (HX.cst (HV.func (Fn.func 22) _ _)) _) _ _ _ _ _); refine vcall_of ok22 rfl (fed _ H.p2) ?_;  clear H f0 f1 f2 f3 f4 f5 f6 f7; rintro v hs ⟨L, bad, r2, hD2, H⟩; refine need ?_)
          | ((with_reducible show drK _ _ _ _ _ _ _ _ _ (some ⟨_, HAct.call (HX.cst (HV.func (Fn.func 22) _ _)) _, none⟩)); refine vdr_call ok22 rfl (fed _ H.p2) ?_;  clear H f0 f1 f2 f3 f4 f5 f6 f7; rintro v hs ⟨L, bad, r2, hD2, H⟩; refine need ?_)
          | refine opC_K ?_
          | refine opC_D ?_
          | ((with_reducible show opC (unit (hstore _ _ _ _)) _); refine sl_store1 (by with_reducible first | exact H | exact H.p1 | exact H.p2 | exact H.p3 | exact H.p4 | exact H.p5 | exact H.p6 | exact H.p7) (Nat.le_of_ble_eq_true rfl) (by first | exact rfl | (simp only [f0, f1, f2, f3, f4, f5, f6, f7]; done) | (simp only [onA, *]; done)) (by first | exact rfl | (simp only [f0, f1, f2, f3, f4, f5, f6, f7]; done) | (simp only [onA, *]; done)) ?_)
          | ((with_reducible show opC (unit (hstore _ _ _ _)) _); refine sl_storeN (by with_reducible first | exact H | exact H.p1 | exact H.p2 | exact H.p3 | exact H.p4 | exact H.p5 | exact H.p6 | exact H.p7) rfl (Nat.le_of_ble_eq_true rfl) (by first | exact rfl | (simp only [f0, f1, f2, f3, f4, f5, f6, f7]; done) | (simp only [onA, *]; done)) ?_)
          | ((with_reducible show opC (happend _ _ _ _ _) _); refine sl_append (by with_reducible first | exact H | exact H.p1 | exact H.p2 | exact H.p3 | exact H.p4 | exact H.p5 | exact H.p6 | exact H.p7) (by first | assumption | with_reducible first | exact f0.2.1 | exact f1.2.1 | exact f2.2.1 | exact f3.2.1 | exact f4.2.1 | exact f5.2.1 | exact f6.2.1 | exact f7.2.1 | exact va_takeS) (by first | exact roomFor_of (by omega) | exact roomFor_wide (by omega)) (by omega) ?_)
          | ((with_reducible show opC (happend _ _ _ _ _) _); refine sl_append0X H (by first | assumption | with_reducible first | exact f0.2.1 | exact f1.2.1 | exact f2.2.1 | exact f3.2.1 | exact f4.2.1 | exact f5.2.1 | exact f6.2.1 | exact f7.2.1 | exact va_takeS) (by first | exact roomFor_of (by omega) | exact roomFor_wide (by omega)) (by omega) ?_)
          | ((with_reducible show opC (happend _ _ _ _ _) _); refine sl_appendX (by with_reducible first | exact H | exact H.p1 | exact H.p2 | exact H.p3 | exact H.p4 | exact H.p5 | exact H.p6 | exact H.p7) (by first | assumption | with_reducible first | exact f0.2.1 | exact f1.2.1 | exact f2.2.1 | exact f3.2.1 | exact f4.2.1 | exact f5.2.1 | exact f6.2.1 | exact f7.2.1 | exact va_takeS) (by first | exact roomFor_of (by omega) | exact roomFor_wide (by omega)) (by omega) ?_)
          | ((with_reducible show opC (hbuildSlice _ _ _ _ _) _); refine sl_bslice1 H rfl (by first | exact rfl | (simp only [f0, f1, f2, f3, f4, f5, f6, f7]; done) | (simp only [onA, *]; done)) (by first | exact rfl | (simp only [f0, f1, f2, f3, f4, f5, f6, f7]; done) | (simp only [onA, *]; done)) ?_)
          | ((with_reducible show opC (hbox _ _) _); refine sl_box1 H (by first | exact rfl | (simp only [f0, f1, f2, f3, f4, f5, f6, f7]; done) | (simp only [onA, *]; done)) (by first | exact rfl | (simp only [f0, f1, f2, f3, f4, f5, f6, f7]; done) | (simp only [onA, *]; done)) ?_)
          | ((with_reducible show opC (hbox _ _) _); refine sl_boxA H (by first | exact rfl | (simp only [f0, f1, f2, f3, f4, f5, f6, f7]; done) | (simp only [onA, *]; done)) ?_)
          | refine hwp_draw mixed rfl ?_
          | with_reducible intro hy

        rw [List.nil_append] at H
        have hD3 := hD.app rfl hD2
        rw [take_mid] at hD3
        obtain ⟨rfl, m, hm, _⟩ := hD3.pre (t := all.drop (at_ + n)) (by rw [List.take_append_drop]; exact hdec)
        obtain ⟨hLl, hLx, hLt⟩ := told_mid htd hm
        rw [← hLt] at hD3
        refine HW.loopA mixed (fun k : Nat => (.undef :: cv :: .undef :: .undef :: .undef :: .ptr p 0 :: w6 :: w7 :: .undef :: .undef :: .undef :: .undef :: .int .i64 ((told + k : Nat) : Int) :: .int .i64 ((at_ + n : Nat) : Int) :: .int .i64 (i : Nat) :: .undef :: .undef :: .undef :: .undef :: .undef :: .undef :: .undef :: .undef :: .undef :: .undef :: .undef :: .undef :: .undef :: .undef :: .undef :: .undef :: .undef :: .undef :: .undef :: .undef :: .undef :: .undef :: .undef :: .undef :: .undef :: .undef :: .undef :: .undef :: .undef :: .undef :: .undef :: .undef :: .undef :: .undef :: .undef :: .undef :: .undef :: .undef :: .undef :: .undef :: .undef :: .undef :: .undef :: .undef :: .undef :: .undef :: .undef :: .undef :: .undef :: .undef :: .undef :: .undef :: .undef :: .undef :: .undef :: .undef :: .undef :: .undef :: .undef :: .undef :: .undef :: .undef :: .undef :: .undef :: .undef :: .undef :: .undef :: .undef :: .undef :: .undef :: .undef :: .undef :: .undef :: .undef :: .undef :: .undef :: .undef :: .undef :: .undef :: .undef :: .undef :: .undef :: .undef :: .undef :: .undef :: .undef :: .undef :: .undef :: .undef :: .undef :: .undef :: .undef :: .undef :: .undef :: .undef :: .undef :: .undef :: .undef :: .undef :: .undef :: .undef :: .undef :: .undef :: .undef :: .undef :: .undef :: .undef :: .undef :: .undef :: .undef :: .undef :: .undef :: .undef :: .undef :: .undef :: .undef :: .undef :: .undef :: .undef :: .undef :: .undef :: .undef :: .undef :: .undef :: .undef :: .undef :: .undef :: .undef :: .undef :: .undef :: .undef :: .undef :: .undef :: .undef :: []))
          (fun k => ReadP p (L.drop k) false r2 :: My 5 w7 W.length (W.flatMap AE.cells) :: My 1 w6 all.length (bcells all) :: l) (fun k => L.length - k) (fun k => k ≤ L.length) 0 (Nat.zero_le _) (by (repeat first | exact Less.nil | refine Less.undef _ ?_ | refine Less.keep _ ?_)) H ?_
        clear H
        rintro k hs hk H
        obtain ⟨hb1, hb2⟩ := dec_bodies hD2
        have hb3 : ∀ e ∈ L.drop k, e.x.2.body.length < 140737488351232 := fun e he => hb1 e (List.mem_of_mem_drop he)
        have hb4 : (L.drop k).length < 1099511627776 := by rw [List.length_drop]; simp only [List.length_append] at hb2; have := dec_bounds hD; simp only [List.length_take] at this; omega
        by_cases hkl : k < L.length
        · obtain ⟨e, he⟩ : ∃ e, L[k]? = some e := ⟨_, List.getElem?_eq_getElem hkl⟩
          obtain ⟨w, hw, hwe⟩ := hLx k e he
          have hdr : L.drop k = e :: L.drop (k + 1) := by rw [List.drop_eq_getElem_cons hkl]; rw [List.getElem?_eq_getElem hkl] at he; rw [Option.some.inj he]
          obtain ⟨ev, ex⟩ := e
          simp only at hwe
          subst hwe
          rw [hdr] at H hb3 hb4
          obtain ⟨hwA, hwo⟩ := hWm w (List.mem_of_getElem? hw)
          obtain ⟨hp1, hp2⟩ := ok_pos hwo
          have hid : ((w.id.toNat : Nat) : Int) = w.id := Int.toNat_of_nonneg hp1
          have hnum : ((w.num.toNat : Nat) : Int) = w.num := Int.toNat_of_nonneg hp2
          obtain ⟨hh, oo, hix, _, _⟩ := (Sat.rd H.p1).idxF (s := 5) (fun _ => rfl) rfl hw .i64
          have hld := True.intro
          have o1 := True.intro
          have o2 := True.intro
          have dk : decide (((W.length : Nat) : Int) ≤ ((told + k : Nat) : Int)) = false := decide_eq_false (by have := lt_of_get hw; omega)
          have hwb := hB w hwA
          first | have f0 := Sat.pf (H) | have f0 := trivial
          first | have f1 := Sat.pf (H.t) | have f1 := trivial
          first | have f2 := Sat.pf (H.t.t) | have f2 := trivial
          first | have f3 := Sat.pf (H.t.t.t) | have f3 := trivial
          first | have f4 := Sat.pf (H.t.t.t.t) | have f4 := trivial
          first | have f5 := Sat.pf (H.t.t.t.t.t) | have f5 := trivial
          first | have f6 := Sat.pf (H.t.t.t.t.t.t) | have f6 := trivial
          first | have f7 := Sat.pf (H.t.t.t.t.t.t.t) | have f7 := trivial
          repeat' first
            | ((with_reducible show Need _); refine need_of ?_; (first | have f0 := Sat.pf (H) | have f0 := trivial); (first | have f1 := Sat.pf (H.t) | have f1 := trivial); (first | have f2 := Sat.pf (H.t.t) | have f2 := trivial); (first | have f3 := Sat.pf (H.t.t.t) | have f3 := trivial); (first | have f4 := Sat.pf (H.t.t.t.t) | have f4 := trivial); (first | have f5 := Sat.pf (H.t.t.t.t.t) | have f5 := trivial); (first | have f6 := Sat.pf (H.t.t.t.t.t.t) | have f6 := trivial); (first | have f7 := Sat.pf (H.t.t.t.t.t.t.t) | have f7 := trivial); (first | have hld := (Sat.rd (s := 5) (v := w7) (n := W.length) (xs := W.flatMap AE.cells) (by with_reducible first | exact H | exact H.p1 | exact H.p2 | exact H.p3 | exact H.p4 | exact H.p5 | exact H.p6 | exact H.p7)).ldF (s := 5) (fun _ => rfl) rfl hw hix; unfold AE.cells at hld | skip))
            | simp -implicitDefEqProofs (disch := first | omega | decide | exact rfl | assumption | exact Nat.le_of_ble_eq_true rfl | exact One.c | exact One.o) only [vsA, vsB, eq_self, if_true, if_false, implies_true, false_implies, evp, HX.ev, Nat.reduceAdd, HOp.looks, Nat.reduceEqDiff, overw, Nat.reduceBEq, one, cel, len, o1, o2, hix, hld, dk, hid, hnum, vadd1, va_loadA, va_ldA, ub4, f0, f1, f2, f3, f4, f5, f6, f7]
            | (refine condK_cases (fun h => ?_) (fun h => ?_) <;> (try simp only [h]) <;> (try simp only [athA, ne_eq] at h) <;> (try (exfalso; omega)))
            | (refine guardK_cases (fun h => ?_) (fun h => ?_) <;> (try simp only [h]) <;> (try simp only [athA, ne_eq] at h) <;> (try (exfalso; omega)))
            | (refine dgK_cases (fun h => ?_) (fun h => ?_) <;> (try simp only [h]) <;> (try simp only [athA, ne_eq] at h) <;> (try (exfalso; omega)))
            | (clear H f0 f1 f2 f3 f4 f5 f6 f7; (with_reducible intro v2 hs H); (try simp only [setA, overw, Nat.reduceAdd] at H); refine need ?_)
            | ((with_reducible show actK _ (HAct.call (HX.cst (HV.func (Fn.func 23) _ _)) _) _ _ _ _ _); refine vcall_of ok23 rfl (next23 (p := p) (L := ⟨ev, w.out⟩ :: L.drop (k + 1)) (bad := false) (r := r2) H hb3 hb4) ?_;  clear H f0 f1 f2 f3 f4 f5 f6 f7; rintro v hs ⟨w1, rfl, H⟩; have o1 := H.rd.one; have o2 := H.rd.cells; simp only [nextV, nextB, AE.out] at H o1 o2 ⊢; refine need ?_)
            | ((with_reducible show drK _ _ _ _ _ _ _ _ _ (some ⟨_, HAct.call (HX.cst (HV.func (Fn.func 23) _ _)) _, none⟩)); refine vdr_call ok23 rfl (next23 (p := p) (L := ⟨ev, w.out⟩ :: L.drop (k + 1)) (bad := false) (r := r2) H hb3 hb4) ?_;  clear H f0 f1 f2 f3 f4 f5 f6 f7; rintro v hs ⟨w1, rfl, H⟩; have o1 := H.rd.one; have o2 := H.rd.cells; simp only [nextV, nextB, AE.out] at H o1 o2 ⊢; refine need ?_)
            | ((with_reducible show actK _ (HAct.call (HX.cst (HV.func (Fn.func 24) _ _)) _) _ _ _ _ _); refine vcall_of ok24 rfl (sameReply24S H (fun _ h => Sat.rd h.p1) (fun _ h => RB _ (by with_reducible first | exact h.t | exact h.t.t | exact h.t.t.t | exact h.t.t.t.t | exact h.t.t.t.t.t | exact h.t.t.t.t.t.t | exact h.t.t.t.t.t.t.t | exact h.t.t.t.t.t.t.t.t | exact h.t.t.t.t.t.t.t.t.t) w hwA) (x := w.b) (y := w.b) (by omega) (by omega) w.k w.id w.num w.k w.id w.num w.t w.t) ?_;  clear H f0 f1 f2 f3 f4 f5 f6 f7; rintro v hs ⟨rfl, H⟩; refine need ?_)
            | ((with_reducible show drK _ _ _ _ _ _ _ _ _ (some ⟨_, HAct.call (HX.cst (HV.func (Fn.func 24) _ _)) _, none⟩)); refine vdr_call ok24 rfl (sameReply24S H (fun _ h => Sat.rd h.p1) (fun _ h => RB _ (by with_reducible first | exact h.t | exact h.t.t | exact h.t.t.t | exact h.t.t.t.t | exact h.t.t.t.t.t | exact h.t.t.t.t.t.t | exact h.t.t.t.t.t.t.t | exact h.t.t.t.t.t.t.t.t | exact h.t.t.t.t.t.t.t.t.t) w hwA) (x := w.b) (y := w.b) (by omega) (by omega) w.k w.id w.num w.k w.id w.num w.t w.t) ?_;  clear H f0 f1 f2 f3 f4 f5 f6 f7; rintro v hs ⟨rfl, H⟩; refine need ?_)
            | refine opC_K ?_
            | refine opC_D ?_
            | ((with_reducible show opC (unit (hstore _ _ _ _)) _); refine sl_store1 (by with_reducible first | exact H | exact H.p1 | exact H.p2 | exact H.p3 | exact H.p4 | exact H.p5 | exact H.p6 | exact H.p7) (Nat.le_of_ble_eq_true rfl) (by first | exact rfl | (simp only [f0, f1, f2, f3, f4, f5, f6, f7]; done) | (simp only [onA, *]; done)) (by first | exact rfl | (simp only [f0, f1, f2, f3, f4, f5, f6, f7]; done) | (simp only [onA, *]; done)) ?_)
            | ((with_reducible show opC (unit (hstore _ _ _ _)) _); refine sl_storeN (by with_reducible first | exact H | exact H.p1 | exact H.p2 | exact H.p3 | exact H.p4 | exact H.p5 | exact H.p6 | exact H.p7) rfl (Nat.le_of_ble_eq_true rfl) (by first | exact rfl | (simp only [f0, f1, f2, f3, f4, f5, f6, f7]; done) | (simp only [onA, *]; done)) ?_)
            | ((with_reducible show opC (happend _ _ _ _ _) _); refine sl_append (by with_reducible first | exact H | exact H.p1 | exact H.p2 | exact H.p3 | exact H.p4 | exact H.p5 | exact H.p6 | exact H.p7) (by first | assumption | with_reducible first | exact f0.2.1 | exact f1.2.1 | exact f2.2.1 | exact f3.2.1 | exact f4.2.1 | exact f5.2.1 | exact f6.2.1 | exact f7.2.1 | exact va_takeS) (by first | exact roomFor_of (by omega) | exact roomFor_wide (by omega)) (by omega) ?_)
            | ((with_reducible show opC (happend _ _ _ _ _) _); refine sl_append0X H (by first | assumption | with_reducible first | exact f0.2.1 | exact f1.2.1 | exact f2.2.1 | exact f3.2.1 | exact f4.2.1 | exact f5.2.1 | exact f6.2.1 | exact f7.2.1 | exact va_takeS) (by first | exact roomFor_of (by omega) | exact roomFor_wide (by omega)) (by omega) ?_)
            | ((with_reducible show opC (happend _ _ _ _ _) _); refine sl_appendX (by with_reducible first | exact H | exact H.p1 | exact H.p2 | exact H.p3 | exact H.p4 | exact H.p5 | exact H.p6 | exact H.p7) (by first | assumption | with_reducible first | exact f0.2.1 | exact f1.2.1 | exact f2.2.1 | exact f3.2.1 | exact f4.2.1 | exact f5.2.1 | exact f6.2.1 | exact f7.2.1 | exact va_takeS) (by first | exact roomFor_of (by omega) | exact roomFor_wide (by omega)) (by omega) ?_)
            | ((with_reducible show opC (hbuildSlice _ _ _ _ _) _); refine sl_bslice1 H rfl (by first | exact rfl | (simp only [f0, f1, f2, f3, f4, f5, f6, f7]; done) | (simp only [onA, *]; done)) (by first | exact rfl | (simp only [f0, f1, f2, f3, f4, f5, f6, f7]; done) | (simp only [onA, *]; done)) ?_)
            | ((with_reducible show opC (hbox _ _) _); refine sl_box1 H (by first | exact rfl | (simp only [f0, f1, f2, f3, f4, f5, f6, f7]; done) | (simp only [onA, *]; done)) (by first | exact rfl | (simp only [f0, f1, f2, f3, f4, f5, f6, f7]; done) | (simp only [onA, *]; done)) ?_)
            | ((with_reducible show opC (hbox _ _) _); refine sl_boxA H (by first | exact rfl | (simp only [f0, f1, f2, f3, f4, f5, f6, f7]; done) | (simp only [onA, *]; done)) ?_)
            | refine hwp_draw mixed rfl ?_
            | with_reducible intro hy

          · exact absurd (by assumption) (by simp)
          · exact ⟨k + 1, _, by omega, by omega, (by (repeat first | exact Less.nil | refine Less.undef _ ?_ | refine Less.keep _ ?_)), Weak.refl _, H.t.t⟩
        · obtain rfl : k = L.length := by omega
          rw [List.drop_length] at H hb3 hb4
          have o1 := True.intro
          have o2 := True.intro
          first | have f0 := Sat.pf (H) | have f0 := trivial
          first | have f1 := Sat.pf (H.t) | have f1 := trivial
          first | have f2 := Sat.pf (H.t.t) | have f2 := trivial
          first | have f3 := Sat.pf (H.t.t.t) | have f3 := trivial
          first | have f4 := Sat.pf (H.t.t.t.t) | have f4 := trivial
          first | have f5 := Sat.pf (H.t.t.t.t.t) | have f5 := trivial
          first | have f6 := Sat.pf (H.t.t.t.t.t.t) | have f6 := trivial
          first | have f7 := Sat.pf (H.t.t.t.t.t.t.t) | have f7 := trivial
          repeat' first
            | ((with_reducible show Need _); refine need_of ?_; (first | have f0 := Sat.pf (H) | have f0 := trivial); (first | have f1 := Sat.pf (H.t) | have f1 := trivial); (first | have f2 := Sat.pf (H.t.t) | have f2 := trivial); (first | have f3 := Sat.pf (H.t.t.t) | have f3 := trivial); (first | have f4 := Sat.pf (H.t.t.t.t) | have f4 := trivial); (first | have f5 := Sat.pf (H.t.t.t.t.t) | have f5 := trivial); (first | have f6 := Sat.pf (H.t.t.t.t.t.t) | have f6 := trivial); (first | have f7 := Sat.pf (H.t.t.t.t.t.t.t) | have f7 := trivial))
            | simp -implicitDefEqProofs (disch := first | omega | decide | exact rfl | assumption | exact Nat.le_of_ble_eq_true rfl | exact One.c | exact One.o) only [vsA, vsB, eq_self, if_true, if_false, implies_true, false_implies, evp, HX.ev, Nat.reduceAdd, HOp.looks, Nat.reduceEqDiff, overw, Nat.reduceBEq, one, cel, len, o1, o2, vadd1, va_loadA, va_ldA, ub4, f0, f1, f2, f3, f4, f5, f6, f7]
            | (refine condK_cases (fun h => ?_) (fun h => ?_) <;> (try simp only [h]) <;> (try simp only [athA, ne_eq] at h) <;> (try (exfalso; omega)))
            | (refine guardK_cases (fun h => ?_) (fun h => ?_) <;> (try simp only [h]) <;> (try simp only [athA, ne_eq] at h) <;> (try (exfalso; omega)))
            | (refine dgK_cases (fun h => ?_) (fun h => ?_) <;> (try simp only [h]) <;> (try simp only [athA, ne_eq] at h) <;> (try (exfalso; omega)))
            | (clear H f0 f1 f2 f3 f4 f5 f6 f7; (with_reducible intro v2 hs H); (try simp only [setA, overw, Nat.reduceAdd] at H); refine need ?_)
            | ((with_reducible show actK _ (HAct.call (HX.cst (HV.func (Fn.func 23) _ _)) _) _ _ _ _ _); refine vcall_of ok23 rfl (next23 (p := p) (L := []) (bad := false) (r := r2) H hb3 hb4) ?_;  clear H f0 f1 f2 f3 f4 f5 f6 f7; rintro v hs ⟨w1, rfl, H⟩; have o1 := H.rd.one; have o2 := H.rd.cells; simp only [nextV, nextB] at H o1 o2 ⊢; refine need ?_)
            | ((with_reducible show drK _ _ _ _ _ _ _ _ _ (some ⟨_, HAct.call (HX.cst (HV.func (Fn.func 23) _ _)) _, none⟩)); refine vdr_call ok23 rfl (next23 (p := p) (L := []) (bad := false) (r := r2) H hb3 hb4) ?_;  clear H f0 f1 f2 f3 f4 f5 f6 f7; rintro v hs ⟨w1, rfl, H⟩; have o1 := H.rd.one; have o2 := H.rd.cells; simp only [nextV, nextB] at H o1 o2 ⊢; refine need ?_)
            | refine opC_K ?_
            | refine opC_D ?_
            | ((with_reducible show opC (unit (hstore _ _ _ _)) _); refine sl_store1 (by with_reducible first | exact H | exact H.p1 | exact H.p2 | exact H.p3 | exact H.p4 | exact H.p5 | exact H.p6 | exact H.p7) (Nat.le_of_ble_eq_true rfl) (by first | exact rfl | (simp only [f0, f1, f2, f3, f4, f5, f6, f7]; done) | (simp only [onA, *]; done)) (by first | exact rfl | (simp only [f0, f1, f2, f3, f4, f5, f6, f7]; done) | (simp only [onA, *]; done)) ?_)
            | ((with_reducible show opC (unit (hstore _ _ _ _)) _); refine sl_storeN (by with_reducible first | exact H | exact H.p1 | exact H.p2 | exact H.p3 | exact H.p4 | exact H.p5 | exact H.p6 | exact H.p7) rfl (Nat.le_of_ble_eq_true rfl) (by first | exact rfl | (simp only [f0, f1, f2, f3, f4, f5, f6, f7]; done) | (simp only [onA, *]; done)) ?_)
            | ((with_reducible show opC (happend _ _ _ _ _) _); refine sl_append (by with_reducible first | exact H | exact H.p1 | exact H.p2 | exact H.p3 | exact H.p4 | exact H.p5 | exact H.p6 | exact H.p7) (by first | assumption | with_reducible first | exact f0.2.1 | exact f1.2.1 | exact f2.2.1 | exact f3.2.1 | exact f4.2.1 | exact f5.2.1 | exact f6.2.1 | exact f7.2.1 | exact va_takeS) (by first | exact roomFor_of (by omega) | exact roomFor_wide (by omega)) (by omega) ?_)
            | ((with_reducible show opC (happend _ _ _ _ _) _); refine sl_append0X H (by first | assumption | with_reducible first | exact f0.2.1 | exact f1.2.1 | exact f2.2.1 | exact f3.2.1 | exact f4.2.1 | exact f5.2.1 | exact f6.2.1 | exact f7.2.1 | exact va_takeS) (by first | exact roomFor_of (by omega) | exact roomFor_wide (by omega)) (by omega) ?_)
            | ((with_reducible show opC (happend _ _ _ _ _) _); refine sl_appendX (by with_reducible first | exact H | exact H.p1 | exact H.p2 | exact H.p3 | exact H.p4 | exact H.p5 | exact H.p6 | exact H.p7) (by first | assumption | with_reducible first | exact f0.2.1 | exact f1.2.1 | exact f2.2.1 | exact f3.2.1 | exact f4.2.1 | exact f5.2.1 | exact f6.2.1 | exact f7.2.1 | exact va_takeS) (by first | exact roomFor_of (by omega) | exact roomFor_wide (by omega)) (by omega) ?_)
            | ((with_reducible show opC (hbuildSlice _ _ _ _ _) _); refine sl_bslice1 H rfl (by first | exact rfl | (simp only [f0, f1, f2, f3, f4, f5, f6, f7]; done) | (simp only [onA, *]; done)) (by first | exact rfl | (simp only [f0, f1, f2, f3, f4, f5, f6, f7]; done) | (simp only [onA, *]; done)) ?_)
            | ((with_reducible show opC (hbox _ _) _); refine sl_box1 H (by first | exact rfl | (simp only [f0, f1, f2, f3, f4, f5, f6, f7]; done) | (simp only [onA, *]; done)) (by first | exact rfl | (simp only [f0, f1, f2, f3, f4, f5, f6, f7]; done) | (simp only [onA, *]; done)) ?_)
            | ((with_reducible show opC (hbox _ _) _); refine sl_boxA H (by first | exact rfl | (simp only [f0, f1, f2, f3, f4, f5, f6, f7]; done) | (simp only [onA, *]; done)) ?_)
            | refine hwp_draw mixed rfl ?_
            | with_reducible intro hy

          exact ⟨(i + 1, at_ + n, told + L.length, r2), _, by simp only; omega, ⟨by simp only; omega, by simp only; omega, hLl, hD3, hlast⟩, (by (repeat first | exact Less.nil | refine Less.undef _ ?_ | refine Less.keep _ ?_)), Weak.refl _, H.t.t.p2.p2⟩
    · obtain rfl : i = C.length + 1 := by omega
      have d0 : decide (((C.length + 1 : Nat) : Int) ≤ ((C.length : Nat) : Int)) = false := decide_eq_false (by omega)
      rw [hend rfl, List.take_length] at hD
      obtain ⟨e1, _, rfl⟩ := hD.det hdec
      have e2 := congrArg List.length e1
      simp only [List.length_map, List.length_take] at e2
      obtain rfl : told = W.length := by omega
      first | have f0 := Sat.pf (H) | have f0 := trivial
      first | have f1 := Sat.pf (H.t) | have f1 := trivial
      first | have f2 := Sat.pf (H.t.t) | have f2 := trivial
      first | have f3 := Sat.pf (H.t.t.t) | have f3 := trivial
      first | have f4 := Sat.pf (H.t.t.t.t) | have f4 := trivial
      first | have f5 := Sat.pf (H.t.t.t.t.t) | have f5 := trivial
      first | have f6 := Sat.pf (H.t.t.t.t.t.t) | have f6 := trivial
      first | have f7 := Sat.pf (H.t.t.t.t.t.t.t) | have f7 := trivial
      repeat' first
        | ((with_reducible show Need _); refine need_of ?_; (first | have f0 := Sat.pf (H) | have f0 := trivial); (first | have f1 := Sat.pf (H.t) | have f1 := trivial); (first | have f2 := Sat.pf (H.t.t) | have f2 := trivial); (first | have f3 := Sat.pf (H.t.t.t) | have f3 := trivial); (first | have f4 := Sat.pf (H.t.t.t.t) | have f4 := trivial); (first | have f5 := Sat.pf (H.t.t.t.t.t) | have f5 := trivial); (first | have f6 := Sat.pf (H.t.t.t.t.t.t) | have f6 := trivial); (first | have f7 := Sat.pf (H.t.t.t.t.t.t.t) | have f7 := trivial))
        | simp -implicitDefEqProofs (disch := first | omega | decide | exact rfl | assumption | exact Nat.le_of_ble_eq_true rfl | exact One.c | exact One.o) only [vsA, vsB, eq_self, if_true, if_false, implies_true, false_implies, evp, HX.ev, Nat.reduceAdd, HOp.looks, Nat.reduceEqDiff, overw, Nat.reduceBEq, one, cel, len, one2, cel2, len2, d0, ub4, f0, f1, f2, f3, f4, f5, f6, f7]
        | (refine condK_cases (fun h => ?_) (fun h => ?_) <;> (try simp only [h]) <;> (try simp only [athA, ne_eq] at h) <;> (try (exfalso; omega)))
        | (refine guardK_cases (fun h => ?_) (fun h => ?_) <;> (try simp only [h]) <;> (try simp only [athA, ne_eq] at h) <;> (try (exfalso; omega)))
        | (refine dgK_cases (fun h => ?_) (fun h => ?_) <;> (try simp only [h]) <;> (try simp only [athA, ne_eq] at h) <;> (try (exfalso; omega)))
        | (clear H f0 f1 f2 f3 f4 f5 f6 f7; (with_reducible intro v2 hs H); (try simp only [setA, overw, Nat.reduceAdd] at H); refine need ?_)
        | ((with_reducible show actK _ (HAct.call (HX.cst (HV.func (Fn.func 25) _ _)) _) _ _ _ _ _); refine vcall_of ok25 rfl (held25 (L := []) (r := []) H.p2 (by simp) (by simp)) ?_;  clear H f0 f1 f2 f3 f4 f5 f6 f7; rintro v9 hs ⟨hv9, H⟩; (simp only [List.length_nil, List.map_nil, List.sum_nil, Nat.add_zero] at hv9); subst hv9; refine need ?_)
        | ((with_reducible show drK _ _ _ _ _ _ _ _ _ (some ⟨_, HAct.call (HX.cst (HV.func (Fn.func 25) _ _)) _, none⟩)); refine vdr_call ok25 rfl (held25 (L := []) (r := []) H.p2 (by simp) (by simp)) ?_;  clear H f0 f1 f2 f3 f4 f5 f6 f7; rintro v9 hs ⟨hv9, H⟩; (simp only [List.length_nil, List.map_nil, List.sum_nil, Nat.add_zero] at hv9); subst hv9; refine need ?_)
        | refine opC_K ?_
        | refine opC_D ?_
        | ((with_reducible show opC (unit (hstore _ _ _ _)) _); refine sl_store1 (by with_reducible first | exact H | exact H.p1 | exact H.p2 | exact H.p3 | exact H.p4 | exact H.p5 | exact H.p6 | exact H.p7) (Nat.le_of_ble_eq_true rfl) (by first | exact rfl | (simp only [f0, f1, f2, f3, f4, f5, f6, f7]; done) | (simp only [onA, *]; done)) (by first | exact rfl | (simp only [f0, f1, f2, f3, f4, f5, f6, f7]; done) | (simp only [onA, *]; done)) ?_)
        | ((with_reducible show opC (unit (hstore _ _ _ _)) _); refine sl_storeN (by with_reducible first | exact H | exact H.p1 | exact H.p2 | exact H.p3 | exact H.p4 | exact H.p5 | exact H.p6 | exact H.p7) rfl (Nat.le_of_ble_eq_true rfl) (by first | exact rfl | (simp only [f0, f1, f2, f3, f4, f5, f6, f7]; done) | (simp only [onA, *]; done)) ?_)
        | ((with_reducible show opC (happend _ _ _ _ _) _); refine sl_append (by with_reducible first | exact H | exact H.p1 | exact H.p2 | exact H.p3 | exact H.p4 | exact H.p5 | exact H.p6 | exact H.p7) (by first | assumption | with_reducible first | exact f0.2.1 | exact f1.2.1 | exact f2.2.1 | exact f3.2.1 | exact f4.2.1 | exact f5.2.1 | exact f6.2.1 | exact f7.2.1 | exact va_takeS) (by first | exact roomFor_of (by omega) | exact roomFor_wide (by omega)) (by omega) ?_)
        | ((with_reducible show opC (happend _ _ _ _ _) _); refine sl_append0X H (by first | assumption | with_reducible first | exact f0.2.1 | exact f1.2.1 | exact f2.2.1 | exact f3.2.1 | exact f4.2.1 | exact f5.2.1 | exact f6.2.1 | exact f7.2.1 | exact va_takeS) (by first | exact roomFor_of (by omega) | exact roomFor_wide (by omega)) (by omega) ?_)
        | ((with_reducible show opC (happend _ _ _ _ _) _); refine sl_appendX (by with_reducible first | exact H | exact H.p1 | exact H.p2 | exact H.p3 | exact H.p4 | exact H.p5 | exact H.p6 | exact H.p7) (by first | assumption | with_reducible first | exact f0.2.1 | exact f1.2.1 | exact f2.2.1 | exact f3.2.1 | exact f4.2.1 | exact f5.2.1 | exact f6.2.1 | exact f7.2.1 | exact va_takeS) (by first | exact roomFor_of (by omega) | exact roomFor_wide (by omega)) (by omega) ?_)
        | ((with_reducible show opC (hbuildSlice _ _ _ _ _) _); refine sl_bslice1 H rfl (by first | exact rfl | (simp only [f0, f1, f2, f3, f4, f5, f6, f7]; done) | (simp only [onA, *]; done)) (by first | exact rfl | (simp only [f0, f1, f2, f3, f4, f5, f6, f7]; done) | (simp only [onA, *]; done)) ?_)
        | ((with_reducible show opC (hbox _ _) _); refine sl_box1 H (by first | exact rfl | (simp only [f0, f1, f2, f3, f4, f5, f6, f7]; done) | (simp only [onA, *]; done)) (by first | exact rfl | (simp only [f0, f1, f2, f3, f4, f5, f6, f7]; done) | (simp only [onA, *]; done)) ?_)
        | ((with_reducible show opC (hbox _ _) _); refine sl_boxA H (by first | exact rfl | (simp only [f0, f1, f2, f3, f4, f5, f6, f7]; done) | (simp only [onA, *]; done)) ?_)
        | refine hwp_draw mixed rfl ?_
        | with_reducible intro hy

      rfl
end A
end Go.Proofs.YthihchoccpnfeaaDoor
namespace Go.Proofs.YthihchoccpnfeaaDoor
open Go Go.HL Go.ChangeShapes Go.WideShapes Go.ChangeAt Go.ChangeMaps Go.RowKit Go.Shelf
namespace RB
open A W0
set_option maxRecDepth 100000
set_option linter.unusedSimpArgs false

/-- a reply as it was handed in. -/
def ofD (x : (Sh.st (.cons .int (.cons .int (.cons .int (.cons .str (.cons .bytes .nil)))))).D) : AE := ⟨x.2.2.2.2.1.1, x.1, x.2.1, x.2.2.1, x.2.2.2.1, x.2.2.2.2.1.2⟩
def argSh : Sh := (.cons (.sl (.st (.cons .int (.cons .int (.cons .int (.cons .str (.cons .bytes .nil))))))) (.cons (.sl .int) .nil))
theorem argTy : argSh.argB Tryd.prog [39, 40] = true := by kernel_rfl


abbrev RepS : Sh := Sh.st (.cons .int (.cons .int (.cons .int (.cons .str (.cons .bytes .nil)))))
theorem back_law0 {g : HS} {v cv : HV} {L : List RepS.D} {C : List Int} (G1 : Rd (hs1 ++ g) 5 v L.length (L.flatMap RepS.cells)) (G2 : ∀ y ∈ L, RepS.Good (hs1 ++ g) y) (G3 : Rd (hs1 ++ g) 1 cv C.length (C.flatMap fun n => [HV.int .i64 n]))
    (F1 : L.length * 40 ≤ 140737488351232) (F2 : ∀ y ∈ L, RepS.Fit y) (F3 : C.length * 8 ≤ 140737488351232) : HC Tryd.prog 4 [v, cv] (hs1 ++ g) fun r _ => r = .bool true := by
  have G1' : Rd (hs1 ++ g) 5 v (L.map ofD).length ((L.map ofD).flatMap AE.cells) := by
    rw [List.length_map, List.flatMap_map]
    exact G1
  rw [ints_cells] at G3
  have mem : ∀ e ∈ L.map ofD, ∃ x ∈ L, e = ofD x := fun e he => by
    obtain ⟨x, h1, h2⟩ := List.mem_map.1 he
    exact ⟨x, h1, h2.symm⟩
  refine back4 (A := L.map ofD) (C := C) (Sat.base_of (hs1 ++ g)) (fun hs h => G1'.base h) (fun hs h e he => ?_) (fun hs h => G3.base h) (fun hs h => ?_) ?_ ?_ ?_ ?_ ?_
  · obtain ⟨x, hx, rfl⟩ := mem e he
    exact Rd.base (G2 x hx).2.2.2.2.1 h
  · exact tab_base h
  · rw [List.length_map]; omega
  · intro e he
    obtain ⟨x, hx, rfl⟩ := mem e he
    have h : (ofD x).b.length ≤ 140737488351232 := (F2 x hx).2.2.2.2.1
    omega
  · intro e he
    obtain ⟨x, hx, rfl⟩ := mem e he
    exact (F2 x hx).2.2.2.1
  · intro e he
    obtain ⟨x, hx, rfl⟩ := mem e he
    exact ⟨(F2 x hx).2.1, (F2 x hx).2.2.1⟩
  · omega
theorem back_law {g : HS} {a : argSh.D} (G : argSh.Good (hs1 ++ g) a) (F : argSh.Fit a) : HC Tryd.prog 4 (argSh.tops a) (hs1 ++ g) fun r _ => r = .bool true :=
  back_law0 G.1.1 G.1.2 G.2.1.1 F.1.1 F.1.2 F.2.1.1
theorem door_met (os : Os) (args : Array Value) : laidMetH Tryd.prog Rows.answersBackRow.laid ((World.doorLaid Tryd.prog 4000 os).forCall (fun _ _ => 0) ⟨#[], args, []⟩).memory :=
  laidMetH_of_parts3 (fuel := 8) (laidMet_of_run' 8 (by kernel_rfl) (by kernel_rfl)) (by kernel_rfl) (by kernel_rfl)
theorem row_lifted (os : Os) (started : os.Started) (H : Type) (enc : TypeId × Value → H) :
    ReturnsInHanded {} Tryd.checked os 4 .any (fun w args => (Rows.answersBackSpec.pre enc Tryd.prog Tryd.f4 [] false w args ∧ laidMetH Tryd.prog Rows.answersBackRow.laid w) ∧ sizedMet enc Tryd.prog Tryd.f4 (OpenSpec.ofChange Rows.answersBackSpec) false w args)
      (Rows.answersBackSpec.post enc Tryd.prog Tryd.f4 false true false false) := by
  refine returnsInHanded_of_change_and (C := Tryd.checked) (X := fun w _ => laidMetH Tryd.prog Rows.answersBackRow.laid w) (fun _ _ _ hh h => h.of_heap hh) own started (by kernel_rfl) Tryd.func4
    (ChangeSpec.witness_shaped (enc := enc) (C := Tryd.checked) (os := os) (X := fun w _ => laidMetH Tryd.prog Rows.answersBackRow.laid w) false (World.doorLaid Tryd.prog 4000 os) #[.slice none 0 0, .slice none 0 0] 8 rfl
      (World.shaped_of_RefB (by kernel_rfl) (by kernel_rfl)) (by kernel_rfl) (by kernel_rfl) (by kernel_rfl) (door_met os _)) ?_
  intro M base args ds gs before hval0 hW _ hsz0 hL _
  have hval : ∀ (j : Nat) t v, Tryd.f4.params[j]? = some t → args[j]? = some v → Value.okWide Tryd.prog M .any base t v := hval0
  have hW' := hW
  obtain ⟨p, q, hA0, hV, rfl, hfz, hnd⟩ := hW
  have hA : DataW.TrodAll enc Tryd.prog M 0 (fun _ => true) true Tryd.f4.params.toList args.toList ds p := hA0
  rw [Tryd.params4] at hA hval
  obtain ⟨rfl, rfl⟩ := trodVars_none hV
  have hsz : (DataW.weightsEach Tryd.prog (Tryd.f4.params.toList ++ []) (ds ++ [])).all (· ≤ reachBytes) = true := hsz0
  rw [Tryd.params4, List.append_nil, List.append_nil] at hsz
  have hwt : ∀ n ∈ DataW.weightsEach Tryd.prog [39, 40] ds, n ≤ reachBytes := fun n hn => by
    have := List.all_eq_true.1 hsz n hn
    exact of_decide_eq_true this

  have E0 := emb_tab3 (g := 1) (by kernel_rfl) (pow_of_laidR hL)
  obtain ⟨β', hs', a, x1, ⟨g, x2⟩, x3, x4, x5, x6, x7⟩ := Sh.args argSh (ts := [39, 40]) argTy hA (fun j t v ht hv => hval j t v (by simpa using ht) (by simpa using hv)) E0 ro1 (by decide)
  have fit := Sh.fit_args argSh argTy x7 hwt
  subst x2
  obtain ⟨d0, r0, rfl, o0, d1, r1, rfl, o1, hnil⟩ := x7
  subst hnil
  obtain ⟨us, hus⟩ : ∃ us, us = args.toList := ⟨_, rfl⟩
  have hargs : args = us.toArray := by simp [hus]
  rw [← hus] at x5
  subst hargs
  refine (HC.below (us := us) x3 x5 x4 (back_law x6 fit)).mono fun e M' ⟨he, hb⟩ => ?_
  subst he
  exact ⟨_, rfl, law_post (s := Rows.answersBackSpec) (tb := 4) laidOut rfl Tryd.underlying4 (by kernel_rfl) (by kernel_rfl) hW' rfl hb⟩

theorem answersBack_holds : Rows.AnswersBackSaid :=
  OpenClaim.holds_of_wide 4 Tryd.f4 rfl rfl rfl rfl rfl rfl rfl ⟨rfl, rfl, rfl, rfl, rfl⟩ rfl rfl rfl rfl rfl (by kernel_rfl) Tryd.func4 (by kernel_rfl)
    (of_decide_eq_true (by kernel_rfl)) (by unfold Func.isWrapper; first | (rw [if_pos (by decide +kernel)]; kernel_rfl) | (rw [if_neg (by decide +kernel)]; exact ⟨rfl, rfl⟩))
    (fun os started H enc _ => row_lifted os started H enc)
theorem answersBack_plain (f : FuncId) (fn : Func) (hf : Tryd.pinned.checked.prog.funcNamed "stint/stintlaw08.AnswersBack" = some f) (hfn : Tryd.pinned.checked.prog.funcs[f]? = some fn) :
    false = Tryd.pinned.checked.prog.looks [] ∧ ∀ (j : Nat) t, fn.params[j]? = some t → Tryd.pinned.checked.prog.wantsStandIn t = false := by
  obtain rfl : f = 4 := Option.some.inj ((show Tryd.prog.funcNamed "stint/stintlaw08.AnswersBack" = some 4 by kernel_rfl).symm.trans hf) |>.symm
  obtain rfl : fn = Tryd.f4 := (Option.some.inj (Tryd.func4.symm.trans hfn)).symm
  refine ⟨by kernel_rfl, fun j t ht => ?_⟩
  rw [Tryd.params4] at ht
  have hm : t ∈ [39, 40] := by simpa using Array.mem_of_getElem? ht
  have hall : ([39, 40].all fun u => !Tryd.prog.wantsStandIn u) = true := by kernel_rfl
  exact (show Tryd.prog.wantsStandIn t = false by simpa using List.all_eq_true.1 hall t hm)
theorem answersBack_card : Rows.AnswersBackCardSaid :=
  Claim7.holds_tied_plain_at .later [] _ _ _ _ answersBack_holds (fun _ h => by cases h) (by kernel_rfl) (fun _ h => by cases h) answersBack_row_tie rfl ⟨rfl, rfl⟩ (by kernel_rfl) rfl answersBack_plain (by kernel_rfl)
#print axioms answersBack_card
end RB
end Go.Proofs.YthihchoccpnfeaaDoor
