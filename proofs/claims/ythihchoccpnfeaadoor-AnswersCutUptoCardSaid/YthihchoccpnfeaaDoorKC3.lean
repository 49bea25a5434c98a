/-
  Proved: the law AnswersCut (stintlaw08) returns true wherever what it reads is of bulk at most 1048576 (the second form's tied card).
  the document's examples, in any memory.
  AnswersBack: what the law comes to.
  AnswersCut: what the law comes to.
-/
import Derived.Test.YthihchoccpnfeaaDoorKC2
import Derived.Test.YthihchoccpnfeaaDoorKCHLRound
import Derived.Test.YthihchoccpnfeaaDoorProg
import Derived.KernelRfl
import Derived.Test.YthihchoccpnfeaaDoorKCHLShape
/- The functions, turned (written by program, each checked by the kernel). -/
namespace Go.Proofs.YthihchoccpnfeaaDoor
open Go Go.HL
namespace S
/-- stint/stintlaw08.shown -/
def h9 : HFn :=
  ⟨88, [(.tmp 0)],
    (.seq (.region [
      ⟨(some 0), (.op (.mv (.cst (.bool false)))), none⟩] [])
    (.seq (.region [
      ⟨(some 13), (.op (.bslice 1 2 [(.int .u8 0), (.int .u8 0)] [(0, 1, (.cst (.int .u8 97))), (1, 1, (.cst (.int .u8 98)))])), none⟩,
      ⟨(some 14), (.op (.build [(.int .i64 0), (.int .i64 0), (.int .i64 0), (.str []), .nilSlice] [(0, 1, (.cst (.int .i64 3))), (1, 1, (.cst (.int .i64 7))), (4, 1, (.tmp 13))])), none⟩,
      ⟨(some 15), (.call (.cst (.func (.func 12) [] [])) [(.tmp 14)]), none⟩,
      ⟨(some 12), (.op (.mv (.tmp 15))), none⟩,
      ⟨(some 16), (.op (.ext 0 (.tmp 12))), none⟩,
      ⟨(some 17), (.op (.ext 1 (.tmp 12))), none⟩,
      ⟨(some 1), (.op (.mv (.tmp 16))), none⟩,
      ⟨(some 2), (.op (.mv (.tmp 17))), none⟩] [])
    (.seq (.region [
      ⟨(some 19), (.op (.build [(.int .i64 0), (.int .i64 0), (.int .i64 0), (.str []), .nilSlice] [(0, 1, (.cst (.int .i64 14)))])), none⟩,
      ⟨(some 20), (.call (.cst (.func (.func 12) [] [])) [(.tmp 19)]), none⟩,
      ⟨(some 18), (.op (.mv (.tmp 20))), none⟩,
      ⟨(some 21), (.op (.ext 0 (.tmp 18))), none⟩,
      ⟨(some 22), (.op (.ext 1 (.tmp 18))), none⟩,
      ⟨(some 3), (.op (.mv (.tmp 21))), none⟩,
      ⟨(some 4), (.op (.mv (.tmp 22))), none⟩] [])
    (.seq (.region [
      ⟨(some 23), (.call (.cst (.func (.func 21) [] [])) []), none⟩,
      ⟨(some 5), (.op (.mv (.tmp 23))), none⟩] [])
    (.seq (.seq (.region [
      ⟨(some 24), (.op (.mv (.tmp 5))), none⟩,
      ⟨(some 25), (.op (.bin .eql (some .ptrN) (.tmp 24) (.cst .nilPtr))), none⟩,
      ⟨(some 26), (.op (.mv (.tmp 25))), none⟩,
      ⟨(some 27), (.op (.mv (.tmp 2))), (some (26, false))⟩,
      ⟨(some 28), (.op (.bin .neq (some .int) (.tmp 27) (.cst (.int .i64 0)))), (some (26, false))⟩,
      ⟨(some 29), (.op (.pick (.tmp 26) (.cst (.bool true)) (.tmp 28))), none⟩,
      ⟨(some 30), (.op (.mv (.tmp 29))), none⟩,
      ⟨(some 31), (.op (.mv (.tmp 4))), (some (30, false))⟩,
      ⟨(some 32), (.op (.bin .neq (some .int) (.tmp 31) (.cst (.int .i64 0)))), (some (30, false))⟩,
      ⟨(some 33), (.op (.pick (.tmp 30) (.cst (.bool true)) (.tmp 32))), none⟩] [])
    (.cond (.tmp 33)
      (.seq (.region [
        ⟨(some 0), (.op (.mv (.cst (.bool false)))), none⟩] [])
      .ret)
      .skip))
    (.seq (.region [
      ⟨(some 34), (.op (.mv (.tmp 5))), none⟩,
      ⟨(some 35), (.op (.bslice 1 14 [(.int .u8 0), (.int .u8 0), (.int .u8 0), (.int .u8 0), (.int .u8 0), (.int .u8 0), (.int .u8 0), (.int .u8 0), (.int .u8 0), (.int .u8 0), (.int .u8 0), (.int .u8 0), (.int .u8 0), (.int .u8 0)] [(0, 1, (.cst (.int .u8 75))), (1, 1, (.cst (.int .u8 73))), (2, 1, (.cst (.int .u8 67))), (3, 1, (.cst (.int .u8 75))), (4, 1, (.cst (.int .u8 69))), (5, 1, (.cst (.int .u8 68))), (6, 1, (.cst (.int .u8 32))), (7, 1, (.cst (.int .u8 49))), (8, 1, (.cst (.int .u8 50))), (9, 1, (.cst (.int .u8 13))), (10, 1, (.cst (.int .u8 10))), (11, 1, (.cst (.int .u8 75))), (12, 1, (.cst (.int .u8 73))), (13, 1, (.cst (.int .u8 88)))])), none⟩,
      ⟨(some 36), (.op (.mark (.tmp 35))), none⟩,
      ⟨(some 37), (.call (.cst (.func (.func 22) [] [])) [(.tmp 34), (.tmp 36)]), none⟩] [])
    (.seq (.region [
      ⟨(some 39), (.op (.mv (.tmp 5))), none⟩,
      ⟨(some 40), (.call (.cst (.func (.func 23) [] [])) [(.tmp 39)]), none⟩,
      ⟨(some 38), (.op (.mv (.tmp 40))), none⟩,
      ⟨(some 41), (.op (.ext 0 (.tmp 38))), none⟩,
      ⟨(some 42), (.op (.ext 1 (.tmp 38))), none⟩,
      ⟨(some 43), (.op (.ext 2 (.tmp 38))), none⟩,
      ⟨(some 6), (.op (.box (.cst (.agg [(.int .i64 0), (.int .i64 0), (.int .i64 0), (.str []), .nilSlice])))), none⟩,
      ⟨none, (.op (.store 5 (.tmp 6) (.tmp 41))), none⟩,
      ⟨(some 7), (.op (.mv (.tmp 42))), none⟩,
      ⟨(some 8), (.op (.mv (.tmp 43))), none⟩] [])
    (.seq (.region [
      ⟨(some 45), (.op (.mv (.tmp 5))), none⟩,
      ⟨(some 46), (.call (.cst (.func (.func 23) [] [])) [(.tmp 45)]), none⟩,
      ⟨(some 44), (.op (.mv (.tmp 46))), none⟩,
      ⟨(some 47), (.op (.ext 0 (.tmp 44))), none⟩,
      ⟨(some 48), (.op (.ext 1 (.tmp 44))), none⟩,
      ⟨(some 49), (.op (.ext 2 (.tmp 44))), none⟩,
      ⟨(some 9), (.op (.box (.cst (.agg [(.int .i64 0), (.int .i64 0), (.int .i64 0), (.str []), .nilSlice])))), none⟩,
      ⟨none, (.op (.store 5 (.tmp 9) (.tmp 47))), none⟩,
      ⟨(some 10), (.op (.mv (.tmp 48))), none⟩,
      ⟨(some 11), (.op (.mv (.tmp 49))), none⟩] [])
    (.seq (.region [
      ⟨(some 50), (.op (.mv (.tmp 1))), none⟩,
      ⟨(some 51), (.op (.b2s (.tmp 50))), none⟩,
      ⟨(some 52), (.op (.bin .eql (some .str) (.tmp 51) (.cst (.str [82, 69, 83, 69, 82, 86, 69, 68, 32, 55, 32, 50, 13, 10, 97, 98, 13, 10])))), none⟩,
      ⟨(some 53), (.op (.mv (.tmp 52))), none⟩,
      ⟨(some 54), (.op (.mv (.tmp 3))), (some (53, true))⟩,
      ⟨(some 55), (.op (.b2s (.tmp 54))), (some (53, true))⟩,
      ⟨(some 56), (.op (.bin .eql (some .str) (.tmp 55) (.cst (.str [75, 73, 67, 75, 69, 68, 13, 10])))), (some (53, true))⟩,
      ⟨(some 57), (.op (.pick (.tmp 53) (.tmp 56) (.cst (.bool false)))), none⟩,
      ⟨(some 58), (.op (.mv (.tmp 57))), none⟩,
      ⟨(some 59), (.op (.mv (.tmp 7))), (some (58, true))⟩,
      ⟨(some 60), (.op (.pick (.tmp 58) (.tmp 59) (.cst (.bool false)))), none⟩,
      ⟨(some 61), (.op (.mv (.tmp 60))), none⟩,
      ⟨(some 62), (.op (.mv (.tmp 8))), (some (61, true))⟩,
      ⟨(some 63), (.op (.bin .eql (some .int) (.tmp 62) (.cst (.int .i64 0)))), (some (61, true))⟩,
      ⟨(some 64), (.op (.pick (.tmp 61) (.tmp 63) (.cst (.bool false)))), none⟩,
      ⟨(some 65), (.op (.mv (.tmp 64))), none⟩,
      ⟨(some 66), (.op (.faddr 0 (.tmp 6))), (some (65, true))⟩,
      ⟨(some 67), (.op (.load none (.tmp 66))), (some (65, true))⟩,
      ⟨(some 68), (.op (.bin .eql (some .int) (.tmp 67) (.cst (.int .i64 13)))), (some (65, true))⟩,
      ⟨(some 69), (.op (.pick (.tmp 65) (.tmp 68) (.cst (.bool false)))), none⟩,
      ⟨(some 70), (.op (.mv (.tmp 69))), none⟩,
      ⟨(some 71), (.op (.faddr 2 (.tmp 6))), (some (70, true))⟩,
      ⟨(some 72), (.op (.load none (.tmp 71))), (some (70, true))⟩,
      ⟨(some 73), (.op (.bin .eql (some .int) (.tmp 72) (.cst (.int .i64 12)))), (some (70, true))⟩,
      ⟨(some 74), (.op (.pick (.tmp 70) (.tmp 73) (.cst (.bool false)))), none⟩,
      ⟨(some 75), (.op (.mv (.tmp 74))), none⟩,
      ⟨(some 76), (.op (.mv (.tmp 10))), (some (75, true))⟩,
      ⟨(some 77), (.op (.un .not (.tmp 76))), (some (75, true))⟩,
      ⟨(some 78), (.op (.pick (.tmp 75) (.tmp 77) (.cst (.bool false)))), none⟩,
      ⟨(some 79), (.op (.mv (.tmp 78))), none⟩,
      ⟨(some 80), (.op (.mv (.tmp 11))), (some (79, true))⟩,
      ⟨(some 81), (.op (.bin .eql (some .int) (.tmp 80) (.cst (.int .i64 82)))), (some (79, true))⟩,
      ⟨(some 82), (.op (.pick (.tmp 79) (.tmp 81) (.cst (.bool false)))), none⟩,
      ⟨(some 83), (.op (.mv (.tmp 82))), none⟩,
      ⟨(some 84), (.op (.mv (.tmp 5))), (some (83, true))⟩,
      ⟨(some 85), (.call (.cst (.func (.func 25) [] [])) [(.tmp 84)]), (some (83, true))⟩,
      ⟨(some 86), (.op (.bin .eql (some .int) (.tmp 85) (.cst (.int .i64 3)))), (some (83, true))⟩,
      ⟨(some 87), (.op (.pick (.tmp 83) (.tmp 86) (.cst (.bool false)))), none⟩,
      ⟨(some 0), (.op (.mv (.tmp 87))), none⟩] [])
    .ret)))))))))⟩
theorem c9 : cFn Tryd.prog [] Tryd.f9 = some h9 := by kernel_rfl
/-- stint/answers.Check -/
def h11 : HFn :=
  ⟨93, [(.tmp 2)],
    (.seq (.region [
      ⟨(some 1), (.op (.box (.tmp 0))), none⟩,
      ⟨(some 2), (.op (.mv (.cst (.int .i64 0)))), none⟩] [])
    (.seq (.seq (.region [
      ⟨(some 7), (.op (.faddr 0 (.tmp 1))), none⟩,
      ⟨(some 8), (.op (.load none (.tmp 7))), none⟩,
      ⟨(some 9), (.call (.cst (.func (.func 35) [] [])) [(.tmp 8)]), none⟩,
      ⟨(some 10), (.op (.bin .eql (some .str) (.tmp 9) (.cst (.str [])))), none⟩] [])
    (.cond (.tmp 10)
      (.seq (.region [
        ⟨(some 2), (.op (.mv (.cst (.int .i64 80)))), none⟩] [])
      .ret)
      .skip))
    (.seq (.draw [
      ⟨(some 11), (.op (.faddr 1 (.tmp 1))), none⟩,
      ⟨(some 12), (.op (.load none (.tmp 11))), none⟩,
      ⟨(some 13), (.op (.bin .eql (some .int) (.tmp 12) (.cst (.int .i64 0)))), none⟩,
      ⟨(some 14), (.op (.faddr 2 (.tmp 1))), none⟩,
      ⟨(some 15), (.op (.load none (.tmp 14))), none⟩,
      ⟨(some 16), (.op (.bin .eql (some .int) (.tmp 15) (.cst (.int .i64 0)))), none⟩,
      ⟨(some 17), (.op (.faddr 3 (.tmp 1))), none⟩,
      ⟨(some 18), (.op (.load none (.tmp 17))), none⟩,
      ⟨(some 19), (.op (.bin .eql (some .str) (.tmp 18) (.cst (.str [])))), none⟩,
      ⟨(some 20), (.op (.faddr 4 (.tmp 1))), none⟩,
      ⟨(some 21), (.op (.load none (.tmp 20))), none⟩,
      ⟨(some 22), (.op (.len .slice (.tmp 21))), none⟩,
      ⟨(some 23), (.op (.bin .eql (some .int) (.tmp 22) (.cst (.int .i64 0)))), none⟩,
      ⟨(some 3), (.op (.mv (.tmp 13))), none⟩,
      ⟨(some 4), (.op (.mv (.tmp 16))), none⟩,
      ⟨(some 5), (.op (.mv (.tmp 19))), none⟩,
      ⟨(some 6), (.op (.mv (.tmp 23))), none⟩] [0, 1, 2, 3, 4, 5, 6, 7, 8, 9, 10, 11, 12, 13, 14, 15, 16] [[], [], [], [], [], [], [], [], [], [], [], [], [], [], [], [], []] [])
    (.seq (.seq (.region [
      ⟨(some 24), (.op (.faddr 0 (.tmp 1))), none⟩,
      ⟨(some 25), (.op (.load none (.tmp 24))), none⟩] [])
    (.block 0
      (.seq (.seq (.region [
        ⟨(some 27), (.op (.bin .eql (some .int) (.tmp 25) (.cst (.int .i64 3)))), none⟩,
        ⟨(some 26), (.op (.mv (.tmp 27))), none⟩] [])
      (.cond (.tmp 26)
        .skip
        (.region [
          ⟨(some 28), (.op (.bin .eql (some .int) (.tmp 25) (.cst (.int .i64 12)))), none⟩,
          ⟨(some 26), (.op (.mv (.tmp 28))), none⟩] [])))
      (.cond (.tmp 26)
        (.draw [
          ⟨(some 29), (.op (.faddr 1 (.tmp 1))), none⟩,
          ⟨(some 30), (.op (.load none (.tmp 29))), none⟩,
          ⟨(some 31), (.op (.bin .geq none (.tmp 30) (.cst (.int .i64 1)))), none⟩,
          ⟨(some 32), (.op (.mv (.tmp 31))), none⟩,
          ⟨(some 33), (.op (.faddr 1 (.tmp 1))), (some (32, true))⟩,
          ⟨(some 34), (.op (.load none (.tmp 33))), (some (32, true))⟩,
          ⟨(some 35), (.op (.bin .leq none (.tmp 34) (.cst (.int .i64 1099511627776)))), (some (32, true))⟩,
          ⟨(some 36), (.op (.pick (.tmp 32) (.tmp 35) (.cst (.bool false)))), none⟩,
          ⟨(some 37), (.op (.faddr 4 (.tmp 1))), none⟩,
          ⟨(some 38), (.op (.load none (.tmp 37))), none⟩,
          ⟨(some 39), (.op (.len .slice (.tmp 38))), none⟩,
          ⟨(some 40), (.op (.faddr 0 (.tmp 1))), none⟩,
          ⟨(some 41), (.op (.load none (.tmp 40))), none⟩,
          ⟨(some 42), (.call (.cst (.func (.func 36) [] [])) [(.tmp 41)]), none⟩,
          ⟨(some 43), (.op (.bin .leq none (.tmp 39) (.tmp 42))), none⟩,
          ⟨(some 3), (.op (.mv (.tmp 36))), none⟩,
          ⟨(some 6), (.op (.mv (.tmp 43))), none⟩] [0, 1, 2, 3, 4, 5, 6, 7, 8, 9, 10, 11, 12, 13, 14, 15, 16] [[], [], [], [], [], [], [], [], [], [], [], [], [], [12, 1], [], [], []] [])
        (.seq (.region [
          ⟨(some 45), (.op (.bin .eql (some .int) (.tmp 25) (.cst (.int .i64 16)))), none⟩,
          ⟨(some 44), (.op (.mv (.tmp 45))), none⟩] [])
        (.cond (.tmp 44)
          (.draw [
            ⟨(some 46), (.op (.faddr 4 (.tmp 1))), none⟩,
            ⟨(some 47), (.op (.load none (.tmp 46))), none⟩,
            ⟨(some 48), (.op (.len .slice (.tmp 47))), none⟩,
            ⟨(some 49), (.op (.faddr 0 (.tmp 1))), none⟩,
            ⟨(some 50), (.op (.load none (.tmp 49))), none⟩,
            ⟨(some 51), (.call (.cst (.func (.func 36) [] [])) [(.tmp 50)]), none⟩,
            ⟨(some 52), (.op (.bin .leq none (.tmp 48) (.tmp 51))), none⟩,
            ⟨(some 6), (.op (.mv (.tmp 52))), none⟩] [0, 1, 2, 3, 4, 5, 6, 7] [[], [], [], [], [], [4], [], []] [])
          (.seq (.region [
            ⟨(some 54), (.op (.bin .eql (some .int) (.tmp 25) (.cst (.int .i64 1)))), none⟩,
            ⟨(some 53), (.op (.mv (.tmp 54))), none⟩] [])
          (.cond (.tmp 53)
            (.region [
              ⟨(some 55), (.op (.faddr 1 (.tmp 1))), none⟩,
              ⟨(some 56), (.op (.load none (.tmp 55))), none⟩,
              ⟨(some 57), (.op (.bin .geq none (.tmp 56) (.cst (.int .i64 1)))), none⟩,
              ⟨(some 58), (.op (.mv (.tmp 57))), none⟩,
              ⟨(some 59), (.op (.faddr 1 (.tmp 1))), (some (58, true))⟩,
              ⟨(some 60), (.op (.load none (.tmp 59))), (some (58, true))⟩,
              ⟨(some 61), (.op (.bin .leq none (.tmp 60) (.cst (.int .i64 1099511627776)))), (some (58, true))⟩,
              ⟨(some 62), (.op (.pick (.tmp 58) (.tmp 61) (.cst (.bool false)))), none⟩,
              ⟨(some 3), (.op (.mv (.tmp 62))), none⟩] [])
            (.seq (.region [
              ⟨(some 64), (.op (.bin .eql (some .int) (.tmp 25) (.cst (.int .i64 2)))), none⟩,
              ⟨(some 63), (.op (.mv (.tmp 64))), none⟩] [])
            (.cond (.tmp 63)
              (.region [
                ⟨(some 65), (.op (.faddr 3 (.tmp 1))), none⟩,
                ⟨(some 66), (.op (.load none (.tmp 65))), none⟩,
                ⟨(some 67), (.call (.cst (.func (.func 37) [] [])) [(.tmp 66)]), none⟩,
                ⟨(some 5), (.op (.mv (.tmp 67))), none⟩] [])
              (.seq (.seq (.region [
                ⟨(some 69), (.op (.bin .eql (some .int) (.tmp 25) (.cst (.int .i64 10)))), none⟩,
                ⟨(some 68), (.op (.mv (.tmp 69))), none⟩] [])
              (.cond (.tmp 68)
                .skip
                (.region [
                  ⟨(some 70), (.op (.bin .eql (some .int) (.tmp 25) (.cst (.int .i64 13)))), none⟩,
                  ⟨(some 68), (.op (.mv (.tmp 70))), none⟩] [])))
              (.cond (.tmp 68)
                (.region [
                  ⟨(some 71), (.op (.faddr 2 (.tmp 1))), none⟩,
                  ⟨(some 72), (.op (.load none (.tmp 71))), none⟩,
                  ⟨(some 73), (.op (.bin .geq none (.tmp 72) (.cst (.int .i64 0)))), none⟩,
                  ⟨(some 74), (.op (.mv (.tmp 73))), none⟩,
                  ⟨(some 75), (.op (.faddr 2 (.tmp 1))), (some (74, true))⟩,
                  ⟨(some 76), (.op (.load none (.tmp 75))), (some (74, true))⟩,
                  ⟨(some 77), (.op (.bin .leq none (.tmp 76) (.cst (.int .i64 4294967295)))), (some (74, true))⟩,
                  ⟨(some 78), (.op (.pick (.tmp 74) (.tmp 77) (.cst (.bool false)))), none⟩,
                  ⟨(some 4), (.op (.mv (.tmp 78))), none⟩] [])
                .skip))))))))))))
    (.seq (.seq (.region [
      ⟨(some 79), (.op (.mv (.tmp 3))), none⟩,
      ⟨(some 80), (.op (.un .not (.tmp 79))), none⟩,
      ⟨(some 81), (.op (.mv (.tmp 80))), none⟩,
      ⟨(some 82), (.op (.mv (.tmp 4))), (some (81, false))⟩,
      ⟨(some 83), (.op (.un .not (.tmp 82))), (some (81, false))⟩,
      ⟨(some 84), (.op (.pick (.tmp 81) (.cst (.bool true)) (.tmp 83))), none⟩,
      ⟨(some 85), (.op (.mv (.tmp 84))), none⟩,
      ⟨(some 86), (.op (.mv (.tmp 5))), (some (85, false))⟩,
      ⟨(some 87), (.op (.un .not (.tmp 86))), (some (85, false))⟩,
      ⟨(some 88), (.op (.pick (.tmp 85) (.cst (.bool true)) (.tmp 87))), none⟩,
      ⟨(some 89), (.op (.mv (.tmp 88))), none⟩,
      ⟨(some 90), (.op (.mv (.tmp 6))), (some (89, false))⟩,
      ⟨(some 91), (.op (.un .not (.tmp 90))), (some (89, false))⟩,
      ⟨(some 92), (.op (.pick (.tmp 89) (.cst (.bool true)) (.tmp 91))), none⟩] [])
    (.cond (.tmp 92)
      (.seq (.region [
        ⟨(some 2), (.op (.mv (.cst (.int .i64 81)))), none⟩] [])
      .ret)
      .skip))
    (.seq (.region [
      ⟨(some 2), (.op (.mv (.cst (.int .i64 0)))), none⟩] [])
    .ret))))))⟩
theorem c11 : cFn Tryd.prog [] Tryd.f11 = some h11 := by kernel_rfl
/-- stint/answers.Put -/
def h12 : HFn :=
  ⟨66, [(.tmp 2), (.tmp 3)],
    (.seq (.region [
      ⟨(some 1), (.op (.box (.tmp 0))), none⟩,
      ⟨(some 2), (.op (.mv (.cst .nilSlice))), none⟩,
      ⟨(some 3), (.op (.mv (.cst (.int .i64 0)))), none⟩] [])
    (.seq (.seq (.region [
      ⟨(some 6), (.op (.load (some 5) (.tmp 1))), none⟩,
      ⟨(some 7), (.call (.cst (.func (.func 11) [] [])) [(.tmp 6)]), none⟩,
      ⟨(some 4), (.op (.mv (.tmp 7))), none⟩] [])
    (.seq (.region [
      ⟨(some 8), (.op (.mv (.tmp 4))), none⟩,
      ⟨(some 9), (.op (.bin .neq (some .int) (.tmp 8) (.cst (.int .i64 0)))), none⟩] [])
    (.cond (.tmp 9)
      (.seq (.region [
        ⟨(some 10), (.op (.mv (.tmp 4))), none⟩,
        ⟨(some 2), (.op (.mv (.cst .nilSlice))), none⟩,
        ⟨(some 3), (.op (.mv (.tmp 10))), none⟩] [])
      .ret)
      .skip)))
    (.seq (.region [
      ⟨(some 11), (.op (.faddr 0 (.tmp 1))), none⟩,
      ⟨(some 12), (.op (.load none (.tmp 11))), none⟩,
      ⟨(some 13), (.call (.cst (.func (.func 35) [] [])) [(.tmp 12)]), none⟩,
      ⟨(some 14), (.op (.s2b (.tmp 13))), none⟩,
      ⟨(some 5), (.op (.mv (.tmp 14))), none⟩] [])
    (.seq (.seq (.region [
      ⟨(some 15), (.op (.faddr 0 (.tmp 1))), none⟩,
      ⟨(some 16), (.op (.load none (.tmp 15))), none⟩] [])
    (.block 0
      (.seq (.block 5
        (.seq (.block 4
          (.seq (.block 3
            (.seq (.block 2
              (.seq (.block 1
                (.seq (.seq (.seq (.seq (.region [
                  ⟨(some 18), (.op (.bin .eql (some .int) (.tmp 16) (.cst (.int .i64 3)))), none⟩,
                  ⟨(some 17), (.op (.mv (.tmp 18))), none⟩] [])
                (.cond (.tmp 17)
                  .skip
                  (.region [
                    ⟨(some 19), (.op (.bin .eql (some .int) (.tmp 16) (.cst (.int .i64 12)))), none⟩,
                    ⟨(some 17), (.op (.mv (.tmp 19))), none⟩] [])))
                (.cond (.tmp 17)
                  (.exit 1)
                  .skip))
                (.seq (.seq (.region [
                  ⟨(some 21), (.op (.bin .eql (some .int) (.tmp 16) (.cst (.int .i64 16)))), none⟩,
                  ⟨(some 20), (.op (.mv (.tmp 21))), none⟩] [])
                (.cond (.tmp 20)
                  (.exit 2)
                  .skip))
                (.seq (.seq (.region [
                  ⟨(some 23), (.op (.bin .eql (some .int) (.tmp 16) (.cst (.int .i64 1)))), none⟩,
                  ⟨(some 22), (.op (.mv (.tmp 23))), none⟩] [])
                (.cond (.tmp 22)
                  (.exit 3)
                  .skip))
                (.seq (.seq (.region [
                  ⟨(some 25), (.op (.bin .eql (some .int) (.tmp 16) (.cst (.int .i64 2)))), none⟩,
                  ⟨(some 24), (.op (.mv (.tmp 25))), none⟩] [])
                (.cond (.tmp 24)
                  (.exit 4)
                  .skip))
                (.seq (.seq (.region [
                  ⟨(some 27), (.op (.bin .eql (some .int) (.tmp 16) (.cst (.int .i64 10)))), none⟩,
                  ⟨(some 26), (.op (.mv (.tmp 27))), none⟩] [])
                (.cond (.tmp 26)
                  .skip
                  (.region [
                    ⟨(some 28), (.op (.bin .eql (some .int) (.tmp 16) (.cst (.int .i64 13)))), none⟩,
                    ⟨(some 26), (.op (.mv (.tmp 28))), none⟩] [])))
                (.cond (.tmp 26)
                  (.exit 5)
                  .skip))))))
                (.exit 0)))
              (.region [
                ⟨(some 29), (.op (.mv (.tmp 5))), none⟩,
                ⟨(some 30), (.op (.faddr 1 (.tmp 1))), none⟩,
                ⟨(some 31), (.op (.load none (.tmp 30))), none⟩,
                ⟨(some 32), (.call (.cst (.func (.func 38) [] [])) [(.tmp 31)]), none⟩,
                ⟨(some 33), (.op (.bin .add none (.cst (.str [32])) (.tmp 32))), none⟩,
                ⟨(some 34), (.op (.append 1 1 (.tmp 29) (.tmp 33))), none⟩,
                ⟨(some 5), (.op (.mv (.tmp 34))), none⟩] [])))
            (.seq (.seq (.region [
              ⟨(some 35), (.op (.mv (.tmp 5))), none⟩,
              ⟨(some 36), (.op (.faddr 4 (.tmp 1))), none⟩,
              ⟨(some 37), (.op (.load none (.tmp 36))), none⟩,
              ⟨(some 38), (.op (.len .slice (.tmp 37))), none⟩,
              ⟨(some 39), (.call (.cst (.func (.func 38) [] [])) [(.tmp 38)]), none⟩,
              ⟨(some 40), (.op (.bin .add none (.cst (.str [32])) (.tmp 39))), none⟩,
              ⟨(some 41), (.op (.bin .add none (.tmp 40) (.cst (.str [13, 10])))), none⟩,
              ⟨(some 42), (.op (.append 1 1 (.tmp 35) (.tmp 41))), none⟩,
              ⟨(some 5), (.op (.mv (.tmp 42))), none⟩] [])
            (.region [
              ⟨(some 43), (.op (.mv (.tmp 5))), none⟩,
              ⟨(some 44), (.op (.faddr 4 (.tmp 1))), none⟩,
              ⟨(some 45), (.op (.load none (.tmp 44))), none⟩,
              ⟨(some 46), (.op (.append 1 1 (.tmp 43) (.tmp 45))), none⟩,
              ⟨(some 5), (.op (.mv (.tmp 46))), none⟩] []))
            (.exit 0))))
          (.seq (.region [
            ⟨(some 47), (.op (.mv (.tmp 5))), none⟩,
            ⟨(some 48), (.op (.faddr 1 (.tmp 1))), none⟩,
            ⟨(some 49), (.op (.load none (.tmp 48))), none⟩,
            ⟨(some 50), (.call (.cst (.func (.func 38) [] [])) [(.tmp 49)]), none⟩,
            ⟨(some 51), (.op (.bin .add none (.cst (.str [32])) (.tmp 50))), none⟩,
            ⟨(some 52), (.op (.append 1 1 (.tmp 47) (.tmp 51))), none⟩,
            ⟨(some 5), (.op (.mv (.tmp 52))), none⟩] [])
          (.exit 0))))
        (.seq (.region [
          ⟨(some 53), (.op (.mv (.tmp 5))), none⟩,
          ⟨(some 54), (.op (.faddr 3 (.tmp 1))), none⟩,
          ⟨(some 55), (.op (.load none (.tmp 54))), none⟩,
          ⟨(some 56), (.op (.bin .add none (.cst (.str [32])) (.tmp 55))), none⟩,
          ⟨(some 57), (.op (.append 1 1 (.tmp 53) (.tmp 56))), none⟩,
          ⟨(some 5), (.op (.mv (.tmp 57))), none⟩] [])
        (.exit 0))))
      (.seq (.region [
        ⟨(some 58), (.op (.mv (.tmp 5))), none⟩,
        ⟨(some 59), (.op (.faddr 2 (.tmp 1))), none⟩,
        ⟨(some 60), (.op (.load none (.tmp 59))), none⟩,
        ⟨(some 61), (.call (.cst (.func (.func 38) [] [])) [(.tmp 60)]), none⟩,
        ⟨(some 62), (.op (.bin .add none (.cst (.str [32])) (.tmp 61))), none⟩,
        ⟨(some 63), (.op (.append 1 1 (.tmp 58) (.tmp 62))), none⟩,
        ⟨(some 5), (.op (.mv (.tmp 63))), none⟩] [])
      (.exit 0)))))
    (.seq (.region [
      ⟨(some 64), (.op (.mv (.tmp 5))), none⟩,
      ⟨(some 65), (.op (.append 1 1 (.tmp 64) (.cst (.str [13, 10])))), none⟩,
      ⟨(some 2), (.op (.mv (.tmp 65))), none⟩,
      ⟨(some 3), (.op (.mv (.cst (.int .i64 0)))), none⟩] [])
    .ret)))))⟩
theorem c12 : cFn Tryd.prog [] Tryd.f12 = some h12 := by kernel_rfl
/-- stint/answers.New -/
def h21 : HFn :=
  ⟨3, [(.tmp 0)],
    (.seq (.region [
      ⟨(some 0), (.op (.mv (.cst .nilPtr))), none⟩] [])
    (.seq (.region [
      ⟨(some 1), (.op (.build [.nilSlice, .nilSlice, (.bool false)] [])), none⟩,
      ⟨(some 2), (.op (.box (.tmp 1))), none⟩,
      ⟨(some 0), (.op (.mv (.tmp 2))), none⟩] [])
    .ret))⟩
theorem c21 : cFn Tryd.prog [] Tryd.f21 = some h21 := by kernel_rfl
/-- (*stint/answers.Reader).Feed -/
def h22 : HFn :=
  ⟨85, [],
    (.seq (.seq (.region [
      ⟨(some 8), (.op (.mv (.tmp 0))), none⟩,
      ⟨(some 9), (.op (.nilc (.tmp 8))), none⟩,
      ⟨(some 10), (.op (.faddr 2 (.tmp 9))), none⟩,
      ⟨(some 11), (.op (.load none (.tmp 10))), none⟩] [])
    (.cond (.tmp 11)
      .ret
      .skip))
    (.seq (.region [
      ⟨(some 12), (.op (.mv (.tmp 0))), none⟩,
      ⟨(some 13), (.op (.mv (.tmp 0))), none⟩,
      ⟨(some 14), (.op (.nilc (.tmp 13))), none⟩,
      ⟨(some 15), (.op (.faddr 1 (.tmp 14))), none⟩,
      ⟨(some 16), (.op (.load none (.tmp 15))), none⟩,
      ⟨(some 17), (.op (.mv (.tmp 1))), none⟩,
      ⟨(some 18), (.op (.append 1 1 (.tmp 16) (.tmp 17))), none⟩,
      ⟨(some 19), (.op (.nilc (.tmp 12))), none⟩,
      ⟨(some 20), (.op (.faddr 1 (.tmp 19))), none⟩,
      ⟨none, (.op (.store 1 (.tmp 20) (.tmp 18))), none⟩] [])
    (.seq (.region [
      ⟨(some 4), (.op (.mv (.cst (.int .i64 0)))), none⟩] [])
    (.seq (.block 0
      (.loop
        (.block 1
          (.seq (.region [
            ⟨(some 22), (.op (.mv (.tmp 0))), none⟩,
            ⟨(some 23), (.op (.nilc (.tmp 22))), none⟩,
            ⟨(some 24), (.op (.faddr 1 (.tmp 23))), none⟩,
            ⟨(some 25), (.op (.load none (.tmp 24))), none⟩,
            ⟨(some 26), (.op (.mv (.tmp 4))), none⟩,
            ⟨(some 27), (.op (.sliceSl 1 (.tmp 25) (some (.tmp 26)) none none)), none⟩,
            ⟨(some 28), (.call (.cst (.func (.func 46) [] [])) [(.tmp 27)]), none⟩,
            ⟨(some 21), (.op (.mv (.tmp 28))), none⟩,
            ⟨(some 29), (.op (.ext 0 (.tmp 21))), none⟩,
            ⟨(some 30), (.op (.ext 1 (.tmp 21))), none⟩,
            ⟨(some 31), (.op (.ext 2 (.tmp 21))), none⟩,
            ⟨(some 5), (.op (.box (.cst (.agg [(.int .i64 0), (.int .i64 0), (.int .i64 0), (.str []), .nilSlice])))), none⟩,
            ⟨none, (.op (.store 5 (.tmp 5) (.tmp 29))), none⟩,
            ⟨(some 6), (.op (.mv (.tmp 30))), none⟩,
            ⟨(some 7), (.op (.mv (.tmp 31))), none⟩] [])
          (.seq (.seq (.region [
            ⟨(some 32), (.op (.mv (.tmp 7))), none⟩,
            ⟨(some 33), (.op (.un .not (.tmp 32))), none⟩] [])
          (.cond (.tmp 33)
            (.seq (.seq (.region [
              ⟨(some 34), (.op (.mv (.tmp 4))), none⟩,
              ⟨(some 35), (.op (.mv (.tmp 6))), none⟩,
              ⟨(some 36), (.op (.bin .add none (.tmp 34) (.tmp 35))), none⟩,
              ⟨(some 37), (.op (.mv (.tmp 0))), none⟩,
              ⟨(some 38), (.op (.nilc (.tmp 37))), none⟩,
              ⟨(some 39), (.op (.faddr 1 (.tmp 38))), none⟩,
              ⟨(some 40), (.op (.load none (.tmp 39))), none⟩,
              ⟨(some 41), (.op (.len .slice (.tmp 40))), none⟩,
              ⟨(some 42), (.op (.bin .lss none (.tmp 36) (.tmp 41))), none⟩] [])
            (.cond (.tmp 42)
              (.region [
                ⟨(some 43), (.op (.mv (.tmp 0))), none⟩,
                ⟨(some 44), (.op (.mv (.tmp 0))), none⟩,
                ⟨(some 45), (.op (.mv (.tmp 0))), none⟩,
                ⟨(some 46), (.op (.nilc (.tmp 45))), none⟩,
                ⟨(some 47), (.op (.faddr 1 (.tmp 46))), none⟩,
                ⟨(some 48), (.op (.load none (.tmp 47))), none⟩,
                ⟨(some 49), (.op (.mv (.tmp 4))), none⟩,
                ⟨(some 50), (.op (.mv (.tmp 6))), none⟩,
                ⟨(some 51), (.op (.bin .add none (.tmp 49) (.tmp 50))), none⟩,
                ⟨(some 52), (.op (.bin .add none (.tmp 51) (.cst (.int .i64 1)))), none⟩,
                ⟨(some 53), (.op (.sliceSl 1 (.tmp 48) none (some (.tmp 52)) none)), none⟩,
                ⟨(some 54), (.op (.nilc (.tmp 43))), none⟩,
                ⟨(some 55), (.op (.faddr 1 (.tmp 54))), none⟩,
                ⟨none, (.op (.store 1 (.tmp 55) (.tmp 53))), none⟩,
                ⟨(some 56), (.op (.nilc (.tmp 44))), none⟩,
                ⟨(some 57), (.op (.faddr 2 (.tmp 56))), none⟩,
                ⟨none, (.op (.store 1 (.tmp 57) (.cst (.bool true)))), none⟩] [])
              .skip))
            (.exit 0))
            .skip))
          (.seq (.draw [
            ⟨(some 58), (.op (.mv (.tmp 0))), none⟩,
            ⟨(some 59), (.op (.mv (.tmp 0))), none⟩,
            ⟨(some 60), (.op (.nilc (.tmp 59))), none⟩,
            ⟨(some 61), (.op (.faddr 0 (.tmp 60))), none⟩,
            ⟨(some 62), (.op (.load none (.tmp 61))), none⟩,
            ⟨(some 63), (.op (.load (some 5) (.tmp 5))), none⟩,
            ⟨(some 64), (.op (.mv (.tmp 6))), none⟩,
            ⟨(some 65), (.op (.build [(.int .i64 0), (.int .i64 0), (.int .i64 0), (.str []), .nilSlice, (.int .i64 0)] [(0, 5, (.tmp 63)), (5, 1, (.tmp 64))])), none⟩,
            ⟨(some 66), (.op (.bslice 6 1 [(.int .i64 0), (.int .i64 0), (.int .i64 0), (.str []), .nilSlice, (.int .i64 0)] [(0, 6, (.tmp 65))])), none⟩,
            ⟨(some 67), (.op (.append 6 72 (.tmp 62) (.tmp 66))), none⟩,
            ⟨(some 68), (.op (.nilc (.tmp 58))), none⟩,
            ⟨(some 69), (.op (.faddr 0 (.tmp 68))), none⟩,
            ⟨none, (.op (.store 1 (.tmp 69) (.tmp 67))), none⟩] [0, 1, 2, 3, 4, 5, 6, 7, 8, 9, 10, 11, 12] [[], [], [], [], [], [], [], [], [5], [4, 5], [], [], [4, 5]] [])
          (.region [
            ⟨(some 70), (.op (.mv (.tmp 4))), none⟩,
            ⟨(some 71), (.op (.mv (.tmp 6))), none⟩,
            ⟨(some 72), (.op (.bin .add none (.tmp 70) (.tmp 71))), none⟩,
            ⟨(some 4), (.op (.mv (.tmp 72))), none⟩] [])))))))
    (.seq (.region [
      ⟨(some 73), (.op (.mv (.tmp 4))), none⟩,
      ⟨(some 74), (.op (.bin .gtr none (.tmp 73) (.cst (.int .i64 0)))), none⟩] [])
    (.cond (.tmp 74)
      (.region [
        ⟨(some 75), (.op (.mv (.tmp 0))), none⟩,
        ⟨(some 76), (.op (.mv (.tmp 0))), none⟩,
        ⟨(some 77), (.op (.nilc (.tmp 76))), none⟩,
        ⟨(some 78), (.op (.faddr 1 (.tmp 77))), none⟩,
        ⟨(some 79), (.op (.load none (.tmp 78))), none⟩,
        ⟨(some 80), (.op (.mv (.tmp 4))), none⟩,
        ⟨(some 81), (.op (.sliceSl 1 (.tmp 79) (some (.tmp 80)) none none)), none⟩,
        ⟨(some 82), (.call (.cst (.func (.func 47) [] [])) [(.tmp 81)]), none⟩,
        ⟨(some 83), (.op (.nilc (.tmp 75))), none⟩,
        ⟨(some 84), (.op (.faddr 1 (.tmp 83))), none⟩,
        ⟨none, (.op (.store 1 (.tmp 84) (.tmp 82))), none⟩] [])
      .skip))))))⟩
theorem c22 : cFn Tryd.prog [] Tryd.f22 = some h22 := by kernel_rfl
/-- (*stint/answers.Reader).Next -/
def h23 : HFn :=
  ⟨40, [(.cell 2 (some 5)), (.tmp 3), (.tmp 4)],
    (.seq (.region [
      ⟨(some 2), (.op (.box (.cst (.agg [(.int .i64 0), (.int .i64 0), (.int .i64 0), (.str []), .nilSlice])))), none⟩,
      ⟨(some 3), (.op (.mv (.cst (.bool false)))), none⟩,
      ⟨(some 4), (.op (.mv (.cst (.int .i64 0)))), none⟩] [])
    (.seq (.block 0
      (.seq (.region [
        ⟨(some 7), (.op (.mv (.tmp 0))), none⟩,
        ⟨(some 8), (.op (.nilc (.tmp 7))), none⟩,
        ⟨(some 9), (.op (.faddr 0 (.tmp 8))), none⟩,
        ⟨(some 10), (.op (.load none (.tmp 9))), none⟩,
        ⟨(some 11), (.op (.len .slice (.tmp 10))), none⟩,
        ⟨(some 12), (.op (.bin .gtr none (.tmp 11) (.cst (.int .i64 0)))), none⟩,
        ⟨(some 6), (.op (.mv (.tmp 12))), none⟩] [])
      (.cond (.tmp 6)
        (.seq (.region [
          ⟨(some 13), (.op (.mv (.tmp 0))), none⟩,
          ⟨(some 14), (.op (.nilc (.tmp 13))), none⟩,
          ⟨(some 15), (.op (.faddr 0 (.tmp 14))), none⟩,
          ⟨(some 16), (.op (.load none (.tmp 15))), none⟩,
          ⟨(some 17), (.op (.idxS 6 (.tmp 16) (.cst (.int .i64 0)))), none⟩,
          ⟨(some 18), (.op (.faddr 0 (.tmp 17))), none⟩,
          ⟨(some 19), (.op (.load (some 5) (.tmp 18))), none⟩,
          ⟨(some 5), (.op (.box (.cst (.agg [(.int .i64 0), (.int .i64 0), (.int .i64 0), (.str []), .nilSlice])))), none⟩,
          ⟨none, (.op (.store 5 (.tmp 5) (.tmp 19))), none⟩] [])
        (.seq (.region [
          ⟨(some 20), (.op (.mv (.tmp 0))), none⟩,
          ⟨(some 21), (.op (.mv (.tmp 0))), none⟩,
          ⟨(some 22), (.op (.nilc (.tmp 21))), none⟩,
          ⟨(some 23), (.op (.faddr 0 (.tmp 22))), none⟩,
          ⟨(some 24), (.op (.load none (.tmp 23))), none⟩,
          ⟨(some 25), (.op (.sliceSl 6 (.tmp 24) (some (.cst (.int .i64 1))) none none)), none⟩,
          ⟨(some 26), (.op (.nilc (.tmp 20))), none⟩,
          ⟨(some 27), (.op (.faddr 0 (.tmp 26))), none⟩,
          ⟨none, (.op (.store 1 (.tmp 27) (.tmp 25))), none⟩] [])
        (.seq (.region [
          ⟨(some 28), (.op (.faddr 4 (.tmp 5))), none⟩,
          ⟨(some 29), (.op (.load none (.tmp 28))), none⟩,
          ⟨(some 30), (.call (.cst (.func (.func 47) [] [])) [(.tmp 29)]), none⟩,
          ⟨(some 31), (.op (.faddr 4 (.tmp 5))), none⟩,
          ⟨none, (.op (.store 1 (.tmp 31) (.tmp 30))), none⟩] [])
        (.seq (.region [
          ⟨(some 32), (.op (.load (some 5) (.tmp 5))), none⟩,
          ⟨none, (.op (.store 5 (.tmp 2) (.tmp 32))), none⟩,
          ⟨(some 3), (.op (.mv (.cst (.bool true)))), none⟩,
          ⟨(some 4), (.op (.mv (.cst (.int .i64 0)))), none⟩] [])
        .ret))))
        (.seq (.region [
          ⟨(some 34), (.op (.mv (.tmp 0))), none⟩,
          ⟨(some 35), (.op (.nilc (.tmp 34))), none⟩,
          ⟨(some 36), (.op (.faddr 2 (.tmp 35))), none⟩,
          ⟨(some 37), (.op (.load none (.tmp 36))), none⟩,
          ⟨(some 33), (.op (.mv (.tmp 37))), none⟩] [])
        (.cond (.tmp 33)
          (.seq (.region [
            ⟨(some 38), (.op (.build [(.int .i64 0), (.int .i64 0), (.int .i64 0), (.str []), .nilSlice] [])), none⟩,
            ⟨none, (.op (.store 5 (.tmp 2) (.tmp 38))), none⟩,
            ⟨(some 3), (.op (.mv (.cst (.bool false)))), none⟩,
            ⟨(some 4), (.op (.mv (.cst (.int .i64 82)))), none⟩] [])
          .ret)
          .skip)))))
    (.seq (.region [
      ⟨(some 39), (.op (.build [(.int .i64 0), (.int .i64 0), (.int .i64 0), (.str []), .nilSlice] [])), none⟩,
      ⟨none, (.op (.store 5 (.tmp 2) (.tmp 39))), none⟩,
      ⟨(some 3), (.op (.mv (.cst (.bool false)))), none⟩,
      ⟨(some 4), (.op (.mv (.cst (.int .i64 0)))), none⟩] [])
    .ret)))⟩
theorem c23 : cFn Tryd.prog [] Tryd.f23 = some h23 := by kernel_rfl
/-- (*stint/answers.Reader).Held -/
def h25 : HFn :=
  ⟨26, [(.tmp 2)],
    (.seq (.region [
      ⟨(some 2), (.op (.mv (.cst (.int .i64 0)))), none⟩] [])
    (.seq (.region [
      ⟨(some 6), (.op (.mv (.tmp 0))), none⟩,
      ⟨(some 7), (.op (.nilc (.tmp 6))), none⟩,
      ⟨(some 8), (.op (.faddr 1 (.tmp 7))), none⟩,
      ⟨(some 9), (.op (.load none (.tmp 8))), none⟩,
      ⟨(some 10), (.op (.len .slice (.tmp 9))), none⟩,
      ⟨(some 3), (.op (.mv (.tmp 10))), none⟩] [])
    (.seq (.seq (.region [
      ⟨(some 11), (.op (.mv (.tmp 0))), none⟩,
      ⟨(some 12), (.op (.nilc (.tmp 11))), none⟩,
      ⟨(some 13), (.op (.faddr 0 (.tmp 12))), none⟩,
      ⟨(some 14), (.op (.load none (.tmp 13))), none⟩,
      ⟨(some 15), (.op (.len .slice (.tmp 14))), none⟩,
      ⟨(some 16), (.op (.mv (.cst (.int .i64 0)))), none⟩] [])
    (.block 0
      (.loop
        (.seq (.region [
          ⟨(some 17), (.op (.bin .lss none (.tmp 16) (.tmp 15))), none⟩] [])
        (.seq (.cond (.tmp 17)
          .skip
          (.exit 0))
        (.seq (.block 1
          (.seq (.region [
            ⟨(some 18), (.op (.idxS 6 (.tmp 14) (.tmp 16))), none⟩,
            ⟨(some 19), (.op (.load (some 6) (.tmp 18))), none⟩,
            ⟨(some 5), (.op (.box (.cst (.agg [(.int .i64 0), (.int .i64 0), (.int .i64 0), (.str []), .nilSlice, (.int .i64 0)])))), none⟩,
            ⟨none, (.op (.store 6 (.tmp 5) (.tmp 19))), none⟩] [])
          (.region [
            ⟨(some 20), (.op (.mv (.tmp 3))), none⟩,
            ⟨(some 21), (.op (.faddr 5 (.tmp 5))), none⟩,
            ⟨(some 22), (.op (.load none (.tmp 21))), none⟩,
            ⟨(some 23), (.op (.bin .add none (.tmp 20) (.tmp 22))), none⟩,
            ⟨(some 3), (.op (.mv (.tmp 23))), none⟩] [])))
        (.region [
          ⟨(some 24), (.op (.bin .add none (.tmp 16) (.cst (.int .i64 1)))), none⟩,
          ⟨(some 16), (.op (.mv (.tmp 24))), none⟩] [])))))))
    (.seq (.region [
      ⟨(some 25), (.op (.mv (.tmp 3))), none⟩,
      ⟨(some 2), (.op (.mv (.tmp 25))), none⟩] [])
    .ret))))⟩
theorem c25 : cFn Tryd.prog [] Tryd.f25 = some h25 := by kernel_rfl
/-- stint/answers.word -/
def h35 : HFn :=
  ⟨14, [(.tmp 2)],
    (.seq (.region [
      ⟨(some 2), (.op (.mv (.cst (.str [])))), none⟩] [])
    (.seq (.region [
      ⟨(some 4), (.op (.build [(.str []), (.str []), (.str []), (.str []), (.str []), (.str []), (.str []), (.str []), (.str []), (.str []), (.str []), (.str []), (.str []), (.str []), (.str []), (.str []), (.str []), (.str []), (.str []), (.str []), (.str []), (.str []), (.str []), (.str [])] [(1, 1, (.cst (.str [73, 78, 83, 69, 82, 84, 69, 68]))), (2, 1, (.cst (.str [85, 83, 73, 78, 71]))), (3, 1, (.cst (.str [82, 69, 83, 69, 82, 86, 69, 68]))), (4, 1, (.cst (.str [68, 69, 65, 68, 76, 73, 78, 69, 95, 83, 79, 79, 78]))), (5, 1, (.cst (.str [84, 73, 77, 69, 68, 95, 79, 85, 84]))), (6, 1, (.cst (.str [68, 69, 76, 69, 84, 69, 68]))), (7, 1, (.cst (.str [82, 69, 76, 69, 65, 83, 69, 68]))), (8, 1, (.cst (.str [66, 85, 82, 73, 69, 68]))), (9, 1, (.cst (.str [84, 79, 85, 67, 72, 69, 68]))), (10, 1, (.cst (.str [87, 65, 84, 67, 72, 73, 78, 71]))), (11, 1, (.cst (.str [78, 79, 84, 95, 73, 71, 78, 79, 82, 69, 68]))), (12, 1, (.cst (.str [70, 79, 85, 78, 68]))), (13, 1, (.cst (.str [75, 73, 67, 75, 69, 68]))), (14, 1, (.cst (.str [75, 73, 67, 75, 69, 68]))), (15, 1, (.cst (.str [80, 65, 85, 83, 69, 68]))), (16, 1, (.cst (.str [79, 75]))), (17, 1, (.cst (.str [78, 79, 84, 95, 70, 79, 85, 78, 68]))), (18, 1, (.cst (.str [79, 85, 84, 95, 79, 70, 95, 77, 69, 77, 79, 82, 89]))), (19, 1, (.cst (.str [66, 65, 68, 95, 70, 79, 82, 77, 65, 84]))), (20, 1, (.cst (.str [85, 78, 75, 78, 79, 87, 78, 95, 67, 79, 77, 77, 65, 78, 68]))), (21, 1, (.cst (.str [69, 88, 80, 69, 67, 84, 69, 68, 95, 67, 82, 76, 70]))), (22, 1, (.cst (.str [74, 79, 66, 95, 84, 79, 79, 95, 66, 73, 71]))), (23, 1, (.cst (.str [68, 82, 65, 73, 78, 73, 78, 71])))])), none⟩,
      ⟨(some 3), (.op (.box (.cst (.agg [(.str []), (.str []), (.str []), (.str []), (.str []), (.str []), (.str []), (.str []), (.str []), (.str []), (.str []), (.str []), (.str []), (.str []), (.str []), (.str []), (.str []), (.str []), (.str []), (.str []), (.str []), (.str []), (.str []), (.str [])])))), none⟩,
      ⟨none, (.op (.store 24 (.tmp 3) (.tmp 4))), none⟩] [])
    (.seq (.seq (.region [
      ⟨(some 5), (.op (.mv (.tmp 0))), none⟩,
      ⟨(some 6), (.op (.bin .lss none (.tmp 5) (.cst (.int .i64 1)))), none⟩,
      ⟨(some 7), (.op (.mv (.tmp 6))), none⟩,
      ⟨(some 8), (.op (.mv (.tmp 0))), (some (7, false))⟩,
      ⟨(some 9), (.op (.bin .geq none (.tmp 8) (.cst (.int .i64 24)))), (some (7, false))⟩,
      ⟨(some 10), (.op (.pick (.tmp 7) (.cst (.bool true)) (.tmp 9))), none⟩] [])
    (.cond (.tmp 10)
      (.seq (.region [
        ⟨(some 2), (.op (.mv (.cst (.str [])))), none⟩] [])
      .ret)
      .skip))
    (.seq (.region [
      ⟨(some 11), (.op (.mv (.tmp 0))), none⟩,
      ⟨(some 12), (.op (.idxA 24 1 (.tmp 3) (.tmp 11))), none⟩,
      ⟨(some 13), (.op (.load none (.tmp 12))), none⟩,
      ⟨(some 2), (.op (.mv (.tmp 13))), none⟩] [])
    .ret))))⟩
theorem c35 : cFn Tryd.prog [] Tryd.f35 = some h35 := by kernel_rfl
/-- stint/answers.most -/
def h36 : HFn :=
  ⟨5, [(.tmp 2)],
    (.seq (.region [
      ⟨(some 2), (.op (.mv (.cst (.int .i64 0)))), none⟩] [])
    (.seq (.seq (.region [
      ⟨(some 3), (.op (.mv (.tmp 0))), none⟩,
      ⟨(some 4), (.op (.bin .eql (some .int) (.tmp 3) (.cst (.int .i64 16)))), none⟩] [])
    (.cond (.tmp 4)
      (.seq (.region [
        ⟨(some 2), (.op (.mv (.cst (.int .i64 4294967295)))), none⟩] [])
      .ret)
      .skip))
    (.seq (.region [
      ⟨(some 2), (.op (.mv (.cst (.int .i64 65535)))), none⟩] [])
    .ret)))⟩
theorem c36 : cFn Tryd.prog [] Tryd.f36 = some h36 := by kernel_rfl
/-- stint/names.Valid -/
def h37 : HFn :=
  ⟨28, [(.tmp 2)],
    (.seq (.region [
      ⟨(some 2), (.op (.mv (.cst (.bool false)))), none⟩] [])
    (.seq (.seq (.region [
      ⟨(some 4), (.op (.mv (.tmp 0))), none⟩,
      ⟨(some 5), (.op (.len .str (.tmp 4))), none⟩,
      ⟨(some 6), (.op (.bin .lss none (.tmp 5) (.cst (.int .i64 1)))), none⟩,
      ⟨(some 7), (.op (.mv (.tmp 6))), none⟩,
      ⟨(some 8), (.op (.mv (.tmp 0))), (some (7, false))⟩,
      ⟨(some 9), (.op (.len .str (.tmp 8))), (some (7, false))⟩,
      ⟨(some 10), (.op (.bin .gtr none (.tmp 9) (.cst (.int .i64 200)))), (some (7, false))⟩,
      ⟨(some 11), (.op (.pick (.tmp 7) (.cst (.bool true)) (.tmp 10))), none⟩,
      ⟨(some 12), (.op (.mv (.tmp 11))), none⟩,
      ⟨(some 13), (.op (.mv (.tmp 0))), (some (12, false))⟩,
      ⟨(some 14), (.op (.idxStr (.tmp 13) (.cst (.int .i64 0)))), (some (12, false))⟩,
      ⟨(some 15), (.op (.bin .eql (some .int) (.tmp 14) (.cst (.int .u8 45)))), (some (12, false))⟩,
      ⟨(some 16), (.op (.pick (.tmp 12) (.cst (.bool true)) (.tmp 15))), none⟩] [])
    (.cond (.tmp 16)
      (.seq (.region [
        ⟨(some 2), (.op (.mv (.cst (.bool false)))), none⟩] [])
      .ret)
      .skip))
    (.seq (.seq (.region [
      ⟨(some 17), (.op (.mv (.tmp 0))), none⟩,
      ⟨(some 18), (.op (.len .str (.tmp 17))), none⟩,
      ⟨(some 19), (.op (.mv (.cst (.int .i64 0)))), none⟩] [])
    (.block 0
      (.loop
        (.seq (.region [
          ⟨(some 20), (.op (.bin .lss none (.tmp 19) (.tmp 18))), none⟩] [])
        (.seq (.cond (.tmp 20)
          .skip
          (.exit 0))
        (.seq (.block 1
          (.seq (.region [
            ⟨(some 21), (.op (.mv (.tmp 19))), none⟩,
            ⟨(some 3), (.op (.mv (.tmp 21))), none⟩] [])
          (.seq (.region [
            ⟨(some 22), (.op (.mv (.tmp 0))), none⟩,
            ⟨(some 23), (.op (.mv (.tmp 3))), none⟩,
            ⟨(some 24), (.op (.idxStr (.tmp 22) (.tmp 23))), none⟩,
            ⟨(some 25), (.call (.cst (.func (.func 52) [] [])) [(.tmp 24)]), none⟩,
            ⟨(some 26), (.op (.un .not (.tmp 25))), none⟩] [])
          (.cond (.tmp 26)
            (.seq (.region [
              ⟨(some 2), (.op (.mv (.cst (.bool false)))), none⟩] [])
            .ret)
            .skip))))
        (.region [
          ⟨(some 27), (.op (.bin .add none (.tmp 19) (.cst (.int .i64 1)))), none⟩,
          ⟨(some 19), (.op (.mv (.tmp 27))), none⟩] [])))))))
    (.seq (.region [
      ⟨(some 2), (.op (.mv (.cst (.bool true)))), none⟩] [])
    .ret))))⟩
theorem c37 : cFn Tryd.prog [] Tryd.f37 = some h37 := by kernel_rfl
/-- stint/digits.Print -/
def h38 : HFn :=
  ⟨7, [(.tmp 2)],
    (.seq (.region [
      ⟨(some 2), (.op (.mv (.cst (.str [])))), none⟩] [])
    (.seq (.seq (.region [
      ⟨(some 3), (.op (.mv (.tmp 0))), none⟩,
      ⟨(some 4), (.op (.bin .lss none (.tmp 3) (.cst (.int .i64 0)))), none⟩] [])
    (.cond (.tmp 4)
      (.seq (.region [
        ⟨(some 2), (.op (.mv (.cst (.str [])))), none⟩] [])
      .ret)
      .skip))
    (.seq (.region [
      ⟨(some 5), (.op (.mv (.tmp 0))), none⟩,
      ⟨(some 6), (.call (.cst (.func (.func 53) [] [])) [(.tmp 5)]), none⟩,
      ⟨(some 2), (.op (.mv (.tmp 6))), none⟩] [])
    .ret)))⟩
theorem c38 : cFn Tryd.prog [] Tryd.f38 = some h38 := by kernel_rfl
/-- stint/answers.first -/
def h46 : HFn :=
  ⟨37, [(.cell 2 (some 5)), (.tmp 3), (.tmp 4)],
    (.seq (.region [
      ⟨(some 2), (.op (.box (.cst (.agg [(.int .i64 0), (.int .i64 0), (.int .i64 0), (.str []), .nilSlice])))), none⟩,
      ⟨(some 3), (.op (.mv (.cst (.int .i64 0)))), none⟩,
      ⟨(some 4), (.op (.mv (.cst (.bool false)))), none⟩] [])
    (.seq (.region [
      ⟨(some 5), (.op (.mv (.cst (.int .i64 0)))), none⟩] [])
    (.seq (.seq (.region [
      ⟨(some 6), (.op (.mv (.cst (.int .i64 1)))), none⟩] [])
    (.block 0
      (.loop
        (.seq (.seq (.region [
          ⟨(some 9), (.op (.mv (.tmp 6))), none⟩,
          ⟨(some 10), (.op (.bin .leq none (.tmp 9) (.cst (.int .i64 23)))), none⟩] [])
        (.cond (.tmp 10)
          .skip
          (.exit 0)))
        (.seq (.block 1
          (.seq (.region [
            ⟨(some 14), (.op (.mv (.tmp 6))), none⟩,
            ⟨(some 15), (.op (.mv (.tmp 0))), none⟩,
            ⟨(some 16), (.call (.cst (.func (.func 57) [] [])) [(.tmp 14), (.tmp 15)]), none⟩,
            ⟨(some 13), (.op (.mv (.tmp 16))), none⟩,
            ⟨(some 17), (.op (.ext 0 (.tmp 13))), none⟩,
            ⟨(some 18), (.op (.ext 1 (.tmp 13))), none⟩,
            ⟨(some 7), (.op (.box (.cst (.agg [(.int .i64 0), (.int .i64 0), (.int .i64 0), (.str []), .nilSlice])))), none⟩,
            ⟨none, (.op (.store 5 (.tmp 7) (.tmp 17))), none⟩,
            ⟨(some 8), (.op (.mv (.tmp 18))), none⟩] [])
          (.seq (.seq (.region [
            ⟨(some 19), (.op (.mv (.tmp 8))), none⟩,
            ⟨(some 20), (.op (.nilc (.tmp 19))), none⟩,
            ⟨(some 21), (.op (.faddr 2 (.tmp 20))), none⟩,
            ⟨(some 22), (.op (.load none (.tmp 21))), none⟩,
            ⟨(some 23), (.op (.un .not (.tmp 22))), none⟩] [])
          (.cond (.tmp 23)
            (.seq (.draw [
              ⟨(some 24), (.op (.load (some 5) (.tmp 7))), none⟩,
              ⟨(some 25), (.op (.mv (.tmp 8))), none⟩,
              ⟨(some 26), (.op (.nilc (.tmp 25))), none⟩,
              ⟨(some 27), (.op (.faddr 1 (.tmp 26))), none⟩,
              ⟨(some 28), (.op (.load none (.tmp 27))), none⟩,
              ⟨none, (.op (.store 5 (.tmp 2) (.tmp 24))), none⟩,
              ⟨(some 3), (.op (.mv (.tmp 28))), none⟩,
              ⟨(some 4), (.op (.mv (.cst (.bool true)))), none⟩] [0, 1, 2, 3, 4, 5, 6, 7] [[], [], [], [], [], [0], [], []] [])
            .ret)
            .skip))
          (.region [
            ⟨(some 29), (.op (.mv (.tmp 5))), none⟩,
            ⟨(some 30), (.op (.mv (.tmp 8))), none⟩,
            ⟨(some 31), (.op (.nilc (.tmp 30))), none⟩,
            ⟨(some 32), (.op (.faddr 1 (.tmp 31))), none⟩,
            ⟨(some 33), (.op (.load none (.tmp 32))), none⟩,
            ⟨(some 34), (.op (.minmax false [(.tmp 29), (.tmp 33)])), none⟩,
            ⟨(some 5), (.op (.mv (.tmp 34))), none⟩] []))))
        (.region [
          ⟨(some 11), (.op (.mv (.tmp 6))), none⟩,
          ⟨(some 12), (.op (.bin .add none (.tmp 11) (.cst (.int .i64 1)))), none⟩,
          ⟨(some 6), (.op (.mv (.tmp 12))), none⟩] []))))))
    (.seq (.region [
      ⟨(some 35), (.op (.build [(.int .i64 0), (.int .i64 0), (.int .i64 0), (.str []), .nilSlice] [])), none⟩,
      ⟨(some 36), (.op (.mv (.tmp 5))), none⟩,
      ⟨none, (.op (.store 5 (.tmp 2) (.tmp 35))), none⟩,
      ⟨(some 3), (.op (.mv (.tmp 36))), none⟩,
      ⟨(some 4), (.op (.mv (.cst (.bool false)))), none⟩] [])
    .ret))))⟩
theorem c46 : cFn Tryd.prog [] Tryd.f46 = some h46 := by kernel_rfl
/-- bytes.Clone -/
def h47 : HFn :=
  ⟨8, [(.tmp 2)],
    (.seq (.region [
      ⟨(some 2), (.op (.mv (.cst .nilSlice))), none⟩] [])
    (.seq (.seq (.region [
      ⟨(some 3), (.op (.mv (.tmp 0))), none⟩,
      ⟨(some 4), (.op (.bin .eql (some .slice) (.tmp 3) (.cst .nilSlice))), none⟩] [])
    (.cond (.tmp 4)
      (.seq (.region [
        ⟨(some 2), (.op (.mv (.cst .nilSlice))), none⟩] [])
      .ret)
      .skip))
    (.seq (.region [
      ⟨(some 5), (.op (.bslice 1 0 [] [])), none⟩,
      ⟨(some 6), (.op (.mv (.tmp 0))), none⟩,
      ⟨(some 7), (.op (.append 1 1 (.tmp 5) (.tmp 6))), none⟩,
      ⟨(some 2), (.op (.mv (.tmp 7))), none⟩] [])
    .ret)))⟩
theorem c47 : cFn Tryd.prog [] Tryd.f47 = some h47 := by kernel_rfl
/-- stint/names.may -/
def h52 : HFn :=
  ⟨25, [(.tmp 2)],
    (.seq (.region [
      ⟨(some 2), (.op (.mv (.cst (.bool false)))), none⟩] [])
    (.seq (.block 0
      (.seq (.seq (.region [
        ⟨(some 4), (.op (.mv (.tmp 0))), none⟩,
        ⟨(some 5), (.op (.bin .geq none (.tmp 4) (.cst (.int .u8 97)))), none⟩,
        ⟨(some 6), (.op (.mv (.tmp 5))), none⟩,
        ⟨(some 7), (.op (.mv (.tmp 0))), (some (6, true))⟩,
        ⟨(some 8), (.op (.bin .leq none (.tmp 7) (.cst (.int .u8 122)))), (some (6, true))⟩,
        ⟨(some 9), (.op (.pick (.tmp 6) (.tmp 8) (.cst (.bool false)))), none⟩,
        ⟨(some 3), (.op (.mv (.tmp 9))), none⟩] [])
      (.cond (.tmp 3)
        .skip
        (.seq (.region [
          ⟨(some 10), (.op (.mv (.tmp 0))), none⟩,
          ⟨(some 11), (.op (.bin .geq none (.tmp 10) (.cst (.int .u8 65)))), none⟩,
          ⟨(some 12), (.op (.mv (.tmp 11))), none⟩,
          ⟨(some 13), (.op (.mv (.tmp 0))), (some (12, true))⟩,
          ⟨(some 14), (.op (.bin .leq none (.tmp 13) (.cst (.int .u8 90)))), (some (12, true))⟩,
          ⟨(some 15), (.op (.pick (.tmp 12) (.tmp 14) (.cst (.bool false)))), none⟩,
          ⟨(some 3), (.op (.mv (.tmp 15))), none⟩] [])
        (.cond (.tmp 3)
          .skip
          (.region [
            ⟨(some 16), (.op (.mv (.tmp 0))), none⟩,
            ⟨(some 17), (.op (.bin .geq none (.tmp 16) (.cst (.int .u8 48)))), none⟩,
            ⟨(some 18), (.op (.mv (.tmp 17))), none⟩,
            ⟨(some 19), (.op (.mv (.tmp 0))), (some (18, true))⟩,
            ⟨(some 20), (.op (.bin .leq none (.tmp 19) (.cst (.int .u8 57)))), (some (18, true))⟩,
            ⟨(some 21), (.op (.pick (.tmp 18) (.tmp 20) (.cst (.bool false)))), none⟩,
            ⟨(some 3), (.op (.mv (.tmp 21))), none⟩] [])))))
      (.cond (.tmp 3)
        (.seq (.region [
          ⟨(some 2), (.op (.mv (.cst (.bool true)))), none⟩] [])
        .ret)
        .skip)))
    (.seq (.region [
      ⟨(some 22), (.op (.mv (.tmp 0))), none⟩,
      ⟨(some 23), (.call (.cst (.func (.func 59) [] [])) [(.cst (.str [45, 43, 47, 59, 46, 36, 95, 40, 41])), (.tmp 22)]), none⟩,
      ⟨(some 24), (.op (.bin .geq none (.tmp 23) (.cst (.int .i64 0)))), none⟩,
      ⟨(some 2), (.op (.mv (.tmp 24))), none⟩] [])
    .ret)))⟩
theorem c52 : cFn Tryd.prog [] Tryd.f52 = some h52 := by kernel_rfl
/-- strconv.Itoa -/
def h53 : HFn :=
  ⟨5, [(.tmp 2)],
    (.seq (.region [
      ⟨(some 2), (.op (.mv (.cst (.str [])))), none⟩] [])
    (.seq (.region [
      ⟨(some 3), (.op (.mv (.tmp 0))), none⟩,
      ⟨(some 4), (.call (.cst (.func (.func 60) [] [])) [(.tmp 3)]), none⟩,
      ⟨(some 2), (.op (.mv (.tmp 4))), none⟩] [])
    .ret))⟩
theorem c53 : cFn Tryd.prog [] Tryd.f53 = some h53 := by kernel_rfl
/-- stint/answers.form -/
def h57 : HFn :=
  ⟨67, [(.cell 4 (some 5)), (.tmp 5)],
    (.seq (.region [
      ⟨(some 4), (.op (.box (.cst (.agg [(.int .i64 0), (.int .i64 0), (.int .i64 0), (.str []), .nilSlice])))), none⟩,
      ⟨(some 5), (.op (.mv (.cst .nilPtr))), none⟩] [])
    (.seq (.region [
      ⟨(some 9), (.op (.mv (.tmp 1))), none⟩,
      ⟨(some 10), (.op (.build [.nilSlice, (.int .i64 0), (.bool false)] [(0, 1, (.tmp 9))])), none⟩,
      ⟨(some 11), (.op (.box (.tmp 10))), none⟩,
      ⟨(some 6), (.op (.mv (.tmp 11))), none⟩] [])
    (.seq (.region [
      ⟨(some 12), (.op (.mv (.tmp 0))), none⟩,
      ⟨(some 13), (.op (.build [(.int .i64 0), (.int .i64 0), (.int .i64 0), (.str []), .nilSlice] [(0, 1, (.tmp 12))])), none⟩,
      ⟨(some 7), (.op (.box (.cst (.agg [(.int .i64 0), (.int .i64 0), (.int .i64 0), (.str []), .nilSlice])))), none⟩,
      ⟨none, (.op (.store 5 (.tmp 7) (.tmp 13))), none⟩] [])
    (.seq (.region [
      ⟨(some 14), (.op (.mv (.tmp 6))), none⟩,
      ⟨(some 15), (.op (.mv (.tmp 0))), none⟩,
      ⟨(some 16), (.call (.cst (.func (.func 35) [] [])) [(.tmp 15)]), none⟩,
      ⟨(some 17), (.call (.cst (.func (.func 61) [] [])) [(.tmp 14), (.tmp 16)]), none⟩] [])
    (.seq (.seq (.region [
      ⟨(some 18), (.op (.mv (.tmp 0))), none⟩] [])
    (.block 0
      (.seq (.block 5
        (.seq (.block 4
          (.seq (.block 3
            (.seq (.block 2
              (.seq (.block 1
                (.seq (.seq (.seq (.seq (.region [
                  ⟨(some 20), (.op (.bin .eql (some .int) (.tmp 18) (.cst (.int .i64 3)))), none⟩,
                  ⟨(some 19), (.op (.mv (.tmp 20))), none⟩] [])
                (.cond (.tmp 19)
                  .skip
                  (.region [
                    ⟨(some 21), (.op (.bin .eql (some .int) (.tmp 18) (.cst (.int .i64 12)))), none⟩,
                    ⟨(some 19), (.op (.mv (.tmp 21))), none⟩] [])))
                (.cond (.tmp 19)
                  (.exit 1)
                  .skip))
                (.seq (.seq (.region [
                  ⟨(some 23), (.op (.bin .eql (some .int) (.tmp 18) (.cst (.int .i64 16)))), none⟩,
                  ⟨(some 22), (.op (.mv (.tmp 23))), none⟩] [])
                (.cond (.tmp 22)
                  (.exit 2)
                  .skip))
                (.seq (.seq (.region [
                  ⟨(some 25), (.op (.bin .eql (some .int) (.tmp 18) (.cst (.int .i64 1)))), none⟩,
                  ⟨(some 24), (.op (.mv (.tmp 25))), none⟩] [])
                (.cond (.tmp 24)
                  (.exit 3)
                  .skip))
                (.seq (.seq (.region [
                  ⟨(some 27), (.op (.bin .eql (some .int) (.tmp 18) (.cst (.int .i64 2)))), none⟩,
                  ⟨(some 26), (.op (.mv (.tmp 27))), none⟩] [])
                (.cond (.tmp 26)
                  (.exit 4)
                  .skip))
                (.seq (.seq (.region [
                  ⟨(some 29), (.op (.bin .eql (some .int) (.tmp 18) (.cst (.int .i64 10)))), none⟩,
                  ⟨(some 28), (.op (.mv (.tmp 29))), none⟩] [])
                (.cond (.tmp 28)
                  .skip
                  (.region [
                    ⟨(some 30), (.op (.bin .eql (some .int) (.tmp 18) (.cst (.int .i64 13)))), none⟩,
                    ⟨(some 28), (.op (.mv (.tmp 30))), none⟩] [])))
                (.cond (.tmp 28)
                  (.exit 5)
                  .skip))))))
                (.exit 0)))
              (.seq (.region [
                ⟨(some 31), (.op (.mv (.tmp 6))), none⟩,
                ⟨(some 32), (.call (.cst (.func (.func 61) [] [])) [(.tmp 31), (.cst (.str [32]))]), none⟩] [])
              (.region [
                ⟨(some 33), (.op (.mv (.tmp 6))), none⟩,
                ⟨(some 34), (.call (.cst (.func (.func 62) [] [])) [(.tmp 33), (.cst (.int .i64 1)), (.cst (.int .i64 1099511627776))]), none⟩,
                ⟨(some 35), (.op (.faddr 1 (.tmp 7))), none⟩,
                ⟨none, (.op (.store 1 (.tmp 35) (.tmp 34))), none⟩] []))))
            (.seq (.seq (.region [
              ⟨(some 36), (.op (.mv (.tmp 6))), none⟩,
              ⟨(some 37), (.call (.cst (.func (.func 61) [] [])) [(.tmp 36), (.cst (.str [32]))]), none⟩] [])
            (.seq (.region [
              ⟨(some 38), (.op (.mv (.tmp 6))), none⟩,
              ⟨(some 39), (.op (.mv (.tmp 0))), none⟩,
              ⟨(some 40), (.call (.cst (.func (.func 36) [] [])) [(.tmp 39)]), none⟩,
              ⟨(some 41), (.call (.cst (.func (.func 62) [] [])) [(.tmp 38), (.cst (.int .i64 0)), (.tmp 40)]), none⟩,
              ⟨(some 8), (.op (.mv (.tmp 41))), none⟩] [])
            (.seq (.region [
              ⟨(some 42), (.op (.mv (.tmp 6))), none⟩,
              ⟨(some 43), (.call (.cst (.func (.func 61) [] [])) [(.tmp 42), (.cst (.str [13, 10]))]), none⟩] [])
            (.region [
              ⟨(some 44), (.op (.mv (.tmp 6))), none⟩,
              ⟨(some 45), (.op (.mv (.tmp 8))), none⟩,
              ⟨(some 46), (.call (.cst (.func (.func 63) [] [])) [(.tmp 44), (.tmp 45)]), none⟩,
              ⟨(some 47), (.op (.faddr 4 (.tmp 7))), none⟩,
              ⟨none, (.op (.store 1 (.tmp 47) (.tmp 46))), none⟩] []))))
            (.exit 0))))
          (.seq (.seq (.region [
            ⟨(some 48), (.op (.mv (.tmp 6))), none⟩,
            ⟨(some 49), (.call (.cst (.func (.func 61) [] [])) [(.tmp 48), (.cst (.str [32]))]), none⟩] [])
          (.region [
            ⟨(some 50), (.op (.mv (.tmp 6))), none⟩,
            ⟨(some 51), (.call (.cst (.func (.func 62) [] [])) [(.tmp 50), (.cst (.int .i64 1)), (.cst (.int .i64 1099511627776))]), none⟩,
            ⟨(some 52), (.op (.faddr 1 (.tmp 7))), none⟩,
            ⟨none, (.op (.store 1 (.tmp 52) (.tmp 51))), none⟩] []))
          (.exit 0))))
        (.seq (.seq (.region [
          ⟨(some 53), (.op (.mv (.tmp 6))), none⟩,
          ⟨(some 54), (.call (.cst (.func (.func 61) [] [])) [(.tmp 53), (.cst (.str [32]))]), none⟩] [])
        (.region [
          ⟨(some 55), (.op (.mv (.tmp 6))), none⟩,
          ⟨(some 56), (.call (.cst (.func (.func 64) [] [])) [(.tmp 55)]), none⟩,
          ⟨(some 57), (.op (.faddr 3 (.tmp 7))), none⟩,
          ⟨none, (.op (.store 1 (.tmp 57) (.tmp 56))), none⟩] []))
        (.exit 0))))
      (.seq (.seq (.region [
        ⟨(some 58), (.op (.mv (.tmp 6))), none⟩,
        ⟨(some 59), (.call (.cst (.func (.func 61) [] [])) [(.tmp 58), (.cst (.str [32]))]), none⟩] [])
      (.region [
        ⟨(some 60), (.op (.mv (.tmp 6))), none⟩,
        ⟨(some 61), (.call (.cst (.func (.func 62) [] [])) [(.tmp 60), (.cst (.int .i64 0)), (.cst (.int .i64 4294967295))]), none⟩,
        ⟨(some 62), (.op (.faddr 2 (.tmp 7))), none⟩,
        ⟨none, (.op (.store 1 (.tmp 62) (.tmp 61))), none⟩] []))
      (.exit 0)))))
    (.seq (.region [
      ⟨(some 63), (.op (.mv (.tmp 6))), none⟩,
      ⟨(some 64), (.call (.cst (.func (.func 61) [] [])) [(.tmp 63), (.cst (.str [13, 10]))]), none⟩] [])
    (.seq (.region [
      ⟨(some 65), (.op (.load (some 5) (.tmp 7))), none⟩,
      ⟨(some 66), (.op (.mv (.tmp 6))), none⟩,
      ⟨none, (.op (.store 5 (.tmp 4) (.tmp 65))), none⟩,
      ⟨(some 5), (.op (.mv (.tmp 66))), none⟩] [])
    .ret)))))))⟩
theorem c57 : cFn Tryd.prog [] Tryd.f57 = some h57 := by kernel_rfl
/-- strings.IndexByte -/
def h59 : HFn :=
  ⟨8, [(.tmp 4)],
    (.seq (.region [
      ⟨(some 4), (.op (.mv (.cst (.int .i64 0)))), none⟩] [])
    (.seq (.region [
      ⟨(some 5), (.op (.mv (.tmp 0))), none⟩,
      ⟨(some 6), (.op (.mv (.tmp 1))), none⟩,
      ⟨(some 7), (.call (.cst (.func (.func 68) [] [])) [(.tmp 5), (.tmp 6)]), none⟩,
      ⟨(some 4), (.op (.mv (.tmp 7))), none⟩] [])
    .ret))⟩
theorem c59 : cFn Tryd.prog [] Tryd.f59 = some h59 := by kernel_rfl
/-- internal/strconv.Itoa -/
def h60 : HFn :=
  ⟨5, [(.tmp 2)],
    (.seq (.region [
      ⟨(some 2), (.op (.mv (.cst (.str [])))), none⟩] [])
    (.seq (.region [
      ⟨(some 3), (.op (.mv (.tmp 0))), none⟩,
      ⟨(some 4), (.call (.cst (.func (.func 69) [] [])) [(.tmp 3), (.cst (.int .i64 10))]), none⟩,
      ⟨(some 2), (.op (.mv (.tmp 4))), none⟩] [])
    .ret))⟩
theorem c60 : cFn Tryd.prog [] Tryd.f60 = some h60 := by kernel_rfl
/-- (*stint/answers.cursor).text -/
def h61 : HFn :=
  ⟨54, [],
    (.seq (.region [
      ⟨(some 4), (.op (.mv (.cst (.int .i64 0)))), none⟩] [])
    (.block 0
      (.loop
        (.seq (.seq (.region [
          ⟨(some 5), (.op (.mv (.tmp 4))), none⟩,
          ⟨(some 6), (.op (.mv (.tmp 1))), none⟩,
          ⟨(some 7), (.op (.len .str (.tmp 6))), none⟩,
          ⟨(some 8), (.op (.bin .lss none (.tmp 5) (.tmp 7))), none⟩,
          ⟨(some 9), (.op (.mv (.tmp 8))), none⟩,
          ⟨(some 10), (.op (.mv (.tmp 0))), (some (9, true))⟩,
          ⟨(some 11), (.op (.nilc (.tmp 10))), (some (9, true))⟩,
          ⟨(some 12), (.op (.faddr 2 (.tmp 11))), (some (9, true))⟩,
          ⟨(some 13), (.op (.load none (.tmp 12))), (some (9, true))⟩,
          ⟨(some 14), (.op (.un .not (.tmp 13))), (some (9, true))⟩,
          ⟨(some 15), (.op (.pick (.tmp 9) (.tmp 14) (.cst (.bool false)))), none⟩] [])
        (.cond (.tmp 15)
          .skip
          (.exit 0)))
        (.seq (.block 1
          (.seq (.seq (.draw [
            ⟨(some 18), (.op (.mv (.tmp 0))), none⟩,
            ⟨(some 19), (.op (.nilc (.tmp 18))), none⟩,
            ⟨(some 20), (.op (.faddr 1 (.tmp 19))), none⟩,
            ⟨(some 21), (.op (.load none (.tmp 20))), none⟩,
            ⟨(some 22), (.op (.mv (.tmp 0))), none⟩,
            ⟨(some 23), (.op (.nilc (.tmp 22))), none⟩,
            ⟨(some 24), (.op (.faddr 0 (.tmp 23))), none⟩,
            ⟨(some 25), (.op (.load none (.tmp 24))), none⟩,
            ⟨(some 26), (.op (.len .slice (.tmp 25))), none⟩,
            ⟨(some 27), (.op (.bin .eql (some .int) (.tmp 21) (.tmp 26))), none⟩,
            ⟨(some 28), (.op (.mv (.tmp 27))), none⟩,
            ⟨(some 29), (.op (.mv (.tmp 0))), (some (28, false))⟩,
            ⟨(some 30), (.op (.nilc (.tmp 29))), (some (28, false))⟩,
            ⟨(some 31), (.op (.faddr 0 (.tmp 30))), (some (28, false))⟩,
            ⟨(some 32), (.op (.load none (.tmp 31))), (some (28, false))⟩,
            ⟨(some 33), (.op (.mv (.tmp 0))), (some (28, false))⟩,
            ⟨(some 34), (.op (.nilc (.tmp 33))), (some (28, false))⟩,
            ⟨(some 35), (.op (.faddr 1 (.tmp 34))), (some (28, false))⟩,
            ⟨(some 36), (.op (.load none (.tmp 35))), (some (28, false))⟩,
            ⟨(some 37), (.op (.idxS 1 (.tmp 32) (.tmp 36))), (some (28, false))⟩,
            ⟨(some 38), (.op (.load none (.tmp 37))), (some (28, false))⟩,
            ⟨(some 39), (.op (.mv (.tmp 1))), (some (28, false))⟩,
            ⟨(some 40), (.op (.mv (.tmp 4))), (some (28, false))⟩,
            ⟨(some 41), (.op (.idxStr (.tmp 39) (.tmp 40))), (some (28, false))⟩,
            ⟨(some 42), (.op (.bin .neq (some .int) (.tmp 38) (.tmp 41))), (some (28, false))⟩,
            ⟨(some 43), (.op (.pick (.tmp 28) (.cst (.bool true)) (.tmp 42))), none⟩] [0, 1, 2, 3, 4, 5, 6, 7, 8, 9, 10, 11, 12, 13, 14, 15, 16, 17, 18, 19, 20, 21, 22, 23, 24, 25] [[], [], [], [], [], [], [], [], [], [], [], [], [], [], [], [], [], [], [], [], [], [], [], [], [], []] [])
          (.cond (.tmp 43)
            (.seq (.region [
              ⟨(some 44), (.op (.mv (.tmp 0))), none⟩,
              ⟨(some 45), (.op (.nilc (.tmp 44))), none⟩,
              ⟨(some 46), (.op (.faddr 2 (.tmp 45))), none⟩,
              ⟨none, (.op (.store 1 (.tmp 46) (.cst (.bool true)))), none⟩] [])
            .ret)
            .skip))
          (.region [
            ⟨(some 47), (.op (.mv (.tmp 0))), none⟩,
            ⟨(some 48), (.op (.nilc (.tmp 47))), none⟩,
            ⟨(some 49), (.op (.faddr 1 (.tmp 48))), none⟩,
            ⟨(some 50), (.op (.load none (.tmp 49))), none⟩,
            ⟨(some 51), (.op (.bin .add none (.tmp 50) (.cst (.int .i64 1)))), none⟩,
            ⟨(some 52), (.op (.nilc (.tmp 47))), none⟩,
            ⟨(some 53), (.op (.faddr 1 (.tmp 52))), none⟩,
            ⟨none, (.op (.store 1 (.tmp 53) (.tmp 51))), none⟩] [])))
        (.region [
          ⟨(some 16), (.op (.mv (.tmp 4))), none⟩,
          ⟨(some 17), (.op (.bin .add none (.tmp 16) (.cst (.int .i64 1)))), none⟩,
          ⟨(some 4), (.op (.mv (.tmp 17))), none⟩] []))))))⟩
theorem c61 : cFn Tryd.prog [] Tryd.f61 = some h61 := by kernel_rfl
/-- (*stint/answers.cursor).number -/
def h62 : HFn :=
  ⟨116, [(.tmp 6)],
    (.seq (.region [
      ⟨(some 6), (.op (.mv (.cst (.int .i64 0)))), none⟩] [])
    (.seq (.draw [
      ⟨(some 10), (.op (.mv (.tmp 0))), none⟩,
      ⟨(some 11), (.op (.nilc (.tmp 10))), none⟩,
      ⟨(some 12), (.op (.faddr 1 (.tmp 11))), none⟩,
      ⟨(some 13), (.op (.load none (.tmp 12))), none⟩,
      ⟨(some 7), (.op (.mv (.cst (.int .i64 0)))), none⟩,
      ⟨(some 8), (.op (.mv (.tmp 13))), none⟩] [0, 1, 2, 3, 4, 5] [[], [], [], [], [], []] [])
    (.seq (.block 0
      (.loop
        (.seq (.seq (.draw [
          ⟨(some 14), (.op (.mv (.tmp 0))), none⟩,
          ⟨(some 15), (.op (.nilc (.tmp 14))), none⟩,
          ⟨(some 16), (.op (.faddr 2 (.tmp 15))), none⟩,
          ⟨(some 17), (.op (.load none (.tmp 16))), none⟩,
          ⟨(some 18), (.op (.un .not (.tmp 17))), none⟩,
          ⟨(some 19), (.op (.mv (.tmp 18))), none⟩,
          ⟨(some 20), (.op (.mv (.tmp 0))), (some (19, true))⟩,
          ⟨(some 21), (.op (.nilc (.tmp 20))), (some (19, true))⟩,
          ⟨(some 22), (.op (.faddr 1 (.tmp 21))), (some (19, true))⟩,
          ⟨(some 23), (.op (.load none (.tmp 22))), (some (19, true))⟩,
          ⟨(some 24), (.op (.mv (.tmp 0))), (some (19, true))⟩,
          ⟨(some 25), (.op (.nilc (.tmp 24))), (some (19, true))⟩,
          ⟨(some 26), (.op (.faddr 0 (.tmp 25))), (some (19, true))⟩,
          ⟨(some 27), (.op (.load none (.tmp 26))), (some (19, true))⟩,
          ⟨(some 28), (.op (.len .slice (.tmp 27))), (some (19, true))⟩,
          ⟨(some 29), (.op (.bin .lss none (.tmp 23) (.tmp 28))), (some (19, true))⟩,
          ⟨(some 30), (.op (.pick (.tmp 19) (.tmp 29) (.cst (.bool false)))), none⟩,
          ⟨(some 31), (.op (.mv (.tmp 30))), none⟩,
          ⟨(some 32), (.op (.mv (.tmp 0))), (some (31, true))⟩,
          ⟨(some 33), (.op (.nilc (.tmp 32))), (some (31, true))⟩,
          ⟨(some 34), (.op (.faddr 0 (.tmp 33))), (some (31, true))⟩,
          ⟨(some 35), (.op (.load none (.tmp 34))), (some (31, true))⟩,
          ⟨(some 36), (.op (.mv (.tmp 0))), (some (31, true))⟩,
          ⟨(some 37), (.op (.nilc (.tmp 36))), (some (31, true))⟩,
          ⟨(some 38), (.op (.faddr 1 (.tmp 37))), (some (31, true))⟩,
          ⟨(some 39), (.op (.load none (.tmp 38))), (some (31, true))⟩,
          ⟨(some 40), (.op (.idxS 1 (.tmp 35) (.tmp 39))), (some (31, true))⟩,
          ⟨(some 41), (.op (.load none (.tmp 40))), (some (31, true))⟩,
          ⟨(some 42), (.op (.bin .geq none (.tmp 41) (.cst (.int .u8 48)))), (some (31, true))⟩,
          ⟨(some 43), (.op (.pick (.tmp 31) (.tmp 42) (.cst (.bool false)))), none⟩,
          ⟨(some 44), (.op (.mv (.tmp 43))), none⟩,
          ⟨(some 45), (.op (.mv (.tmp 0))), (some (44, true))⟩,
          ⟨(some 46), (.op (.nilc (.tmp 45))), (some (44, true))⟩,
          ⟨(some 47), (.op (.faddr 0 (.tmp 46))), (some (44, true))⟩,
          ⟨(some 48), (.op (.load none (.tmp 47))), (some (44, true))⟩,
          ⟨(some 49), (.op (.mv (.tmp 0))), (some (44, true))⟩,
          ⟨(some 50), (.op (.nilc (.tmp 49))), (some (44, true))⟩,
          ⟨(some 51), (.op (.faddr 1 (.tmp 50))), (some (44, true))⟩,
          ⟨(some 52), (.op (.load none (.tmp 51))), (some (44, true))⟩,
          ⟨(some 53), (.op (.idxS 1 (.tmp 48) (.tmp 52))), (some (44, true))⟩,
          ⟨(some 54), (.op (.load none (.tmp 53))), (some (44, true))⟩,
          ⟨(some 55), (.op (.bin .leq none (.tmp 54) (.cst (.int .u8 57)))), (some (44, true))⟩,
          ⟨(some 56), (.op (.pick (.tmp 44) (.tmp 55) (.cst (.bool false)))), none⟩] [0, 1, 2, 3, 4, 5, 6, 7, 8, 9, 10, 11, 12, 13, 14, 15, 16, 17, 18, 19, 20, 21, 22, 23, 24, 25, 26, 27, 28, 29, 30, 31, 32, 33, 34, 35, 36, 37, 38, 39, 40, 41, 42] [[], [], [], [], [], [], [], [], [], [], [], [], [], [], [], [], [], [], [], [], [], [], [], [], [], [], [], [], [], [], [], [], [], [], [], [], [], [], [], [], [], [], []] [])
        (.cond (.tmp 56)
          .skip
          (.exit 0)))
        (.block 1
          (.seq (.draw [
            ⟨(some 57), (.op (.mv (.tmp 7))), none⟩,
            ⟨(some 58), (.op (.bin .mul none (.cst (.int .i64 10)) (.tmp 57))), none⟩,
            ⟨(some 59), (.op (.mv (.tmp 0))), none⟩,
            ⟨(some 60), (.op (.nilc (.tmp 59))), none⟩,
            ⟨(some 61), (.op (.faddr 0 (.tmp 60))), none⟩,
            ⟨(some 62), (.op (.load none (.tmp 61))), none⟩,
            ⟨(some 63), (.op (.mv (.tmp 0))), none⟩,
            ⟨(some 64), (.op (.nilc (.tmp 63))), none⟩,
            ⟨(some 65), (.op (.faddr 1 (.tmp 64))), none⟩,
            ⟨(some 66), (.op (.load none (.tmp 65))), none⟩,
            ⟨(some 67), (.op (.idxS 1 (.tmp 62) (.tmp 66))), none⟩,
            ⟨(some 68), (.op (.load none (.tmp 67))), none⟩,
            ⟨(some 69), (.op (.bin .sub none (.tmp 68) (.cst (.int .u8 48)))), none⟩,
            ⟨(some 70), (.op (.cInt .i64 (.tmp 69))), none⟩,
            ⟨(some 71), (.op (.bin .add none (.tmp 58) (.tmp 70))), none⟩,
            ⟨(some 9), (.op (.mv (.tmp 71))), none⟩] [0, 1, 2, 3, 4, 5, 6, 7, 8, 9, 10, 11, 12, 13, 14, 15] [[], [], [], [], [], [], [], [], [], [], [], [], [], [], [], []] [])
          (.seq (.seq (.region [
            ⟨(some 72), (.op (.mv (.tmp 9))), none⟩,
            ⟨(some 73), (.op (.mv (.tmp 2))), none⟩,
            ⟨(some 74), (.op (.bin .gtr none (.tmp 72) (.tmp 73))), none⟩,
            ⟨(some 75), (.op (.mv (.tmp 74))), none⟩,
            ⟨(some 76), (.op (.mv (.tmp 9))), (some (75, false))⟩,
            ⟨(some 77), (.op (.mv (.tmp 1))), (some (75, false))⟩,
            ⟨(some 78), (.op (.bin .lss none (.tmp 76) (.tmp 77))), (some (75, false))⟩,
            ⟨(some 79), (.op (.pick (.tmp 75) (.cst (.bool true)) (.tmp 78))), none⟩,
            ⟨(some 80), (.op (.mv (.tmp 79))), none⟩,
            ⟨(some 81), (.op (.mv (.tmp 0))), (some (80, false))⟩,
            ⟨(some 82), (.op (.nilc (.tmp 81))), (some (80, false))⟩,
            ⟨(some 83), (.op (.faddr 1 (.tmp 82))), (some (80, false))⟩,
            ⟨(some 84), (.op (.load none (.tmp 83))), (some (80, false))⟩,
            ⟨(some 85), (.op (.mv (.tmp 8))), (some (80, false))⟩,
            ⟨(some 86), (.op (.bin .gtr none (.tmp 84) (.tmp 85))), (some (80, false))⟩,
            ⟨(some 87), (.op (.mv (.tmp 86))), (some (80, false))⟩,
            ⟨(some 88), (.op (.mv (.tmp 7))), (some (87, true))⟩,
            ⟨(some 89), (.op (.bin .eql (some .int) (.tmp 88) (.cst (.int .i64 0)))), (some (87, true))⟩,
            ⟨(some 90), (.op (.pick (.tmp 87) (.tmp 89) (.cst (.bool false)))), (some (80, false))⟩,
            ⟨(some 91), (.op (.pick (.tmp 80) (.cst (.bool true)) (.tmp 90))), none⟩] [])
          (.cond (.tmp 91)
            (.exit 0)
            .skip))
          (.seq (.region [
            ⟨(some 92), (.op (.mv (.tmp 9))), none⟩,
            ⟨(some 7), (.op (.mv (.tmp 92))), none⟩] [])
          (.region [
            ⟨(some 93), (.op (.mv (.tmp 0))), none⟩,
            ⟨(some 94), (.op (.nilc (.tmp 93))), none⟩,
            ⟨(some 95), (.op (.faddr 1 (.tmp 94))), none⟩,
            ⟨(some 96), (.op (.load none (.tmp 95))), none⟩,
            ⟨(some 97), (.op (.bin .add none (.tmp 96) (.cst (.int .i64 1)))), none⟩,
            ⟨(some 98), (.op (.nilc (.tmp 93))), none⟩,
            ⟨(some 99), (.op (.faddr 1 (.tmp 98))), none⟩,
            ⟨none, (.op (.store 1 (.tmp 99) (.tmp 97))), none⟩] []))))))))
    (.seq (.region [
      ⟨(some 100), (.op (.mv (.tmp 0))), none⟩,
      ⟨(some 101), (.op (.mv (.tmp 0))), none⟩,
      ⟨(some 102), (.op (.nilc (.tmp 101))), none⟩,
      ⟨(some 103), (.op (.faddr 2 (.tmp 102))), none⟩,
      ⟨(some 104), (.op (.load none (.tmp 103))), none⟩,
      ⟨(some 105), (.op (.mv (.tmp 104))), none⟩,
      ⟨(some 106), (.op (.mv (.tmp 0))), (some (105, false))⟩,
      ⟨(some 107), (.op (.nilc (.tmp 106))), (some (105, false))⟩,
      ⟨(some 108), (.op (.faddr 1 (.tmp 107))), (some (105, false))⟩,
      ⟨(some 109), (.op (.load none (.tmp 108))), (some (105, false))⟩,
      ⟨(some 110), (.op (.mv (.tmp 8))), (some (105, false))⟩,
      ⟨(some 111), (.op (.bin .eql (some .int) (.tmp 109) (.tmp 110))), (some (105, false))⟩,
      ⟨(some 112), (.op (.pick (.tmp 105) (.cst (.bool true)) (.tmp 111))), none⟩,
      ⟨(some 113), (.op (.nilc (.tmp 100))), none⟩,
      ⟨(some 114), (.op (.faddr 2 (.tmp 113))), none⟩,
      ⟨none, (.op (.store 1 (.tmp 114) (.tmp 112))), none⟩] [])
    (.seq (.region [
      ⟨(some 115), (.op (.mv (.tmp 7))), none⟩,
      ⟨(some 6), (.op (.mv (.tmp 115))), none⟩] [])
    .ret)))))⟩
theorem c62 : cFn Tryd.prog [] Tryd.f62 = some h62 := by kernel_rfl
/-- (*stint/answers.cursor).bytes -/
def h63 : HFn :=
  ⟨55, [(.tmp 4)],
    (.seq (.region [
      ⟨(some 4), (.op (.mv (.cst .nilSlice))), none⟩] [])
    (.seq (.seq (.region [
      ⟨(some 6), (.op (.mv (.tmp 0))), none⟩,
      ⟨(some 7), (.op (.nilc (.tmp 6))), none⟩,
      ⟨(some 8), (.op (.faddr 2 (.tmp 7))), none⟩,
      ⟨(some 9), (.op (.load none (.tmp 8))), none⟩] [])
    (.cond (.tmp 9)
      (.seq (.region [
        ⟨(some 4), (.op (.mv (.cst .nilSlice))), none⟩] [])
      .ret)
      .skip))
    (.seq (.seq (.draw [
      ⟨(some 10), (.op (.mv (.tmp 0))), none⟩,
      ⟨(some 11), (.op (.nilc (.tmp 10))), none⟩,
      ⟨(some 12), (.op (.faddr 0 (.tmp 11))), none⟩,
      ⟨(some 13), (.op (.load none (.tmp 12))), none⟩,
      ⟨(some 14), (.op (.len .slice (.tmp 13))), none⟩,
      ⟨(some 15), (.op (.mv (.tmp 0))), none⟩,
      ⟨(some 16), (.op (.nilc (.tmp 15))), none⟩,
      ⟨(some 17), (.op (.faddr 1 (.tmp 16))), none⟩,
      ⟨(some 18), (.op (.load none (.tmp 17))), none⟩,
      ⟨(some 19), (.op (.bin .sub none (.tmp 14) (.tmp 18))), none⟩,
      ⟨(some 20), (.op (.mv (.tmp 1))), none⟩,
      ⟨(some 21), (.op (.bin .lss none (.tmp 19) (.tmp 20))), none⟩] [0, 1, 2, 3, 4, 5, 6, 7, 8, 9, 10, 11] [[], [], [], [], [], [], [], [], [], [], [], []] [])
    (.cond (.tmp 21)
      (.seq (.region [
        ⟨(some 22), (.op (.mv (.tmp 0))), none⟩,
        ⟨(some 23), (.op (.mv (.tmp 0))), none⟩,
        ⟨(some 24), (.op (.mv (.tmp 0))), none⟩,
        ⟨(some 25), (.op (.nilc (.tmp 24))), none⟩,
        ⟨(some 26), (.op (.faddr 0 (.tmp 25))), none⟩,
        ⟨(some 27), (.op (.load none (.tmp 26))), none⟩,
        ⟨(some 28), (.op (.len .slice (.tmp 27))), none⟩,
        ⟨(some 29), (.op (.nilc (.tmp 22))), none⟩,
        ⟨(some 30), (.op (.faddr 1 (.tmp 29))), none⟩,
        ⟨none, (.op (.store 1 (.tmp 30) (.tmp 28))), none⟩,
        ⟨(some 31), (.op (.nilc (.tmp 23))), none⟩,
        ⟨(some 32), (.op (.faddr 2 (.tmp 31))), none⟩,
        ⟨none, (.op (.store 1 (.tmp 32) (.cst (.bool true)))), none⟩] [])
      (.seq (.region [
        ⟨(some 4), (.op (.mv (.cst .nilSlice))), none⟩] [])
      .ret))
      .skip))
    (.seq (.region [
      ⟨(some 33), (.op (.mv (.tmp 1))), none⟩,
      ⟨(some 34), (.op (.mkSlice 1 1 [(.int .u8 0)] (.tmp 33) (.tmp 33))), none⟩,
      ⟨(some 5), (.op (.mv (.tmp 34))), none⟩] [])
    (.seq (.draw [
      ⟨(some 35), (.op (.mv (.tmp 5))), none⟩,
      ⟨(some 36), (.op (.mv (.tmp 0))), none⟩,
      ⟨(some 37), (.op (.nilc (.tmp 36))), none⟩,
      ⟨(some 38), (.op (.faddr 0 (.tmp 37))), none⟩,
      ⟨(some 39), (.op (.load none (.tmp 38))), none⟩,
      ⟨(some 40), (.op (.mv (.tmp 0))), none⟩,
      ⟨(some 41), (.op (.nilc (.tmp 40))), none⟩,
      ⟨(some 42), (.op (.faddr 1 (.tmp 41))), none⟩,
      ⟨(some 43), (.op (.load none (.tmp 42))), none⟩,
      ⟨(some 44), (.op (.sliceSl 1 (.tmp 39) (some (.tmp 43)) none none)), none⟩,
      ⟨(some 45), (.op (.copy 1 (.tmp 35) (.tmp 44))), none⟩] [0, 1, 2, 3, 4, 5, 6, 7, 8, 9, 10] [[], [], [], [], [], [], [], [], [], [], [9, 4, 8]] [])
    (.seq (.region [
      ⟨(some 46), (.op (.mv (.tmp 0))), none⟩,
      ⟨(some 47), (.op (.nilc (.tmp 46))), none⟩,
      ⟨(some 48), (.op (.faddr 1 (.tmp 47))), none⟩,
      ⟨(some 49), (.op (.load none (.tmp 48))), none⟩,
      ⟨(some 50), (.op (.mv (.tmp 1))), none⟩,
      ⟨(some 51), (.op (.bin .add none (.tmp 49) (.tmp 50))), none⟩,
      ⟨(some 52), (.op (.nilc (.tmp 46))), none⟩,
      ⟨(some 53), (.op (.faddr 1 (.tmp 52))), none⟩,
      ⟨none, (.op (.store 1 (.tmp 53) (.tmp 51))), none⟩] [])
    (.seq (.region [
      ⟨(some 54), (.op (.mv (.tmp 5))), none⟩,
      ⟨(some 4), (.op (.mv (.tmp 54))), none⟩] [])
    .ret)))))))⟩
theorem c63 : cFn Tryd.prog [] Tryd.f63 = some h63 := by kernel_rfl
/-- (*stint/answers.cursor).name -/
def h64 : HFn :=
  ⟨73, [(.tmp 2)],
    (.seq (.region [
      ⟨(some 2), (.op (.mv (.cst (.str [])))), none⟩] [])
    (.seq (.region [
      ⟨(some 4), (.op (.mv (.tmp 0))), none⟩,
      ⟨(some 5), (.op (.nilc (.tmp 4))), none⟩,
      ⟨(some 6), (.op (.faddr 1 (.tmp 5))), none⟩,
      ⟨(some 7), (.op (.load none (.tmp 6))), none⟩,
      ⟨(some 3), (.op (.mv (.tmp 7))), none⟩] [])
    (.seq (.block 0
      (.loop
        (.seq (.seq (.draw [
          ⟨(some 8), (.op (.mv (.tmp 0))), none⟩,
          ⟨(some 9), (.op (.nilc (.tmp 8))), none⟩,
          ⟨(some 10), (.op (.faddr 2 (.tmp 9))), none⟩,
          ⟨(some 11), (.op (.load none (.tmp 10))), none⟩,
          ⟨(some 12), (.op (.un .not (.tmp 11))), none⟩,
          ⟨(some 13), (.op (.mv (.tmp 12))), none⟩,
          ⟨(some 14), (.op (.mv (.tmp 0))), (some (13, true))⟩,
          ⟨(some 15), (.op (.nilc (.tmp 14))), (some (13, true))⟩,
          ⟨(some 16), (.op (.faddr 1 (.tmp 15))), (some (13, true))⟩,
          ⟨(some 17), (.op (.load none (.tmp 16))), (some (13, true))⟩,
          ⟨(some 18), (.op (.mv (.tmp 0))), (some (13, true))⟩,
          ⟨(some 19), (.op (.nilc (.tmp 18))), (some (13, true))⟩,
          ⟨(some 20), (.op (.faddr 0 (.tmp 19))), (some (13, true))⟩,
          ⟨(some 21), (.op (.load none (.tmp 20))), (some (13, true))⟩,
          ⟨(some 22), (.op (.len .slice (.tmp 21))), (some (13, true))⟩,
          ⟨(some 23), (.op (.bin .lss none (.tmp 17) (.tmp 22))), (some (13, true))⟩,
          ⟨(some 24), (.op (.pick (.tmp 13) (.tmp 23) (.cst (.bool false)))), none⟩,
          ⟨(some 25), (.op (.mv (.tmp 24))), none⟩,
          ⟨(some 26), (.op (.mv (.tmp 0))), (some (25, true))⟩,
          ⟨(some 27), (.op (.nilc (.tmp 26))), (some (25, true))⟩,
          ⟨(some 28), (.op (.faddr 0 (.tmp 27))), (some (25, true))⟩,
          ⟨(some 29), (.op (.load none (.tmp 28))), (some (25, true))⟩,
          ⟨(some 30), (.op (.mv (.tmp 3))), (some (25, true))⟩,
          ⟨(some 31), (.op (.mv (.tmp 0))), (some (25, true))⟩,
          ⟨(some 32), (.op (.nilc (.tmp 31))), (some (25, true))⟩,
          ⟨(some 33), (.op (.faddr 1 (.tmp 32))), (some (25, true))⟩,
          ⟨(some 34), (.op (.load none (.tmp 33))), (some (25, true))⟩,
          ⟨(some 35), (.op (.bin .add none (.tmp 34) (.cst (.int .i64 1)))), (some (25, true))⟩,
          ⟨(some 36), (.op (.sliceSl 1 (.tmp 29) (some (.tmp 30)) (some (.tmp 35)) none)), (some (25, true))⟩,
          ⟨(some 37), (.op (.b2s (.tmp 36))), (some (25, true))⟩,
          ⟨(some 38), (.call (.cst (.func (.func 37) [] [])) [(.tmp 37)]), (some (25, true))⟩,
          ⟨(some 39), (.op (.pick (.tmp 25) (.tmp 38) (.cst (.bool false)))), none⟩] [0, 1, 2, 3, 4, 5, 6, 7, 8, 9, 10, 11, 12, 13, 14, 15, 16, 17, 18, 19, 20, 21, 22, 23, 24, 25, 26, 27, 28, 29, 30, 31] [[], [], [], [], [], [], [], [], [], [], [], [], [], [], [], [], [], [], [], [], [], [], [], [], [], [], [], [], [], [], [29, 28, 21, 3, 9, 14, 13, 26], []] [])
        (.cond (.tmp 39)
          .skip
          (.exit 0)))
        (.block 1
          (.region [
            ⟨(some 40), (.op (.mv (.tmp 0))), none⟩,
            ⟨(some 41), (.op (.nilc (.tmp 40))), none⟩,
            ⟨(some 42), (.op (.faddr 1 (.tmp 41))), none⟩,
            ⟨(some 43), (.op (.load none (.tmp 42))), none⟩,
            ⟨(some 44), (.op (.bin .add none (.tmp 43) (.cst (.int .i64 1)))), none⟩,
            ⟨(some 45), (.op (.nilc (.tmp 40))), none⟩,
            ⟨(some 46), (.op (.faddr 1 (.tmp 45))), none⟩,
            ⟨none, (.op (.store 1 (.tmp 46) (.tmp 44))), none⟩] [])))))
    (.seq (.region [
      ⟨(some 47), (.op (.mv (.tmp 0))), none⟩,
      ⟨(some 48), (.op (.mv (.tmp 0))), none⟩,
      ⟨(some 49), (.op (.nilc (.tmp 48))), none⟩,
      ⟨(some 50), (.op (.faddr 2 (.tmp 49))), none⟩,
      ⟨(some 51), (.op (.load none (.tmp 50))), none⟩,
      ⟨(some 52), (.op (.mv (.tmp 51))), none⟩,
      ⟨(some 53), (.op (.mv (.tmp 0))), (some (52, false))⟩,
      ⟨(some 54), (.op (.nilc (.tmp 53))), (some (52, false))⟩,
      ⟨(some 55), (.op (.faddr 1 (.tmp 54))), (some (52, false))⟩,
      ⟨(some 56), (.op (.load none (.tmp 55))), (some (52, false))⟩,
      ⟨(some 57), (.op (.mv (.tmp 3))), (some (52, false))⟩,
      ⟨(some 58), (.op (.bin .eql (some .int) (.tmp 56) (.tmp 57))), (some (52, false))⟩,
      ⟨(some 59), (.op (.pick (.tmp 52) (.cst (.bool true)) (.tmp 58))), none⟩,
      ⟨(some 60), (.op (.nilc (.tmp 47))), none⟩,
      ⟨(some 61), (.op (.faddr 2 (.tmp 60))), none⟩,
      ⟨none, (.op (.store 1 (.tmp 61) (.tmp 59))), none⟩] [])
    (.seq (.draw [
      ⟨(some 62), (.op (.mv (.tmp 0))), none⟩,
      ⟨(some 63), (.op (.nilc (.tmp 62))), none⟩,
      ⟨(some 64), (.op (.faddr 0 (.tmp 63))), none⟩,
      ⟨(some 65), (.op (.load none (.tmp 64))), none⟩,
      ⟨(some 66), (.op (.mv (.tmp 3))), none⟩,
      ⟨(some 67), (.op (.mv (.tmp 0))), none⟩,
      ⟨(some 68), (.op (.nilc (.tmp 67))), none⟩,
      ⟨(some 69), (.op (.faddr 1 (.tmp 68))), none⟩,
      ⟨(some 70), (.op (.load none (.tmp 69))), none⟩,
      ⟨(some 71), (.op (.sliceSl 1 (.tmp 65) (some (.tmp 66)) (some (.tmp 70)) none)), none⟩,
      ⟨(some 72), (.op (.b2s (.tmp 71))), none⟩,
      ⟨(some 2), (.op (.mv (.tmp 72))), none⟩] [0, 1, 2, 3, 4, 5, 6, 7, 8, 9, 10, 11] [[], [], [], [], [], [], [], [], [], [], [], []] [])
    .ret)))))⟩
theorem c64 : cFn Tryd.prog [] Tryd.f64 = some h64 := by kernel_rfl
/-- internal/stringslite.IndexByte -/
def h68 : HFn :=
  ⟨8, [(.tmp 4)],
    (.seq (.region [
      ⟨(some 4), (.op (.mv (.cst (.int .i64 0)))), none⟩] [])
    (.seq (.region [
      ⟨(some 5), (.op (.mv (.tmp 0))), none⟩,
      ⟨(some 6), (.op (.mv (.tmp 1))), none⟩,
      ⟨(some 7), (.call (.cst (.func (.func 73) [] [])) [(.tmp 5), (.tmp 6)]), none⟩,
      ⟨(some 4), (.op (.mv (.tmp 7))), none⟩] [])
    .ret))⟩
theorem c68 : cFn Tryd.prog [] Tryd.f68 = some h68 := by kernel_rfl
/-- internal/strconv.FormatInt -/
def h69 : HFn :=
  ⟨54, [(.tmp 4)],
    (.seq (.region [
      ⟨(some 4), (.op (.mv (.cst (.str [])))), none⟩] [])
    (.seq (.seq (.region [
      ⟨(some 10), (.op (.mv (.tmp 1))), none⟩,
      ⟨(some 11), (.op (.bin .eql (some .int) (.tmp 10) (.cst (.int .i64 10)))), none⟩] [])
    (.cond (.tmp 11)
      (.seq (.seq (.region [
        ⟨(some 12), (.op (.mv (.tmp 0))), none⟩,
        ⟨(some 13), (.op (.bin .leq none (.cst (.int .i64 0)) (.tmp 12))), none⟩,
        ⟨(some 14), (.op (.mv (.tmp 13))), none⟩,
        ⟨(some 15), (.op (.mv (.tmp 0))), (some (14, true))⟩,
        ⟨(some 16), (.op (.bin .lss none (.tmp 15) (.cst (.int .i64 100)))), (some (14, true))⟩,
        ⟨(some 17), (.op (.pick (.tmp 14) (.tmp 16) (.cst (.bool false)))), none⟩] [])
      (.cond (.tmp 17)
        (.seq (.region [
          ⟨(some 18), (.op (.mv (.tmp 0))), none⟩,
          ⟨(some 19), (.call (.cst (.func (.func 74) [] [])) [(.tmp 18)]), none⟩,
          ⟨(some 4), (.op (.mv (.tmp 19))), none⟩] [])
        .ret)
        .skip))
      (.seq (.region [
        ⟨(some 5), (.op (.box (.cst (.agg [(.int .u8 0), (.int .u8 0), (.int .u8 0), (.int .u8 0), (.int .u8 0), (.int .u8 0), (.int .u8 0), (.int .u8 0), (.int .u8 0), (.int .u8 0), (.int .u8 0), (.int .u8 0), (.int .u8 0), (.int .u8 0), (.int .u8 0), (.int .u8 0), (.int .u8 0), (.int .u8 0), (.int .u8 0), (.int .u8 0), (.int .u8 0), (.int .u8 0), (.int .u8 0), (.int .u8 0)])))), none⟩] [])
      (.seq (.region [
        ⟨(some 20), (.op (.mv (.tmp 0))), none⟩,
        ⟨(some 21), (.op (.cInt .u64 (.tmp 20))), none⟩,
        ⟨(some 6), (.op (.mv (.tmp 21))), none⟩] [])
      (.seq (.seq (.region [
        ⟨(some 22), (.op (.mv (.tmp 0))), none⟩,
        ⟨(some 23), (.op (.bin .lss none (.tmp 22) (.cst (.int .i64 0)))), none⟩] [])
      (.cond (.tmp 23)
        (.region [
          ⟨(some 24), (.op (.mv (.tmp 6))), none⟩,
          ⟨(some 25), (.op (.un .neg (.tmp 24))), none⟩,
          ⟨(some 6), (.op (.mv (.tmp 25))), none⟩] [])
        .skip))
      (.seq (.region [
        ⟨(some 26), (.op (.mv (.tmp 6))), none⟩,
        ⟨(some 27), (.call (.cst (.func (.func 75) [] [])) [(.tmp 26)]), none⟩,
        ⟨(some 7), (.op (.mv (.tmp 27))), none⟩] [])
      (.seq (.region [
        ⟨(some 28), (.op (.mv (.tmp 7))), none⟩,
        ⟨(some 29), (.op (.bin .add none (.cst (.int .i64 1)) (.tmp 28))), none⟩,
        ⟨(some 30), (.op (.sliceArr 24 1 (.tmp 5) (some (.cst (.int .i64 1))) (some (.tmp 29)) none)), none⟩,
        ⟨(some 31), (.op (.mv (.tmp 6))), none⟩,
        ⟨(some 32), (.call (.cst (.func (.func 76) [] [])) [(.tmp 30), (.tmp 31)]), none⟩] [])
      (.seq (.seq (.region [
        ⟨(some 33), (.op (.mv (.tmp 0))), none⟩,
        ⟨(some 34), (.op (.bin .lss none (.tmp 33) (.cst (.int .i64 0)))), none⟩] [])
      (.cond (.tmp 34)
        (.seq (.region [
          ⟨(some 35), (.op (.idxA 24 1 (.tmp 5) (.cst (.int .i64 0)))), none⟩,
          ⟨none, (.op (.store 1 (.tmp 35) (.cst (.int .u8 45)))), none⟩] [])
        (.seq (.region [
          ⟨(some 36), (.op (.mv (.tmp 7))), none⟩,
          ⟨(some 37), (.op (.bin .add none (.cst (.int .i64 1)) (.tmp 36))), none⟩,
          ⟨(some 38), (.op (.sliceArr 24 1 (.tmp 5) none (some (.tmp 37)) none)), none⟩,
          ⟨(some 39), (.op (.b2s (.tmp 38))), none⟩,
          ⟨(some 4), (.op (.mv (.tmp 39))), none⟩] [])
        .ret))
        .skip))
      (.seq (.region [
        ⟨(some 40), (.op (.mv (.tmp 7))), none⟩,
        ⟨(some 41), (.op (.bin .add none (.cst (.int .i64 1)) (.tmp 40))), none⟩,
        ⟨(some 42), (.op (.sliceArr 24 1 (.tmp 5) (some (.cst (.int .i64 1))) (some (.tmp 41)) none)), none⟩,
        ⟨(some 43), (.op (.b2s (.tmp 42))), none⟩,
        ⟨(some 4), (.op (.mv (.tmp 43))), none⟩] [])
      .ret))))))))
      .skip))
    (.seq (.region [
      ⟨(some 45), (.op (.mv (.tmp 0))), none⟩,
      ⟨(some 46), (.op (.cInt .u64 (.tmp 45))), none⟩,
      ⟨(some 47), (.op (.mv (.tmp 1))), none⟩,
      ⟨(some 48), (.op (.mv (.tmp 0))), none⟩,
      ⟨(some 49), (.op (.bin .lss none (.tmp 48) (.cst (.int .i64 0)))), none⟩,
      ⟨(some 50), (.call (.cst (.func (.func 77) [] [])) [(.cst .nilSlice), (.tmp 46), (.tmp 47), (.tmp 49), (.cst (.bool false))]), none⟩,
      ⟨(some 44), (.op (.mv (.tmp 50))), none⟩,
      ⟨(some 51), (.op (.ext 0 (.tmp 44))), none⟩,
      ⟨(some 52), (.op (.ext 1 (.tmp 44))), none⟩,
      ⟨(some 8), (.op (.mv (.tmp 51))), none⟩,
      ⟨(some 9), (.op (.mv (.tmp 52))), none⟩] [])
    (.seq (.region [
      ⟨(some 53), (.op (.mv (.tmp 9))), none⟩,
      ⟨(some 4), (.op (.mv (.tmp 53))), none⟩] [])
    .ret))))⟩
theorem c69 : cFn Tryd.prog [] Tryd.f69 = some h69 := by kernel_rfl
/-- internal/strconv.small -/
def h74 : HFn :=
  ⟨15, [(.tmp 2)],
    (.seq (.region [
      ⟨(some 2), (.op (.mv (.cst (.str [])))), none⟩] [])
    (.seq (.seq (.region [
      ⟨(some 3), (.op (.mv (.tmp 0))), none⟩,
      ⟨(some 4), (.op (.bin .lss none (.tmp 3) (.cst (.int .i64 10)))), none⟩] [])
    (.cond (.tmp 4)
      (.seq (.region [
        ⟨(some 5), (.op (.mv (.tmp 0))), none⟩,
        ⟨(some 6), (.op (.mv (.tmp 0))), none⟩,
        ⟨(some 7), (.op (.bin .add none (.tmp 6) (.cst (.int .i64 1)))), none⟩,
        ⟨(some 8), (.op (.sliceStr (.cst (.str [48, 49, 50, 51, 52, 53, 54, 55, 56, 57, 97, 98, 99, 100, 101, 102, 103, 104, 105, 106, 107, 108, 109, 110, 111, 112, 113, 114, 115, 116, 117, 118, 119, 120, 121, 122])) (some (.tmp 5)) (some (.tmp 7)))), none⟩,
        ⟨(some 2), (.op (.mv (.tmp 8))), none⟩] [])
      .ret)
      .skip))
    (.seq (.region [
      ⟨(some 9), (.op (.mv (.tmp 0))), none⟩,
      ⟨(some 10), (.op (.bin .mul none (.tmp 9) (.cst (.int .i64 2)))), none⟩,
      ⟨(some 11), (.op (.mv (.tmp 0))), none⟩,
      ⟨(some 12), (.op (.bin .mul none (.tmp 11) (.cst (.int .i64 2)))), none⟩,
      ⟨(some 13), (.op (.bin .add none (.tmp 12) (.cst (.int .i64 2)))), none⟩,
      ⟨(some 14), (.op (.sliceStr (.cst (.str [48, 48, 48, 49, 48, 50, 48, 51, 48, 52, 48, 53, 48, 54, 48, 55, 48, 56, 48, 57, 49, 48, 49, 49, 49, 50, 49, 51, 49, 52, 49, 53, 49, 54, 49, 55, 49, 56, 49, 57, 50, 48, 50, 49, 50, 50, 50, 51, 50, 52, 50, 53, 50, 54, 50, 55, 50, 56, 50, 57, 51, 48, 51, 49, 51, 50, 51, 51, 51, 52, 51, 53, 51, 54, 51, 55, 51, 56, 51, 57, 52, 48, 52, 49, 52, 50, 52, 51, 52, 52, 52, 53, 52, 54, 52, 55, 52, 56, 52, 57, 53, 48, 53, 49, 53, 50, 53, 51, 53, 52, 53, 53, 53, 54, 53, 55, 53, 56, 53, 57, 54, 48, 54, 49, 54, 50, 54, 51, 54, 52, 54, 53, 54, 54, 54, 55, 54, 56, 54, 57, 55, 48, 55, 49, 55, 50, 55, 51, 55, 52, 55, 53, 55, 54, 55, 55, 55, 56, 55, 57, 56, 48, 56, 49, 56, 50, 56, 51, 56, 52, 56, 53, 56, 54, 56, 55, 56, 56, 56, 57, 57, 48, 57, 49, 57, 50, 57, 51, 57, 52, 57, 53, 57, 54, 57, 55, 57, 56, 57, 57])) (some (.tmp 10)) (some (.tmp 13)))), none⟩,
      ⟨(some 2), (.op (.mv (.tmp 14))), none⟩] [])
    .ret)))⟩
theorem c74 : cFn Tryd.prog [] Tryd.f74 = some h74 := by kernel_rfl
/-- internal/strconv.numDigits -/
def h75 : HFn :=
  ⟨15, [(.tmp 2)],
    (.seq (.region [
      ⟨(some 2), (.op (.mv (.cst (.int .i64 0)))), none⟩] [])
    (.seq (.region [
      ⟨(some 4), (.op (.mv (.tmp 0))), none⟩,
      ⟨(some 5), (.call (.cst (.func (.func 80) [] [])) [(.tmp 4)]), none⟩,
      ⟨(some 6), (.call (.cst (.func (.func 79) [] [])) [(.tmp 5)]), none⟩,
      ⟨(some 3), (.op (.mv (.tmp 6))), none⟩] [])
    (.seq (.region [
      ⟨(some 7), (.op (.mv (.tmp 3))), none⟩,
      ⟨(some 8), (.op (.mv (.tmp 0))), none⟩,
      ⟨(some 9), (.op (.mv (.tmp 3))), none⟩,
      ⟨(some 10), (.op (.gidxA 20 1 1 (.tmp 9))), none⟩,
      ⟨(some 11), (.op (.load none (.tmp 10))), none⟩,
      ⟨(some 12), (.op (.bin .geq none (.tmp 8) (.tmp 11))), none⟩,
      ⟨(some 13), (.call (.cst (.func (.func 81) [] [])) [(.tmp 12)]), none⟩,
      ⟨(some 14), (.op (.bin .add none (.tmp 7) (.tmp 13))), none⟩,
      ⟨(some 2), (.op (.mv (.tmp 14))), none⟩] [])
    .ret)))⟩
theorem c75 : cFn Tryd.prog [] Tryd.f75 = some h75 := by kernel_rfl
/-- internal/strconv.formatBase10 -/
def h76 : HFn :=
  ⟨167, [],
    (.seq (.region [
      ⟨(some 17), (.op (.mv (.tmp 0))), none⟩,
      ⟨(some 18), (.op (.len .slice (.tmp 17))), none⟩,
      ⟨(some 4), (.op (.mv (.tmp 18))), none⟩] [])
    (.seq (.block 0
      (.loop
        (.seq (.seq (.region [
          ⟨(some 19), (.op (.mv (.tmp 4))), none⟩,
          ⟨(some 20), (.op (.bin .geq none (.tmp 19) (.cst (.int .i64 8)))), none⟩] [])
        (.cond (.tmp 20)
          .skip
          (.exit 0)))
        (.block 1
          (.seq (.region [
            ⟨(some 21), (.op (.mv (.tmp 1))), none⟩,
            ⟨(some 22), (.op (.bin .rem none (.tmp 21) (.cst (.int .u64 100000000)))), none⟩,
            ⟨(some 23), (.op (.cInt .u32 (.tmp 22))), none⟩,
            ⟨(some 5), (.op (.mv (.tmp 23))), none⟩] [])
          (.seq (.region [
            ⟨(some 24), (.op (.mv (.tmp 1))), none⟩,
            ⟨(some 25), (.op (.bin .quo none (.tmp 24) (.cst (.int .u64 100000000)))), none⟩,
            ⟨(some 1), (.op (.mv (.tmp 25))), none⟩] [])
          (.seq (.region [
            ⟨(some 26), (.op (.mv (.tmp 5))), none⟩,
            ⟨(some 27), (.op (.bin .quo none (.tmp 26) (.cst (.int .u32 10000)))), none⟩,
            ⟨(some 28), (.op (.mv (.tmp 5))), none⟩,
            ⟨(some 29), (.op (.bin .rem none (.tmp 28) (.cst (.int .u32 10000)))), none⟩,
            ⟨(some 6), (.op (.mv (.tmp 27))), none⟩,
            ⟨(some 7), (.op (.mv (.tmp 29))), none⟩] [])
          (.seq (.region [
            ⟨(some 30), (.op (.mv (.tmp 7))), none⟩,
            ⟨(some 31), (.op (.bin .quo none (.tmp 30) (.cst (.int .u32 100)))), none⟩,
            ⟨(some 32), (.op (.bin .mul none (.tmp 31) (.cst (.int .u32 2)))), none⟩,
            ⟨(some 33), (.op (.mv (.tmp 7))), none⟩,
            ⟨(some 34), (.op (.bin .rem none (.tmp 33) (.cst (.int .u32 100)))), none⟩,
            ⟨(some 35), (.op (.bin .mul none (.tmp 34) (.cst (.int .u32 2)))), none⟩,
            ⟨(some 8), (.op (.mv (.tmp 32))), none⟩,
            ⟨(some 9), (.op (.mv (.tmp 35))), none⟩] [])
          (.seq (.region [
            ⟨(some 36), (.op (.mv (.tmp 6))), none⟩,
            ⟨(some 37), (.op (.bin .quo none (.tmp 36) (.cst (.int .u32 100)))), none⟩,
            ⟨(some 38), (.op (.bin .mul none (.tmp 37) (.cst (.int .u32 2)))), none⟩,
            ⟨(some 39), (.op (.mv (.tmp 6))), none⟩,
            ⟨(some 40), (.op (.bin .rem none (.tmp 39) (.cst (.int .u32 100)))), none⟩,
            ⟨(some 41), (.op (.bin .mul none (.tmp 40) (.cst (.int .u32 2)))), none⟩,
            ⟨(some 10), (.op (.mv (.tmp 38))), none⟩,
            ⟨(some 11), (.op (.mv (.tmp 41))), none⟩] [])
          (.seq (.draw [
            ⟨(some 42), (.op (.mv (.tmp 0))), none⟩,
            ⟨(some 43), (.op (.mv (.tmp 4))), none⟩,
            ⟨(some 44), (.op (.bin .sub none (.tmp 43) (.cst (.int .i64 1)))), none⟩,
            ⟨(some 45), (.op (.mv (.tmp 0))), none⟩,
            ⟨(some 46), (.op (.mv (.tmp 4))), none⟩,
            ⟨(some 47), (.op (.bin .sub none (.tmp 46) (.cst (.int .i64 2)))), none⟩,
            ⟨(some 48), (.op (.mv (.tmp 9))), none⟩,
            ⟨(some 49), (.op (.bin .add none (.tmp 48) (.cst (.int .u32 1)))), none⟩,
            ⟨(some 50), (.op (.idxStr (.cst (.str [48, 48, 48, 49, 48, 50, 48, 51, 48, 52, 48, 53, 48, 54, 48, 55, 48, 56, 48, 57, 49, 48, 49, 49, 49, 50, 49, 51, 49, 52, 49, 53, 49, 54, 49, 55, 49, 56, 49, 57, 50, 48, 50, 49, 50, 50, 50, 51, 50, 52, 50, 53, 50, 54, 50, 55, 50, 56, 50, 57, 51, 48, 51, 49, 51, 50, 51, 51, 51, 52, 51, 53, 51, 54, 51, 55, 51, 56, 51, 57, 52, 48, 52, 49, 52, 50, 52, 51, 52, 52, 52, 53, 52, 54, 52, 55, 52, 56, 52, 57, 53, 48, 53, 49, 53, 50, 53, 51, 53, 52, 53, 53, 53, 54, 53, 55, 53, 56, 53, 57, 54, 48, 54, 49, 54, 50, 54, 51, 54, 52, 54, 53, 54, 54, 54, 55, 54, 56, 54, 57, 55, 48, 55, 49, 55, 50, 55, 51, 55, 52, 55, 53, 55, 54, 55, 55, 55, 56, 55, 57, 56, 48, 56, 49, 56, 50, 56, 51, 56, 52, 56, 53, 56, 54, 56, 55, 56, 56, 56, 57, 57, 48, 57, 49, 57, 50, 57, 51, 57, 52, 57, 53, 57, 54, 57, 55, 57, 56, 57, 57])) (.tmp 49))), none⟩,
            ⟨(some 51), (.op (.mv (.tmp 9))), none⟩,
            ⟨(some 52), (.op (.idxStr (.cst (.str [48, 48, 48, 49, 48, 50, 48, 51, 48, 52, 48, 53, 48, 54, 48, 55, 48, 56, 48, 57, 49, 48, 49, 49, 49, 50, 49, 51, 49, 52, 49, 53, 49, 54, 49, 55, 49, 56, 49, 57, 50, 48, 50, 49, 50, 50, 50, 51, 50, 52, 50, 53, 50, 54, 50, 55, 50, 56, 50, 57, 51, 48, 51, 49, 51, 50, 51, 51, 51, 52, 51, 53, 51, 54, 51, 55, 51, 56, 51, 57, 52, 48, 52, 49, 52, 50, 52, 51, 52, 52, 52, 53, 52, 54, 52, 55, 52, 56, 52, 57, 53, 48, 53, 49, 53, 50, 53, 51, 53, 52, 53, 53, 53, 54, 53, 55, 53, 56, 53, 57, 54, 48, 54, 49, 54, 50, 54, 51, 54, 52, 54, 53, 54, 54, 54, 55, 54, 56, 54, 57, 55, 48, 55, 49, 55, 50, 55, 51, 55, 52, 55, 53, 55, 54, 55, 55, 55, 56, 55, 57, 56, 48, 56, 49, 56, 50, 56, 51, 56, 52, 56, 53, 56, 54, 56, 55, 56, 56, 56, 57, 57, 48, 57, 49, 57, 50, 57, 51, 57, 52, 57, 53, 57, 54, 57, 55, 57, 56, 57, 57])) (.tmp 51))), none⟩,
            ⟨(some 53), (.op (.idxS 1 (.tmp 42) (.tmp 44))), none⟩,
            ⟨none, (.op (.store 1 (.tmp 53) (.tmp 50))), none⟩,
            ⟨(some 54), (.op (.idxS 1 (.tmp 45) (.tmp 47))), none⟩,
            ⟨none, (.op (.store 1 (.tmp 54) (.tmp 52))), none⟩] [0, 1, 2, 3, 4, 5, 6, 7, 8, 9, 10, 11, 12, 13, 14] [[], [], [], [], [], [], [], [], [], [], [], [], [11], [], [13, 11]] [])
          (.seq (.draw [
            ⟨(some 55), (.op (.mv (.tmp 0))), none⟩,
            ⟨(some 56), (.op (.mv (.tmp 4))), none⟩,
            ⟨(some 57), (.op (.bin .sub none (.tmp 56) (.cst (.int .i64 3)))), none⟩,
            ⟨(some 58), (.op (.mv (.tmp 0))), none⟩,
            ⟨(some 59), (.op (.mv (.tmp 4))), none⟩,
            ⟨(some 60), (.op (.bin .sub none (.tmp 59) (.cst (.int .i64 4)))), none⟩,
            ⟨(some 61), (.op (.mv (.tmp 8))), none⟩,
            ⟨(some 62), (.op (.bin .add none (.tmp 61) (.cst (.int .u32 1)))), none⟩,
            ⟨(some 63), (.op (.idxStr (.cst (.str [48, 48, 48, 49, 48, 50, 48, 51, 48, 52, 48, 53, 48, 54, 48, 55, 48, 56, 48, 57, 49, 48, 49, 49, 49, 50, 49, 51, 49, 52, 49, 53, 49, 54, 49, 55, 49, 56, 49, 57, 50, 48, 50, 49, 50, 50, 50, 51, 50, 52, 50, 53, 50, 54, 50, 55, 50, 56, 50, 57, 51, 48, 51, 49, 51, 50, 51, 51, 51, 52, 51, 53, 51, 54, 51, 55, 51, 56, 51, 57, 52, 48, 52, 49, 52, 50, 52, 51, 52, 52, 52, 53, 52, 54, 52, 55, 52, 56, 52, 57, 53, 48, 53, 49, 53, 50, 53, 51, 53, 52, 53, 53, 53, 54, 53, 55, 53, 56, 53, 57, 54, 48, 54, 49, 54, 50, 54, 51, 54, 52, 54, 53, 54, 54, 54, 55, 54, 56, 54, 57, 55, 48, 55, 49, 55, 50, 55, 51, 55, 52, 55, 53, 55, 54, 55, 55, 55, 56, 55, 57, 56, 48, 56, 49, 56, 50, 56, 51, 56, 52, 56, 53, 56, 54, 56, 55, 56, 56, 56, 57, 57, 48, 57, 49, 57, 50, 57, 51, 57, 52, 57, 53, 57, 54, 57, 55, 57, 56, 57, 57])) (.tmp 62))), none⟩,
            ⟨(some 64), (.op (.mv (.tmp 8))), none⟩,
            ⟨(some 65), (.op (.idxStr (.cst (.str [48, 48, 48, 49, 48, 50, 48, 51, 48, 52, 48, 53, 48, 54, 48, 55, 48, 56, 48, 57, 49, 48, 49, 49, 49, 50, 49, 51, 49, 52, 49, 53, 49, 54, 49, 55, 49, 56, 49, 57, 50, 48, 50, 49, 50, 50, 50, 51, 50, 52, 50, 53, 50, 54, 50, 55, 50, 56, 50, 57, 51, 48, 51, 49, 51, 50, 51, 51, 51, 52, 51, 53, 51, 54, 51, 55, 51, 56, 51, 57, 52, 48, 52, 49, 52, 50, 52, 51, 52, 52, 52, 53, 52, 54, 52, 55, 52, 56, 52, 57, 53, 48, 53, 49, 53, 50, 53, 51, 53, 52, 53, 53, 53, 54, 53, 55, 53, 56, 53, 57, 54, 48, 54, 49, 54, 50, 54, 51, 54, 52, 54, 53, 54, 54, 54, 55, 54, 56, 54, 57, 55, 48, 55, 49, 55, 50, 55, 51, 55, 52, 55, 53, 55, 54, 55, 55, 55, 56, 55, 57, 56, 48, 56, 49, 56, 50, 56, 51, 56, 52, 56, 53, 56, 54, 56, 55, 56, 56, 56, 57, 57, 48, 57, 49, 57, 50, 57, 51, 57, 52, 57, 53, 57, 54, 57, 55, 57, 56, 57, 57])) (.tmp 64))), none⟩,
            ⟨(some 66), (.op (.idxS 1 (.tmp 55) (.tmp 57))), none⟩,
            ⟨none, (.op (.store 1 (.tmp 66) (.tmp 63))), none⟩,
            ⟨(some 67), (.op (.idxS 1 (.tmp 58) (.tmp 60))), none⟩,
            ⟨none, (.op (.store 1 (.tmp 67) (.tmp 65))), none⟩] [0, 1, 2, 3, 4, 5, 6, 7, 8, 9, 10, 11, 12, 13, 14] [[], [], [], [], [], [], [], [], [], [], [], [], [11], [], [13, 11]] [])
          (.seq (.draw [
            ⟨(some 68), (.op (.mv (.tmp 0))), none⟩,
            ⟨(some 69), (.op (.mv (.tmp 4))), none⟩,
            ⟨(some 70), (.op (.bin .sub none (.tmp 69) (.cst (.int .i64 5)))), none⟩,
            ⟨(some 71), (.op (.mv (.tmp 0))), none⟩,
            ⟨(some 72), (.op (.mv (.tmp 4))), none⟩,
            ⟨(some 73), (.op (.bin .sub none (.tmp 72) (.cst (.int .i64 6)))), none⟩,
            ⟨(some 74), (.op (.mv (.tmp 11))), none⟩,
            ⟨(some 75), (.op (.bin .add none (.tmp 74) (.cst (.int .u32 1)))), none⟩,
            ⟨(some 76), (.op (.idxStr (.cst (.str [48, 48, 48, 49, 48, 50, 48, 51, 48, 52, 48, 53, 48, 54, 48, 55, 48, 56, 48, 57, 49, 48, 49, 49, 49, 50, 49, 51, 49, 52, 49, 53, 49, 54, 49, 55, 49, 56, 49, 57, 50, 48, 50, 49, 50, 50, 50, 51, 50, 52, 50, 53, 50, 54, 50, 55, 50, 56, 50, 57, 51, 48, 51, 49, 51, 50, 51, 51, 51, 52, 51, 53, 51, 54, 51, 55, 51, 56, 51, 57, 52, 48, 52, 49, 52, 50, 52, 51, 52, 52, 52, 53, 52, 54, 52, 55, 52, 56, 52, 57, 53, 48, 53, 49, 53, 50, 53, 51, 53, 52, 53, 53, 53, 54, 53, 55, 53, 56, 53, 57, 54, 48, 54, 49, 54, 50, 54, 51, 54, 52, 54, 53, 54, 54, 54, 55, 54, 56, 54, 57, 55, 48, 55, 49, 55, 50, 55, 51, 55, 52, 55, 53, 55, 54, 55, 55, 55, 56, 55, 57, 56, 48, 56, 49, 56, 50, 56, 51, 56, 52, 56, 53, 56, 54, 56, 55, 56, 56, 56, 57, 57, 48, 57, 49, 57, 50, 57, 51, 57, 52, 57, 53, 57, 54, 57, 55, 57, 56, 57, 57])) (.tmp 75))), none⟩,
            ⟨(some 77), (.op (.mv (.tmp 11))), none⟩,
            ⟨(some 78), (.op (.idxStr (.cst (.str [48, 48, 48, 49, 48, 50, 48, 51, 48, 52, 48, 53, 48, 54, 48, 55, 48, 56, 48, 57, 49, 48, 49, 49, 49, 50, 49, 51, 49, 52, 49, 53, 49, 54, 49, 55, 49, 56, 49, 57, 50, 48, 50, 49, 50, 50, 50, 51, 50, 52, 50, 53, 50, 54, 50, 55, 50, 56, 50, 57, 51, 48, 51, 49, 51, 50, 51, 51, 51, 52, 51, 53, 51, 54, 51, 55, 51, 56, 51, 57, 52, 48, 52, 49, 52, 50, 52, 51, 52, 52, 52, 53, 52, 54, 52, 55, 52, 56, 52, 57, 53, 48, 53, 49, 53, 50, 53, 51, 53, 52, 53, 53, 53, 54, 53, 55, 53, 56, 53, 57, 54, 48, 54, 49, 54, 50, 54, 51, 54, 52, 54, 53, 54, 54, 54, 55, 54, 56, 54, 57, 55, 48, 55, 49, 55, 50, 55, 51, 55, 52, 55, 53, 55, 54, 55, 55, 55, 56, 55, 57, 56, 48, 56, 49, 56, 50, 56, 51, 56, 52, 56, 53, 56, 54, 56, 55, 56, 56, 56, 57, 57, 48, 57, 49, 57, 50, 57, 51, 57, 52, 57, 53, 57, 54, 57, 55, 57, 56, 57, 57])) (.tmp 77))), none⟩,
            ⟨(some 79), (.op (.idxS 1 (.tmp 68) (.tmp 70))), none⟩,
            ⟨none, (.op (.store 1 (.tmp 79) (.tmp 76))), none⟩,
            ⟨(some 80), (.op (.idxS 1 (.tmp 71) (.tmp 73))), none⟩,
            ⟨none, (.op (.store 1 (.tmp 80) (.tmp 78))), none⟩] [0, 1, 2, 3, 4, 5, 6, 7, 8, 9, 10, 11, 12, 13, 14] [[], [], [], [], [], [], [], [], [], [], [], [], [11], [], [13, 11]] [])
          (.seq (.draw [
            ⟨(some 81), (.op (.mv (.tmp 0))), none⟩,
            ⟨(some 82), (.op (.mv (.tmp 4))), none⟩,
            ⟨(some 83), (.op (.bin .sub none (.tmp 82) (.cst (.int .i64 7)))), none⟩,
            ⟨(some 84), (.op (.mv (.tmp 0))), none⟩,
            ⟨(some 85), (.op (.mv (.tmp 4))), none⟩,
            ⟨(some 86), (.op (.bin .sub none (.tmp 85) (.cst (.int .i64 8)))), none⟩,
            ⟨(some 87), (.op (.mv (.tmp 10))), none⟩,
            ⟨(some 88), (.op (.bin .add none (.tmp 87) (.cst (.int .u32 1)))), none⟩,
            ⟨(some 89), (.op (.idxStr (.cst (.str [48, 48, 48, 49, 48, 50, 48, 51, 48, 52, 48, 53, 48, 54, 48, 55, 48, 56, 48, 57, 49, 48, 49, 49, 49, 50, 49, 51, 49, 52, 49, 53, 49, 54, 49, 55, 49, 56, 49, 57, 50, 48, 50, 49, 50, 50, 50, 51, 50, 52, 50, 53, 50, 54, 50, 55, 50, 56, 50, 57, 51, 48, 51, 49, 51, 50, 51, 51, 51, 52, 51, 53, 51, 54, 51, 55, 51, 56, 51, 57, 52, 48, 52, 49, 52, 50, 52, 51, 52, 52, 52, 53, 52, 54, 52, 55, 52, 56, 52, 57, 53, 48, 53, 49, 53, 50, 53, 51, 53, 52, 53, 53, 53, 54, 53, 55, 53, 56, 53, 57, 54, 48, 54, 49, 54, 50, 54, 51, 54, 52, 54, 53, 54, 54, 54, 55, 54, 56, 54, 57, 55, 48, 55, 49, 55, 50, 55, 51, 55, 52, 55, 53, 55, 54, 55, 55, 55, 56, 55, 57, 56, 48, 56, 49, 56, 50, 56, 51, 56, 52, 56, 53, 56, 54, 56, 55, 56, 56, 56, 57, 57, 48, 57, 49, 57, 50, 57, 51, 57, 52, 57, 53, 57, 54, 57, 55, 57, 56, 57, 57])) (.tmp 88))), none⟩,
            ⟨(some 90), (.op (.mv (.tmp 10))), none⟩,
            ⟨(some 91), (.op (.idxStr (.cst (.str [48, 48, 48, 49, 48, 50, 48, 51, 48, 52, 48, 53, 48, 54, 48, 55, 48, 56, 48, 57, 49, 48, 49, 49, 49, 50, 49, 51, 49, 52, 49, 53, 49, 54, 49, 55, 49, 56, 49, 57, 50, 48, 50, 49, 50, 50, 50, 51, 50, 52, 50, 53, 50, 54, 50, 55, 50, 56, 50, 57, 51, 48, 51, 49, 51, 50, 51, 51, 51, 52, 51, 53, 51, 54, 51, 55, 51, 56, 51, 57, 52, 48, 52, 49, 52, 50, 52, 51, 52, 52, 52, 53, 52, 54, 52, 55, 52, 56, 52, 57, 53, 48, 53, 49, 53, 50, 53, 51, 53, 52, 53, 53, 53, 54, 53, 55, 53, 56, 53, 57, 54, 48, 54, 49, 54, 50, 54, 51, 54, 52, 54, 53, 54, 54, 54, 55, 54, 56, 54, 57, 55, 48, 55, 49, 55, 50, 55, 51, 55, 52, 55, 53, 55, 54, 55, 55, 55, 56, 55, 57, 56, 48, 56, 49, 56, 50, 56, 51, 56, 52, 56, 53, 56, 54, 56, 55, 56, 56, 56, 57, 57, 48, 57, 49, 57, 50, 57, 51, 57, 52, 57, 53, 57, 54, 57, 55, 57, 56, 57, 57])) (.tmp 90))), none⟩,
            ⟨(some 92), (.op (.idxS 1 (.tmp 81) (.tmp 83))), none⟩,
            ⟨none, (.op (.store 1 (.tmp 92) (.tmp 89))), none⟩,
            ⟨(some 93), (.op (.idxS 1 (.tmp 84) (.tmp 86))), none⟩,
            ⟨none, (.op (.store 1 (.tmp 93) (.tmp 91))), none⟩] [0, 1, 2, 3, 4, 5, 6, 7, 8, 9, 10, 11, 12, 13, 14] [[], [], [], [], [], [], [], [], [], [], [], [], [11], [], [13, 11]] [])
          (.region [
            ⟨(some 94), (.op (.mv (.tmp 4))), none⟩,
            ⟨(some 95), (.op (.bin .sub none (.tmp 94) (.cst (.int .i64 8)))), none⟩,
            ⟨(some 4), (.op (.mv (.tmp 95))), none⟩] []))))))))))))))
    (.seq (.region [
      ⟨(some 96), (.op (.mv (.tmp 1))), none⟩,
      ⟨(some 97), (.op (.cInt .u32 (.tmp 96))), none⟩,
      ⟨(some 12), (.op (.mv (.tmp 97))), none⟩] [])
    (.seq (.seq (.region [
      ⟨(some 98), (.op (.mv (.tmp 4))), none⟩,
      ⟨(some 99), (.op (.bin .geq none (.tmp 98) (.cst (.int .i64 4)))), none⟩] [])
    (.cond (.tmp 99)
      (.seq (.region [
        ⟨(some 100), (.op (.mv (.tmp 12))), none⟩,
        ⟨(some 101), (.op (.bin .rem none (.tmp 100) (.cst (.int .u32 10000)))), none⟩,
        ⟨(some 13), (.op (.mv (.tmp 101))), none⟩] [])
      (.seq (.region [
        ⟨(some 102), (.op (.mv (.tmp 12))), none⟩,
        ⟨(some 103), (.op (.bin .quo none (.tmp 102) (.cst (.int .u32 10000)))), none⟩,
        ⟨(some 12), (.op (.mv (.tmp 103))), none⟩] [])
      (.seq (.region [
        ⟨(some 104), (.op (.mv (.tmp 13))), none⟩,
        ⟨(some 105), (.op (.bin .quo none (.tmp 104) (.cst (.int .u32 100)))), none⟩,
        ⟨(some 106), (.op (.bin .mul none (.tmp 105) (.cst (.int .u32 2)))), none⟩,
        ⟨(some 107), (.op (.mv (.tmp 13))), none⟩,
        ⟨(some 108), (.op (.bin .rem none (.tmp 107) (.cst (.int .u32 100)))), none⟩,
        ⟨(some 109), (.op (.bin .mul none (.tmp 108) (.cst (.int .u32 2)))), none⟩,
        ⟨(some 14), (.op (.mv (.tmp 106))), none⟩,
        ⟨(some 15), (.op (.mv (.tmp 109))), none⟩] [])
      (.seq (.draw [
        ⟨(some 110), (.op (.mv (.tmp 0))), none⟩,
        ⟨(some 111), (.op (.mv (.tmp 4))), none⟩,
        ⟨(some 112), (.op (.bin .sub none (.tmp 111) (.cst (.int .i64 1)))), none⟩,
        ⟨(some 113), (.op (.mv (.tmp 0))), none⟩,
        ⟨(some 114), (.op (.mv (.tmp 4))), none⟩,
        ⟨(some 115), (.op (.bin .sub none (.tmp 114) (.cst (.int .i64 2)))), none⟩,
        ⟨(some 116), (.op (.mv (.tmp 15))), none⟩,
        ⟨(some 117), (.op (.bin .add none (.tmp 116) (.cst (.int .u32 1)))), none⟩,
        ⟨(some 118), (.op (.idxStr (.cst (.str [48, 48, 48, 49, 48, 50, 48, 51, 48, 52, 48, 53, 48, 54, 48, 55, 48, 56, 48, 57, 49, 48, 49, 49, 49, 50, 49, 51, 49, 52, 49, 53, 49, 54, 49, 55, 49, 56, 49, 57, 50, 48, 50, 49, 50, 50, 50, 51, 50, 52, 50, 53, 50, 54, 50, 55, 50, 56, 50, 57, 51, 48, 51, 49, 51, 50, 51, 51, 51, 52, 51, 53, 51, 54, 51, 55, 51, 56, 51, 57, 52, 48, 52, 49, 52, 50, 52, 51, 52, 52, 52, 53, 52, 54, 52, 55, 52, 56, 52, 57, 53, 48, 53, 49, 53, 50, 53, 51, 53, 52, 53, 53, 53, 54, 53, 55, 53, 56, 53, 57, 54, 48, 54, 49, 54, 50, 54, 51, 54, 52, 54, 53, 54, 54, 54, 55, 54, 56, 54, 57, 55, 48, 55, 49, 55, 50, 55, 51, 55, 52, 55, 53, 55, 54, 55, 55, 55, 56, 55, 57, 56, 48, 56, 49, 56, 50, 56, 51, 56, 52, 56, 53, 56, 54, 56, 55, 56, 56, 56, 57, 57, 48, 57, 49, 57, 50, 57, 51, 57, 52, 57, 53, 57, 54, 57, 55, 57, 56, 57, 57])) (.tmp 117))), none⟩,
        ⟨(some 119), (.op (.mv (.tmp 15))), none⟩,
        ⟨(some 120), (.op (.idxStr (.cst (.str [48, 48, 48, 49, 48, 50, 48, 51, 48, 52, 48, 53, 48, 54, 48, 55, 48, 56, 48, 57, 49, 48, 49, 49, 49, 50, 49, 51, 49, 52, 49, 53, 49, 54, 49, 55, 49, 56, 49, 57, 50, 48, 50, 49, 50, 50, 50, 51, 50, 52, 50, 53, 50, 54, 50, 55, 50, 56, 50, 57, 51, 48, 51, 49, 51, 50, 51, 51, 51, 52, 51, 53, 51, 54, 51, 55, 51, 56, 51, 57, 52, 48, 52, 49, 52, 50, 52, 51, 52, 52, 52, 53, 52, 54, 52, 55, 52, 56, 52, 57, 53, 48, 53, 49, 53, 50, 53, 51, 53, 52, 53, 53, 53, 54, 53, 55, 53, 56, 53, 57, 54, 48, 54, 49, 54, 50, 54, 51, 54, 52, 54, 53, 54, 54, 54, 55, 54, 56, 54, 57, 55, 48, 55, 49, 55, 50, 55, 51, 55, 52, 55, 53, 55, 54, 55, 55, 55, 56, 55, 57, 56, 48, 56, 49, 56, 50, 56, 51, 56, 52, 56, 53, 56, 54, 56, 55, 56, 56, 56, 57, 57, 48, 57, 49, 57, 50, 57, 51, 57, 52, 57, 53, 57, 54, 57, 55, 57, 56, 57, 57])) (.tmp 119))), none⟩,
        ⟨(some 121), (.op (.idxS 1 (.tmp 110) (.tmp 112))), none⟩,
        ⟨none, (.op (.store 1 (.tmp 121) (.tmp 118))), none⟩,
        ⟨(some 122), (.op (.idxS 1 (.tmp 113) (.tmp 115))), none⟩,
        ⟨none, (.op (.store 1 (.tmp 122) (.tmp 120))), none⟩] [0, 1, 2, 3, 4, 5, 6, 7, 8, 9, 10, 11, 12, 13, 14] [[], [], [], [], [], [], [], [], [], [], [], [], [11], [], [13, 11]] [])
      (.seq (.draw [
        ⟨(some 123), (.op (.mv (.tmp 0))), none⟩,
        ⟨(some 124), (.op (.mv (.tmp 4))), none⟩,
        ⟨(some 125), (.op (.bin .sub none (.tmp 124) (.cst (.int .i64 3)))), none⟩,
        ⟨(some 126), (.op (.mv (.tmp 0))), none⟩,
        ⟨(some 127), (.op (.mv (.tmp 4))), none⟩,
        ⟨(some 128), (.op (.bin .sub none (.tmp 127) (.cst (.int .i64 4)))), none⟩,
        ⟨(some 129), (.op (.mv (.tmp 14))), none⟩,
        ⟨(some 130), (.op (.bin .add none (.tmp 129) (.cst (.int .u32 1)))), none⟩,
        ⟨(some 131), (.op (.idxStr (.cst (.str [48, 48, 48, 49, 48, 50, 48, 51, 48, 52, 48, 53, 48, 54, 48, 55, 48, 56, 48, 57, 49, 48, 49, 49, 49, 50, 49, 51, 49, 52, 49, 53, 49, 54, 49, 55, 49, 56, 49, 57, 50, 48, 50, 49, 50, 50, 50, 51, 50, 52, 50, 53, 50, 54, 50, 55, 50, 56, 50, 57, 51, 48, 51, 49, 51, 50, 51, 51, 51, 52, 51, 53, 51, 54, 51, 55, 51, 56, 51, 57, 52, 48, 52, 49, 52, 50, 52, 51, 52, 52, 52, 53, 52, 54, 52, 55, 52, 56, 52, 57, 53, 48, 53, 49, 53, 50, 53, 51, 53, 52, 53, 53, 53, 54, 53, 55, 53, 56, 53, 57, 54, 48, 54, 49, 54, 50, 54, 51, 54, 52, 54, 53, 54, 54, 54, 55, 54, 56, 54, 57, 55, 48, 55, 49, 55, 50, 55, 51, 55, 52, 55, 53, 55, 54, 55, 55, 55, 56, 55, 57, 56, 48, 56, 49, 56, 50, 56, 51, 56, 52, 56, 53, 56, 54, 56, 55, 56, 56, 56, 57, 57, 48, 57, 49, 57, 50, 57, 51, 57, 52, 57, 53, 57, 54, 57, 55, 57, 56, 57, 57])) (.tmp 130))), none⟩,
        ⟨(some 132), (.op (.mv (.tmp 14))), none⟩,
        ⟨(some 133), (.op (.idxStr (.cst (.str [48, 48, 48, 49, 48, 50, 48, 51, 48, 52, 48, 53, 48, 54, 48, 55, 48, 56, 48, 57, 49, 48, 49, 49, 49, 50, 49, 51, 49, 52, 49, 53, 49, 54, 49, 55, 49, 56, 49, 57, 50, 48, 50, 49, 50, 50, 50, 51, 50, 52, 50, 53, 50, 54, 50, 55, 50, 56, 50, 57, 51, 48, 51, 49, 51, 50, 51, 51, 51, 52, 51, 53, 51, 54, 51, 55, 51, 56, 51, 57, 52, 48, 52, 49, 52, 50, 52, 51, 52, 52, 52, 53, 52, 54, 52, 55, 52, 56, 52, 57, 53, 48, 53, 49, 53, 50, 53, 51, 53, 52, 53, 53, 53, 54, 53, 55, 53, 56, 53, 57, 54, 48, 54, 49, 54, 50, 54, 51, 54, 52, 54, 53, 54, 54, 54, 55, 54, 56, 54, 57, 55, 48, 55, 49, 55, 50, 55, 51, 55, 52, 55, 53, 55, 54, 55, 55, 55, 56, 55, 57, 56, 48, 56, 49, 56, 50, 56, 51, 56, 52, 56, 53, 56, 54, 56, 55, 56, 56, 56, 57, 57, 48, 57, 49, 57, 50, 57, 51, 57, 52, 57, 53, 57, 54, 57, 55, 57, 56, 57, 57])) (.tmp 132))), none⟩,
        ⟨(some 134), (.op (.idxS 1 (.tmp 123) (.tmp 125))), none⟩,
        ⟨none, (.op (.store 1 (.tmp 134) (.tmp 131))), none⟩,
        ⟨(some 135), (.op (.idxS 1 (.tmp 126) (.tmp 128))), none⟩,
        ⟨none, (.op (.store 1 (.tmp 135) (.tmp 133))), none⟩] [0, 1, 2, 3, 4, 5, 6, 7, 8, 9, 10, 11, 12, 13, 14] [[], [], [], [], [], [], [], [], [], [], [], [], [11], [], [13, 11]] [])
      (.region [
        ⟨(some 136), (.op (.mv (.tmp 4))), none⟩,
        ⟨(some 137), (.op (.bin .sub none (.tmp 136) (.cst (.int .i64 4)))), none⟩,
        ⟨(some 4), (.op (.mv (.tmp 137))), none⟩] []))))))
      .skip))
    (.seq (.seq (.region [
      ⟨(some 138), (.op (.mv (.tmp 4))), none⟩,
      ⟨(some 139), (.op (.bin .geq none (.tmp 138) (.cst (.int .i64 2)))), none⟩] [])
    (.cond (.tmp 139)
      (.seq (.region [
        ⟨(some 140), (.op (.mv (.tmp 12))), none⟩,
        ⟨(some 141), (.op (.bin .rem none (.tmp 140) (.cst (.int .u32 100)))), none⟩,
        ⟨(some 142), (.op (.bin .mul none (.tmp 141) (.cst (.int .u32 2)))), none⟩,
        ⟨(some 16), (.op (.mv (.tmp 142))), none⟩] [])
      (.seq (.region [
        ⟨(some 143), (.op (.mv (.tmp 12))), none⟩,
        ⟨(some 144), (.op (.bin .quo none (.tmp 143) (.cst (.int .u32 100)))), none⟩,
        ⟨(some 12), (.op (.mv (.tmp 144))), none⟩] [])
      (.seq (.draw [
        ⟨(some 145), (.op (.mv (.tmp 0))), none⟩,
        ⟨(some 146), (.op (.mv (.tmp 4))), none⟩,
        ⟨(some 147), (.op (.bin .sub none (.tmp 146) (.cst (.int .i64 1)))), none⟩,
        ⟨(some 148), (.op (.mv (.tmp 0))), none⟩,
        ⟨(some 149), (.op (.mv (.tmp 4))), none⟩,
        ⟨(some 150), (.op (.bin .sub none (.tmp 149) (.cst (.int .i64 2)))), none⟩,
        ⟨(some 151), (.op (.mv (.tmp 16))), none⟩,
        ⟨(some 152), (.op (.bin .add none (.tmp 151) (.cst (.int .u32 1)))), none⟩,
        ⟨(some 153), (.op (.idxStr (.cst (.str [48, 48, 48, 49, 48, 50, 48, 51, 48, 52, 48, 53, 48, 54, 48, 55, 48, 56, 48, 57, 49, 48, 49, 49, 49, 50, 49, 51, 49, 52, 49, 53, 49, 54, 49, 55, 49, 56, 49, 57, 50, 48, 50, 49, 50, 50, 50, 51, 50, 52, 50, 53, 50, 54, 50, 55, 50, 56, 50, 57, 51, 48, 51, 49, 51, 50, 51, 51, 51, 52, 51, 53, 51, 54, 51, 55, 51, 56, 51, 57, 52, 48, 52, 49, 52, 50, 52, 51, 52, 52, 52, 53, 52, 54, 52, 55, 52, 56, 52, 57, 53, 48, 53, 49, 53, 50, 53, 51, 53, 52, 53, 53, 53, 54, 53, 55, 53, 56, 53, 57, 54, 48, 54, 49, 54, 50, 54, 51, 54, 52, 54, 53, 54, 54, 54, 55, 54, 56, 54, 57, 55, 48, 55, 49, 55, 50, 55, 51, 55, 52, 55, 53, 55, 54, 55, 55, 55, 56, 55, 57, 56, 48, 56, 49, 56, 50, 56, 51, 56, 52, 56, 53, 56, 54, 56, 55, 56, 56, 56, 57, 57, 48, 57, 49, 57, 50, 57, 51, 57, 52, 57, 53, 57, 54, 57, 55, 57, 56, 57, 57])) (.tmp 152))), none⟩,
        ⟨(some 154), (.op (.mv (.tmp 16))), none⟩,
        ⟨(some 155), (.op (.idxStr (.cst (.str [48, 48, 48, 49, 48, 50, 48, 51, 48, 52, 48, 53, 48, 54, 48, 55, 48, 56, 48, 57, 49, 48, 49, 49, 49, 50, 49, 51, 49, 52, 49, 53, 49, 54, 49, 55, 49, 56, 49, 57, 50, 48, 50, 49, 50, 50, 50, 51, 50, 52, 50, 53, 50, 54, 50, 55, 50, 56, 50, 57, 51, 48, 51, 49, 51, 50, 51, 51, 51, 52, 51, 53, 51, 54, 51, 55, 51, 56, 51, 57, 52, 48, 52, 49, 52, 50, 52, 51, 52, 52, 52, 53, 52, 54, 52, 55, 52, 56, 52, 57, 53, 48, 53, 49, 53, 50, 53, 51, 53, 52, 53, 53, 53, 54, 53, 55, 53, 56, 53, 57, 54, 48, 54, 49, 54, 50, 54, 51, 54, 52, 54, 53, 54, 54, 54, 55, 54, 56, 54, 57, 55, 48, 55, 49, 55, 50, 55, 51, 55, 52, 55, 53, 55, 54, 55, 55, 55, 56, 55, 57, 56, 48, 56, 49, 56, 50, 56, 51, 56, 52, 56, 53, 56, 54, 56, 55, 56, 56, 56, 57, 57, 48, 57, 49, 57, 50, 57, 51, 57, 52, 57, 53, 57, 54, 57, 55, 57, 56, 57, 57])) (.tmp 154))), none⟩,
        ⟨(some 156), (.op (.idxS 1 (.tmp 145) (.tmp 147))), none⟩,
        ⟨none, (.op (.store 1 (.tmp 156) (.tmp 153))), none⟩,
        ⟨(some 157), (.op (.idxS 1 (.tmp 148) (.tmp 150))), none⟩,
        ⟨none, (.op (.store 1 (.tmp 157) (.tmp 155))), none⟩] [0, 1, 2, 3, 4, 5, 6, 7, 8, 9, 10, 11, 12, 13, 14] [[], [], [], [], [], [], [], [], [], [], [], [], [11], [], [13, 11]] [])
      (.region [
        ⟨(some 158), (.op (.mv (.tmp 4))), none⟩,
        ⟨(some 159), (.op (.bin .sub none (.tmp 158) (.cst (.int .i64 2)))), none⟩,
        ⟨(some 4), (.op (.mv (.tmp 159))), none⟩] []))))
      .skip))
    (.seq (.region [
      ⟨(some 160), (.op (.mv (.tmp 4))), none⟩,
      ⟨(some 161), (.op (.bin .gtr none (.tmp 160) (.cst (.int .i64 0)))), none⟩] [])
    (.cond (.tmp 161)
      (.region [
        ⟨(some 162), (.op (.mv (.tmp 0))), none⟩,
        ⟨(some 163), (.op (.mv (.tmp 12))), none⟩,
        ⟨(some 164), (.op (.bin .add none (.cst (.int .u32 48)) (.tmp 163))), none⟩,
        ⟨(some 165), (.op (.cInt .u8 (.tmp 164))), none⟩,
        ⟨(some 166), (.op (.idxS 1 (.tmp 162) (.cst (.int .i64 0)))), none⟩,
        ⟨none, (.op (.store 1 (.tmp 166) (.tmp 165))), none⟩] [])
      .skip)))))))⟩
theorem c76 : cFn Tryd.prog [] Tryd.f76 = some h76 := by kernel_rfl
/-- internal/strconv.formatBits -/
def h77 : HFn :=
  ⟨102, [(.tmp 10), (.tmp 11)],
    (.seq (.region [
      ⟨(some 10), (.op (.mv (.cst .nilSlice))), none⟩,
      ⟨(some 11), (.op (.mv (.cst (.str [])))), none⟩] [])
    (.seq (.seq (.region [
      ⟨(some 19), (.op (.mv (.tmp 2))), none⟩,
      ⟨(some 20), (.op (.bin .lss none (.tmp 19) (.cst (.int .i64 2)))), none⟩,
      ⟨(some 21), (.op (.mv (.tmp 20))), none⟩,
      ⟨(some 22), (.op (.mv (.tmp 2))), (some (21, false))⟩,
      ⟨(some 23), (.op (.bin .eql (some .int) (.tmp 22) (.cst (.int .i64 10)))), (some (21, false))⟩,
      ⟨(some 24), (.op (.pick (.tmp 21) (.cst (.bool true)) (.tmp 23))), none⟩,
      ⟨(some 25), (.op (.mv (.tmp 24))), none⟩,
      ⟨(some 26), (.op (.mv (.tmp 2))), (some (25, false))⟩,
      ⟨(some 27), (.op (.bin .gtr none (.tmp 26) (.cst (.int .i64 36)))), (some (25, false))⟩,
      ⟨(some 28), (.op (.pick (.tmp 25) (.cst (.bool true)) (.tmp 27))), none⟩] [])
    (.cond (.tmp 28)
      (.region [
        ⟨(some 29), (.op (.iface 9 (.cst (.str [115, 116, 114, 99, 111, 110, 118, 58, 32, 105, 108, 108, 101, 103, 97, 108, 32, 65, 112, 112, 101, 110, 100, 73, 110, 116, 47, 70, 111, 114, 109, 97, 116, 73, 110, 116, 32, 98, 97, 115, 101])))), none⟩,
        ⟨none, (.op .bad), none⟩] [])
      .skip))
    (.seq (.region [
      ⟨(some 12), (.op (.box (.cst (.agg [(.int .u8 0), (.int .u8 0), (.int .u8 0), (.int .u8 0), (.int .u8 0), (.int .u8 0), (.int .u8 0), (.int .u8 0), (.int .u8 0), (.int .u8 0), (.int .u8 0), (.int .u8 0), (.int .u8 0), (.int .u8 0), (.int .u8 0), (.int .u8 0), (.int .u8 0), (.int .u8 0), (.int .u8 0), (.int .u8 0), (.int .u8 0), (.int .u8 0), (.int .u8 0), (.int .u8 0), (.int .u8 0), (.int .u8 0), (.int .u8 0), (.int .u8 0), (.int .u8 0), (.int .u8 0), (.int .u8 0), (.int .u8 0), (.int .u8 0), (.int .u8 0), (.int .u8 0), (.int .u8 0), (.int .u8 0), (.int .u8 0), (.int .u8 0), (.int .u8 0), (.int .u8 0), (.int .u8 0), (.int .u8 0), (.int .u8 0), (.int .u8 0), (.int .u8 0), (.int .u8 0), (.int .u8 0), (.int .u8 0), (.int .u8 0), (.int .u8 0), (.int .u8 0), (.int .u8 0), (.int .u8 0), (.int .u8 0), (.int .u8 0), (.int .u8 0), (.int .u8 0), (.int .u8 0), (.int .u8 0), (.int .u8 0), (.int .u8 0), (.int .u8 0), (.int .u8 0), (.int .u8 0)])))), none⟩] [])
    (.seq (.region [
      ⟨(some 13), (.op (.mv (.cst (.int .i64 65)))), none⟩] [])
    (.seq (.seq (.region [
      ⟨(some 30), (.op (.mv (.tmp 3))), none⟩] [])
    (.cond (.tmp 30)
      (.region [
        ⟨(some 31), (.op (.mv (.tmp 1))), none⟩,
        ⟨(some 32), (.op (.un .neg (.tmp 31))), none⟩,
        ⟨(some 1), (.op (.mv (.tmp 32))), none⟩] [])
      .skip))
    (.seq (.seq (.region [
      ⟨(some 33), (.op (.mv (.tmp 2))), none⟩,
      ⟨(some 34), (.call (.cst (.func (.func 82) [] [])) [(.tmp 33)]), none⟩] [])
    (.cond (.tmp 34)
      (.seq (.region [
        ⟨(some 35), (.op (.mv (.tmp 2))), none⟩,
        ⟨(some 36), (.op (.cInt .u64 (.tmp 35))), none⟩,
        ⟨(some 37), (.call (.cst (.func (.func 83) [] [])) [(.tmp 36)]), none⟩,
        ⟨(some 38), (.op (.cInt .u64 (.tmp 37))), none⟩,
        ⟨(some 14), (.op (.mv (.tmp 38))), none⟩] [])
      (.seq (.region [
        ⟨(some 39), (.op (.mv (.tmp 2))), none⟩,
        ⟨(some 40), (.op (.cInt .u64 (.tmp 39))), none⟩,
        ⟨(some 15), (.op (.mv (.tmp 40))), none⟩] [])
      (.seq (.region [
        ⟨(some 41), (.op (.mv (.tmp 2))), none⟩,
        ⟨(some 42), (.op (.cInt .u64 (.tmp 41))), none⟩,
        ⟨(some 43), (.op (.bin .sub none (.tmp 42) (.cst (.int .u64 1)))), none⟩,
        ⟨(some 16), (.op (.mv (.tmp 43))), none⟩] [])
      (.seq (.block 0
        (.loop
          (.seq (.seq (.region [
            ⟨(some 44), (.op (.mv (.tmp 1))), none⟩,
            ⟨(some 45), (.op (.mv (.tmp 15))), none⟩,
            ⟨(some 46), (.op (.bin .geq none (.tmp 44) (.tmp 45))), none⟩] [])
          (.cond (.tmp 46)
            .skip
            (.exit 0)))
          (.block 1
            (.seq (.region [
              ⟨(some 47), (.op (.mv (.tmp 13))), none⟩,
              ⟨(some 48), (.op (.bin .sub none (.tmp 47) (.cst (.int .i64 1)))), none⟩,
              ⟨(some 13), (.op (.mv (.tmp 48))), none⟩] [])
            (.seq (.region [
              ⟨(some 49), (.op (.mv (.tmp 13))), none⟩,
              ⟨(some 50), (.op (.mv (.tmp 1))), none⟩,
              ⟨(some 51), (.op (.mv (.tmp 16))), none⟩,
              ⟨(some 52), (.op (.bin .and none (.tmp 50) (.tmp 51))), none⟩,
              ⟨(some 53), (.op (.idxStr (.cst (.str [48, 49, 50, 51, 52, 53, 54, 55, 56, 57, 97, 98, 99, 100, 101, 102, 103, 104, 105, 106, 107, 108, 109, 110, 111, 112, 113, 114, 115, 116, 117, 118, 119, 120, 121, 122])) (.tmp 52))), none⟩,
              ⟨(some 54), (.op (.idxA 65 1 (.tmp 12) (.tmp 49))), none⟩,
              ⟨none, (.op (.store 1 (.tmp 54) (.tmp 53))), none⟩] [])
            (.region [
              ⟨(some 55), (.op (.mv (.tmp 1))), none⟩,
              ⟨(some 56), (.op (.mv (.tmp 14))), none⟩,
              ⟨(some 57), (.op (.bin .shr none (.tmp 55) (.tmp 56))), none⟩,
              ⟨(some 1), (.op (.mv (.tmp 57))), none⟩] [])))))))
      (.seq (.region [
        ⟨(some 58), (.op (.mv (.tmp 13))), none⟩,
        ⟨(some 59), (.op (.bin .sub none (.tmp 58) (.cst (.int .i64 1)))), none⟩,
        ⟨(some 13), (.op (.mv (.tmp 59))), none⟩] [])
      (.region [
        ⟨(some 60), (.op (.mv (.tmp 13))), none⟩,
        ⟨(some 61), (.op (.mv (.tmp 1))), none⟩,
        ⟨(some 62), (.op (.idxStr (.cst (.str [48, 49, 50, 51, 52, 53, 54, 55, 56, 57, 97, 98, 99, 100, 101, 102, 103, 104, 105, 106, 107, 108, 109, 110, 111, 112, 113, 114, 115, 116, 117, 118, 119, 120, 121, 122])) (.tmp 61))), none⟩,
        ⟨(some 63), (.op (.idxA 65 1 (.tmp 12) (.tmp 60))), none⟩,
        ⟨none, (.op (.store 1 (.tmp 63) (.tmp 62))), none⟩] []))))))
      (.seq (.region [
        ⟨(some 64), (.op (.mv (.tmp 2))), none⟩,
        ⟨(some 65), (.op (.cInt .u64 (.tmp 64))), none⟩,
        ⟨(some 17), (.op (.mv (.tmp 65))), none⟩] [])
      (.seq (.block 2
        (.loop
          (.seq (.seq (.region [
            ⟨(some 66), (.op (.mv (.tmp 1))), none⟩,
            ⟨(some 67), (.op (.mv (.tmp 17))), none⟩,
            ⟨(some 68), (.op (.bin .geq none (.tmp 66) (.tmp 67))), none⟩] [])
          (.cond (.tmp 68)
            .skip
            (.exit 2)))
          (.block 3
            (.seq (.region [
              ⟨(some 69), (.op (.mv (.tmp 13))), none⟩,
              ⟨(some 70), (.op (.bin .sub none (.tmp 69) (.cst (.int .i64 1)))), none⟩,
              ⟨(some 13), (.op (.mv (.tmp 70))), none⟩] [])
            (.seq (.region [
              ⟨(some 71), (.op (.mv (.tmp 1))), none⟩,
              ⟨(some 72), (.op (.mv (.tmp 17))), none⟩,
              ⟨(some 73), (.op (.bin .quo none (.tmp 71) (.tmp 72))), none⟩,
              ⟨(some 18), (.op (.mv (.tmp 73))), none⟩] [])
            (.seq (.region [
              ⟨(some 74), (.op (.mv (.tmp 13))), none⟩,
              ⟨(some 75), (.op (.mv (.tmp 1))), none⟩,
              ⟨(some 76), (.op (.mv (.tmp 18))), none⟩,
              ⟨(some 77), (.op (.mv (.tmp 17))), none⟩,
              ⟨(some 78), (.op (.bin .mul none (.tmp 76) (.tmp 77))), none⟩,
              ⟨(some 79), (.op (.bin .sub none (.tmp 75) (.tmp 78))), none⟩,
              ⟨(some 80), (.op (.idxStr (.cst (.str [48, 49, 50, 51, 52, 53, 54, 55, 56, 57, 97, 98, 99, 100, 101, 102, 103, 104, 105, 106, 107, 108, 109, 110, 111, 112, 113, 114, 115, 116, 117, 118, 119, 120, 121, 122])) (.tmp 79))), none⟩,
              ⟨(some 81), (.op (.idxA 65 1 (.tmp 12) (.tmp 74))), none⟩,
              ⟨none, (.op (.store 1 (.tmp 81) (.tmp 80))), none⟩] [])
            (.region [
              ⟨(some 82), (.op (.mv (.tmp 18))), none⟩,
              ⟨(some 1), (.op (.mv (.tmp 82))), none⟩] []))))))))
      (.seq (.region [
        ⟨(some 83), (.op (.mv (.tmp 13))), none⟩,
        ⟨(some 84), (.op (.bin .sub none (.tmp 83) (.cst (.int .i64 1)))), none⟩,
        ⟨(some 13), (.op (.mv (.tmp 84))), none⟩] [])
      (.region [
        ⟨(some 85), (.op (.mv (.tmp 13))), none⟩,
        ⟨(some 86), (.op (.mv (.tmp 1))), none⟩,
        ⟨(some 87), (.op (.idxStr (.cst (.str [48, 49, 50, 51, 52, 53, 54, 55, 56, 57, 97, 98, 99, 100, 101, 102, 103, 104, 105, 106, 107, 108, 109, 110, 111, 112, 113, 114, 115, 116, 117, 118, 119, 120, 121, 122])) (.tmp 86))), none⟩,
        ⟨(some 88), (.op (.idxA 65 1 (.tmp 12) (.tmp 85))), none⟩,
        ⟨none, (.op (.store 1 (.tmp 88) (.tmp 87))), none⟩] []))))))
    (.seq (.seq (.region [
      ⟨(some 89), (.op (.mv (.tmp 3))), none⟩] [])
    (.cond (.tmp 89)
      (.seq (.region [
        ⟨(some 90), (.op (.mv (.tmp 13))), none⟩,
        ⟨(some 91), (.op (.bin .sub none (.tmp 90) (.cst (.int .i64 1)))), none⟩,
        ⟨(some 13), (.op (.mv (.tmp 91))), none⟩] [])
      (.region [
        ⟨(some 92), (.op (.mv (.tmp 13))), none⟩,
        ⟨(some 93), (.op (.idxA 65 1 (.tmp 12) (.tmp 92))), none⟩,
        ⟨none, (.op (.store 1 (.tmp 93) (.cst (.int .u8 45)))), none⟩] []))
      .skip))
    (.seq (.seq (.region [
      ⟨(some 94), (.op (.mv (.tmp 4))), none⟩] [])
    (.cond (.tmp 94)
      (.seq (.region [
        ⟨(some 95), (.op (.mv (.tmp 0))), none⟩,
        ⟨(some 96), (.op (.mv (.tmp 13))), none⟩,
        ⟨(some 97), (.op (.sliceArr 65 1 (.tmp 12) (some (.tmp 96)) none none)), none⟩,
        ⟨(some 98), (.op (.append 1 1 (.tmp 95) (.tmp 97))), none⟩,
        ⟨(some 10), (.op (.mv (.tmp 98))), none⟩] [])
      .ret)
      .skip))
    (.seq (.region [
      ⟨(some 99), (.op (.mv (.tmp 13))), none⟩,
      ⟨(some 100), (.op (.sliceArr 65 1 (.tmp 12) (some (.tmp 99)) none none)), none⟩,
      ⟨(some 101), (.op (.b2s (.tmp 100))), none⟩,
      ⟨(some 11), (.op (.mv (.tmp 101))), none⟩] [])
    .ret)))))))))⟩
theorem c77 : cFn Tryd.prog [] Tryd.f77 = some h77 := by kernel_rfl
/-- internal/strconv.log10Pow2 -/
def h79 : HFn :=
  ⟨6, [(.tmp 2)],
    (.seq (.region [
      ⟨(some 2), (.op (.mv (.cst (.int .i64 0)))), none⟩] [])
    (.seq (.region [
      ⟨(some 3), (.op (.mv (.tmp 0))), none⟩,
      ⟨(some 4), (.op (.bin .mul none (.tmp 3) (.cst (.int .i64 78913)))), none⟩,
      ⟨(some 5), (.op (.bin .shr none (.tmp 4) (.cst (.int .u64 18)))), none⟩,
      ⟨(some 2), (.op (.mv (.tmp 5))), none⟩] [])
    .ret))⟩
theorem c79 : cFn Tryd.prog [] Tryd.f79 = some h79 := by kernel_rfl
/-- math/bits.Len64 -/
def h80 : HFn :=
  ⟨25, [(.tmp 2)],
    (.seq (.region [
      ⟨(some 2), (.op (.mv (.cst (.int .i64 0)))), none⟩] [])
    (.seq (.seq (.region [
      ⟨(some 3), (.op (.mv (.tmp 0))), none⟩,
      ⟨(some 4), (.op (.bin .geq none (.tmp 3) (.cst (.int .u64 4294967296)))), none⟩] [])
    (.cond (.tmp 4)
      (.seq (.region [
        ⟨(some 5), (.op (.mv (.tmp 0))), none⟩,
        ⟨(some 6), (.op (.bin .shr none (.tmp 5) (.cst (.int .u64 32)))), none⟩,
        ⟨(some 0), (.op (.mv (.tmp 6))), none⟩] [])
      (.region [
        ⟨(some 2), (.op (.mv (.cst (.int .i64 32)))), none⟩] []))
      .skip))
    (.seq (.seq (.region [
      ⟨(some 7), (.op (.mv (.tmp 0))), none⟩,
      ⟨(some 8), (.op (.bin .geq none (.tmp 7) (.cst (.int .u64 65536)))), none⟩] [])
    (.cond (.tmp 8)
      (.seq (.region [
        ⟨(some 9), (.op (.mv (.tmp 0))), none⟩,
        ⟨(some 10), (.op (.bin .shr none (.tmp 9) (.cst (.int .u64 16)))), none⟩,
        ⟨(some 0), (.op (.mv (.tmp 10))), none⟩] [])
      (.region [
        ⟨(some 11), (.op (.mv (.tmp 2))), none⟩,
        ⟨(some 12), (.op (.bin .add none (.tmp 11) (.cst (.int .i64 16)))), none⟩,
        ⟨(some 2), (.op (.mv (.tmp 12))), none⟩] []))
      .skip))
    (.seq (.seq (.region [
      ⟨(some 13), (.op (.mv (.tmp 0))), none⟩,
      ⟨(some 14), (.op (.bin .geq none (.tmp 13) (.cst (.int .u64 256)))), none⟩] [])
    (.cond (.tmp 14)
      (.seq (.region [
        ⟨(some 15), (.op (.mv (.tmp 0))), none⟩,
        ⟨(some 16), (.op (.bin .shr none (.tmp 15) (.cst (.int .u64 8)))), none⟩,
        ⟨(some 0), (.op (.mv (.tmp 16))), none⟩] [])
      (.region [
        ⟨(some 17), (.op (.mv (.tmp 2))), none⟩,
        ⟨(some 18), (.op (.bin .add none (.tmp 17) (.cst (.int .i64 8)))), none⟩,
        ⟨(some 2), (.op (.mv (.tmp 18))), none⟩] []))
      .skip))
    (.seq (.region [
      ⟨(some 19), (.op (.mv (.tmp 2))), none⟩,
      ⟨(some 20), (.op (.mv (.tmp 0))), none⟩,
      ⟨(some 21), (.op (.cInt .u8 (.tmp 20))), none⟩,
      ⟨(some 22), (.op (.idxStr (.cst (.str [0, 1, 2, 2, 3, 3, 3, 3, 4, 4, 4, 4, 4, 4, 4, 4, 5, 5, 5, 5, 5, 5, 5, 5, 5, 5, 5, 5, 5, 5, 5, 5, 6, 6, 6, 6, 6, 6, 6, 6, 6, 6, 6, 6, 6, 6, 6, 6, 6, 6, 6, 6, 6, 6, 6, 6, 6, 6, 6, 6, 6, 6, 6, 6, 7, 7, 7, 7, 7, 7, 7, 7, 7, 7, 7, 7, 7, 7, 7, 7, 7, 7, 7, 7, 7, 7, 7, 7, 7, 7, 7, 7, 7, 7, 7, 7, 7, 7, 7, 7, 7, 7, 7, 7, 7, 7, 7, 7, 7, 7, 7, 7, 7, 7, 7, 7, 7, 7, 7, 7, 7, 7, 7, 7, 7, 7, 7, 7, 8, 8, 8, 8, 8, 8, 8, 8, 8, 8, 8, 8, 8, 8, 8, 8, 8, 8, 8, 8, 8, 8, 8, 8, 8, 8, 8, 8, 8, 8, 8, 8, 8, 8, 8, 8, 8, 8, 8, 8, 8, 8, 8, 8, 8, 8, 8, 8, 8, 8, 8, 8, 8, 8, 8, 8, 8, 8, 8, 8, 8, 8, 8, 8, 8, 8, 8, 8, 8, 8, 8, 8, 8, 8, 8, 8, 8, 8, 8, 8, 8, 8, 8, 8, 8, 8, 8, 8, 8, 8, 8, 8, 8, 8, 8, 8, 8, 8, 8, 8, 8, 8, 8, 8, 8, 8, 8, 8, 8, 8, 8, 8, 8, 8, 8, 8, 8, 8, 8, 8, 8, 8, 8, 8, 8, 8, 8, 8])) (.tmp 21))), none⟩,
      ⟨(some 23), (.op (.cInt .i64 (.tmp 22))), none⟩,
      ⟨(some 24), (.op (.bin .add none (.tmp 19) (.tmp 23))), none⟩,
      ⟨(some 2), (.op (.mv (.tmp 24))), none⟩] [])
    .ret)))))⟩
theorem c80 : cFn Tryd.prog [] Tryd.f80 = some h80 := by kernel_rfl
/-- internal/strconv.bool2[int] -/
def h81 : HFn :=
  ⟨4, [(.tmp 2)],
    (.seq (.region [
      ⟨(some 2), (.op (.mv (.cst (.int .i64 0)))), none⟩] [])
    (.seq (.seq (.region [
      ⟨(some 3), (.op (.mv (.tmp 0))), none⟩] [])
    (.cond (.tmp 3)
      (.seq (.region [
        ⟨(some 2), (.op (.mv (.cst (.int .i64 1)))), none⟩] [])
      .ret)
      .skip))
    (.seq (.region [
      ⟨(some 2), (.op (.mv (.cst (.int .i64 0)))), none⟩] [])
    .ret)))⟩
theorem c81 : cFn Tryd.prog [] Tryd.f81 = some h81 := by kernel_rfl
/-- internal/strconv.isPowerOfTwo -/
def h82 : HFn :=
  ⟨8, [(.tmp 2)],
    (.seq (.region [
      ⟨(some 2), (.op (.mv (.cst (.bool false)))), none⟩] [])
    (.seq (.region [
      ⟨(some 3), (.op (.mv (.tmp 0))), none⟩,
      ⟨(some 4), (.op (.mv (.tmp 0))), none⟩,
      ⟨(some 5), (.op (.bin .sub none (.tmp 4) (.cst (.int .i64 1)))), none⟩,
      ⟨(some 6), (.op (.bin .and none (.tmp 3) (.tmp 5))), none⟩,
      ⟨(some 7), (.op (.bin .eql (some .int) (.tmp 6) (.cst (.int .i64 0)))), none⟩,
      ⟨(some 2), (.op (.mv (.tmp 7))), none⟩] [])
    .ret))⟩
theorem c82 : cFn Tryd.prog [] Tryd.f82 = some h82 := by kernel_rfl
/-- math/bits.TrailingZeros -/
def h83 : HFn :=
  ⟨8, [(.tmp 2)],
    (.seq (.region [
      ⟨(some 2), (.op (.mv (.cst (.int .i64 0)))), none⟩] [])
    (.seq (.cond (.cst (.bool false))
      (.seq (.region [
        ⟨(some 3), (.op (.mv (.tmp 0))), none⟩,
        ⟨(some 4), (.op (.cInt .u32 (.tmp 3))), none⟩,
        ⟨(some 5), (.call (.cst (.func (.func 84) [] [])) [(.tmp 4)]), none⟩,
        ⟨(some 2), (.op (.mv (.tmp 5))), none⟩] [])
      .ret)
      .skip)
    (.seq (.region [
      ⟨(some 6), (.op (.mv (.tmp 0))), none⟩,
      ⟨(some 7), (.call (.cst (.func (.func 85) [] [])) [(.tmp 6)]), none⟩,
      ⟨(some 2), (.op (.mv (.tmp 7))), none⟩] [])
    .ret)))⟩
theorem c83 : cFn Tryd.prog [] Tryd.f83 = some h83 := by kernel_rfl
/-- math/bits.TrailingZeros32 -/
def h84 : HFn :=
  ⟨14, [(.tmp 2)],
    (.seq (.region [
      ⟨(some 2), (.op (.mv (.cst (.int .i64 0)))), none⟩] [])
    (.seq (.seq (.region [
      ⟨(some 3), (.op (.mv (.tmp 0))), none⟩,
      ⟨(some 4), (.op (.bin .eql (some .int) (.tmp 3) (.cst (.int .u32 0)))), none⟩] [])
    (.cond (.tmp 4)
      (.seq (.region [
        ⟨(some 2), (.op (.mv (.cst (.int .i64 32)))), none⟩] [])
      .ret)
      .skip))
    (.seq (.region [
      ⟨(some 5), (.op (.mv (.tmp 0))), none⟩,
      ⟨(some 6), (.op (.mv (.tmp 0))), none⟩,
      ⟨(some 7), (.op (.un .neg (.tmp 6))), none⟩,
      ⟨(some 8), (.op (.bin .and none (.tmp 5) (.tmp 7))), none⟩,
      ⟨(some 9), (.op (.bin .mul none (.tmp 8) (.cst (.int .u32 125613361)))), none⟩,
      ⟨(some 10), (.op (.bin .shr none (.tmp 9) (.cst (.int .u64 27)))), none⟩,
      ⟨(some 11), (.op (.gidxA 32 1 2 (.tmp 10))), none⟩,
      ⟨(some 12), (.op (.load none (.tmp 11))), none⟩,
      ⟨(some 13), (.op (.cInt .i64 (.tmp 12))), none⟩,
      ⟨(some 2), (.op (.mv (.tmp 13))), none⟩] [])
    .ret)))⟩
theorem c84 : cFn Tryd.prog [] Tryd.f84 = some h84 := by kernel_rfl
/-- math/bits.TrailingZeros64 -/
def h85 : HFn :=
  ⟨14, [(.tmp 2)],
    (.seq (.region [
      ⟨(some 2), (.op (.mv (.cst (.int .i64 0)))), none⟩] [])
    (.seq (.seq (.region [
      ⟨(some 3), (.op (.mv (.tmp 0))), none⟩,
      ⟨(some 4), (.op (.bin .eql (some .int) (.tmp 3) (.cst (.int .u64 0)))), none⟩] [])
    (.cond (.tmp 4)
      (.seq (.region [
        ⟨(some 2), (.op (.mv (.cst (.int .i64 64)))), none⟩] [])
      .ret)
      .skip))
    (.seq (.region [
      ⟨(some 5), (.op (.mv (.tmp 0))), none⟩,
      ⟨(some 6), (.op (.mv (.tmp 0))), none⟩,
      ⟨(some 7), (.op (.un .neg (.tmp 6))), none⟩,
      ⟨(some 8), (.op (.bin .and none (.tmp 5) (.tmp 7))), none⟩,
      ⟨(some 9), (.op (.bin .mul none (.tmp 8) (.cst (.int .u64 285870213051353865)))), none⟩,
      ⟨(some 10), (.op (.bin .shr none (.tmp 9) (.cst (.int .u64 58)))), none⟩,
      ⟨(some 11), (.op (.gidxA 64 1 3 (.tmp 10))), none⟩,
      ⟨(some 12), (.op (.load none (.tmp 11))), none⟩,
      ⟨(some 13), (.op (.cInt .i64 (.tmp 12))), none⟩,
      ⟨(some 2), (.op (.mv (.tmp 13))), none⟩] [])
    .ret)))⟩
theorem c85 : cFn Tryd.prog [] Tryd.f85 = some h85 := by kernel_rfl
def F : FuncId → Option HFn
  | 9 => some h9
  | 11 => some h11
  | 12 => some h12
  | 21 => some h21
  | 22 => some h22
  | 23 => some h23
  | 25 => some h25
  | 35 => some h35
  | 36 => some h36
  | 37 => some h37
  | 38 => some h38
  | 46 => some h46
  | 47 => some h47
  | 52 => some h52
  | 53 => some h53
  | 57 => some h57
  | 59 => some h59
  | 60 => some h60
  | 61 => some h61
  | 62 => some h62
  | 63 => some h63
  | 64 => some h64
  | 68 => some h68
  | 69 => some h69
  | 74 => some h74
  | 75 => some h75
  | 76 => some h76
  | 77 => some h77
  | 79 => some h79
  | 80 => some h80
  | 81 => some h81
  | 82 => some h82
  | 83 => some h83
  | 84 => some h84
  | 85 => some h85
  | _ => none
theorem F_ok : FOk Tryd.prog F := by
  intro f hf h
  unfold F at h
  split at h
  · simp at h; subst h; exact ⟨_, [], Tryd.func9, c9⟩
  · simp at h; subst h; exact ⟨_, [], Tryd.func11, c11⟩
  · simp at h; subst h; exact ⟨_, [], Tryd.func12, c12⟩
  · simp at h; subst h; exact ⟨_, [], Tryd.func21, c21⟩
  · simp at h; subst h; exact ⟨_, [], Tryd.func22, c22⟩
  · simp at h; subst h; exact ⟨_, [], Tryd.func23, c23⟩
  · simp at h; subst h; exact ⟨_, [], Tryd.func25, c25⟩
  · simp at h; subst h; exact ⟨_, [], Tryd.func35, c35⟩
  · simp at h; subst h; exact ⟨_, [], Tryd.func36, c36⟩
  · simp at h; subst h; exact ⟨_, [], Tryd.func37, c37⟩
  · simp at h; subst h; exact ⟨_, [], Tryd.func38, c38⟩
  · simp at h; subst h; exact ⟨_, [], Tryd.func46, c46⟩
  · simp at h; subst h; exact ⟨_, [], Tryd.func47, c47⟩
  · simp at h; subst h; exact ⟨_, [], Tryd.func52, c52⟩
  · simp at h; subst h; exact ⟨_, [], Tryd.func53, c53⟩
  · simp at h; subst h; exact ⟨_, [], Tryd.func57, c57⟩
  · simp at h; subst h; exact ⟨_, [], Tryd.func59, c59⟩
  · simp at h; subst h; exact ⟨_, [], Tryd.func60, c60⟩
  · simp at h; subst h; exact ⟨_, [], Tryd.func61, c61⟩
  · simp at h; subst h; exact ⟨_, [], Tryd.func62, c62⟩
  · simp at h; subst h; exact ⟨_, [], Tryd.func63, c63⟩
  · simp at h; subst h; exact ⟨_, [], Tryd.func64, c64⟩
  · simp at h; subst h; exact ⟨_, [], Tryd.func68, c68⟩
  · simp at h; subst h; exact ⟨_, [], Tryd.func69, c69⟩
  · simp at h; subst h; exact ⟨_, [], Tryd.func74, c74⟩
  · simp at h; subst h; exact ⟨_, [], Tryd.func75, c75⟩
  · simp at h; subst h; exact ⟨_, [], Tryd.func76, c76⟩
  · simp at h; subst h; exact ⟨_, [], Tryd.func77, c77⟩
  · simp at h; subst h; exact ⟨_, [], Tryd.func79, c79⟩
  · simp at h; subst h; exact ⟨_, [], Tryd.func80, c80⟩
  · simp at h; subst h; exact ⟨_, [], Tryd.func81, c81⟩
  · simp at h; subst h; exact ⟨_, [], Tryd.func82, c82⟩
  · simp at h; subst h; exact ⟨_, [], Tryd.func83, c83⟩
  · simp at h; subst h; exact ⟨_, [], Tryd.func84, c84⟩
  · simp at h; subst h; exact ⟨_, [], Tryd.func85, c85⟩
  · simp at h
end S
end Go.Proofs.YthihchoccpnfeaaDoor
namespace Go.Proofs.YthihchoccpnfeaaDoor
open Go Go.HL Go.Shelf V
namespace A
set_option maxRecDepth 100000
set_option maxHeartbeats 40000000
theorem ok9 : okF Tryd.prog 9 := ⟨_, Tryd.func9, by kernel_rfl, by kernel_rfl⟩
theorem run9 : ((hcall S.F X 400 9 [] []).map fun x => HV.eqb x.1 (.bool true)) = some true := by kernel_rfl
theorem shown9 (hs : HS) : HC Tryd.prog 9 [] hs fun v hs' => v = .bool true ∧ hs' = hs :=
  HC.frame (R := fun v => v = .bool true) rfl (fun v h => by subst h; rfl) (hcall_bool mixed S.F_ok X_ok rfl run9)
theorem shown9S {hs : HS} {l : List SA} (H : Sat hs l) : HC Tryd.prog 9 [] hs fun v hs' => v = .bool true ∧ Sat hs' l := (shown9 hs).mono fun v hs' h => ⟨h.1, by rw [h.2]; exact H⟩
theorem fill5 {k a b : Int} {t : List UInt8} {w : HV} (h : w.one = true) : hfill [.int .i64 0, .int .i64 0, .int .i64 0, .str [], .nilSlice] [(0, 5, .agg [.int .i64 k, .int .i64 a, .int .i64 b, .str t, w])] = some [.int .i64 k, .int .i64 a, .int .i64 b, .str t, w] := by
  rw [hf_agg (n := 5) (by simp only [List.all_cons, List.all_nil, on_int, on_str, h, Bool.and_self]) rfl (by decide)]; rfl
end A
end Go.Proofs.YthihchoccpnfeaaDoor
namespace Go.Proofs.YthihchoccpnfeaaDoor
open Go Go.HL Go.Shelf V
namespace A
set_option maxRecDepth 100000
set_option maxHeartbeats 40000000
set_option linter.unusedSimpArgs false
attribute [local irreducible] pt My Ex Vw Gr GrK each grp exs Sat takeCells happend hbuildSlice hstore hbox hslice hmakeSlice hs2b hcopy HL.unit opC
theorem take_mid {all : List UInt8} {a n : Nat} : all.take a ++ (all.take (a + n)).drop a = all.take (a + n) := by
  have h := List.take_append_drop a (all.take (a + n))
  rwa [List.take_take, Nat.min_eq_left (by omega)] at h
theorem dec_nil : Dec [] [] false [] := by
  have h : firstK [] = none := by
    cases e : firstK [] with
    | none => rfl
    | some k =>
      obtain ⟨_, h2, h3⟩ := first_put e
      have := put_long k (formF k []).id (formF k []).num (formF k []).tube (formF k []).body
      have h4 := congrArg List.length h3
      unfold outF at h4
      simp only [List.length_append, List.length_nil] at h4
      omega
  exact Dec.wait h (by simp)
end A
end Go.Proofs.YthihchoccpnfeaaDoor
namespace Go.Proofs.YthihchoccpnfeaaDoor
open Go Go.HL Go.Shelf V
namespace A
set_option maxRecDepth 100000
set_option maxHeartbeats 40000000
set_option linter.unusedSimpArgs false
attribute [local irreducible] pt My Ex Vw Gr GrK each grp exs Sat takeCells happend hbuildSlice hstore hbox hslice hmakeSlice hs2b hcopy HL.unit opC
theorem rdl_cut {hs : HS} {l : List SA} {w : HV} {bs : List UInt8} {a j : Nat} (H : Sat hs l) (R : Rdl l w bs.length (bcells bs)) (ha : a ≤ j) (hk : j ≤ bs.length) : ∃ x, hslice w (some (.int .i64 (a : Nat))) (some (.int .i64 (j : Nat))) none = some x ∧ x.one = true ∧ x.cells = [x] ∧
    Rdl l x ((bs.take j).drop a).length (bcells ((bs.take j).drop a)) := by
  obtain ⟨x, hx, r1⟩ := rd_cut (R _ H) rfl (lo := a) (hi := j) (Lo.some (k := .i64)) (Hi.some (k := .i64)) ha hk
  refine ⟨x, hx, r1.one, r1.cells, fun hs H => ?_⟩
  obtain ⟨x2, hx2, r2⟩ := rd_cut (R _ H) rfl (lo := a) (hi := j) (Lo.some (k := .i64)) (Hi.some (k := .i64)) ha hk
  rw [hx] at hx2; cases hx2
  rw [List.length_drop, List.length_take, Nat.min_eq_left hk, List.drop_take]
  exact r2
theorem rdl_tail {hs : HS} {l : List SA} {w : HV} {bs : List UInt8} {a : Nat} (H : Sat hs l) (R : Rdl l w bs.length (bcells bs)) (ha : a ≤ bs.length) : ∃ x, hslice w (some (.int .i64 (a : Nat))) none none = some x ∧ x.one = true ∧ x.cells = [x] ∧
    Rdl l x (bs.drop a).length (bcells (bs.drop a)) := by
  obtain ⟨x, hx, r1⟩ := rd_cut (R _ H) rfl (lo := a) (hi := bs.length) (Lo.some (k := .i64)) Hi.none ha (Nat.le_refl _)
  refine ⟨x, hx, r1.one, r1.cells, fun hs H => ?_⟩
  obtain ⟨x2, hx2, r2⟩ := rd_cut (R _ H) rfl (lo := a) (hi := bs.length) (Lo.some (k := .i64)) Hi.none ha (Nat.le_refl _)
  rw [hx] at hx2; cases hx2
  rw [List.length_drop]
  rwa [List.take_of_length_le (by rw [List.length_drop]; omega)] at r2
theorem feed22b {hs : HS} {l : List SA} {p : Nat} {L : List RE} {r : List UInt8} {bv : HV} (H : Sat hs (ReadP p L true r :: l)) :
    HC Tryd.prog 22 [.ptr p 0, bv] hs fun _ hs' => Sat hs' (ReadP p L true r :: l) := by
  obtain ⟨vc, vr, H1⟩ := read_open.1 H
  clear H
  have H := H1
  clear H1
  refine HC.wp mixed Tryd.func22 c22 ?_
  first | have f0 := Sat.pf (H) | have f0 := trivial
  first | have f1 := Sat.pf (H.t) | have f1 := trivial
  first | have f2 := Sat.pf (H.t.t) | have f2 := trivial
  first | have f3 := Sat.pf (H.t.t.t) | have f3 := trivial
  first | have f4 := Sat.pf (H.t.t.t.t) | have f4 := trivial
  first | have f5 := Sat.pf (H.t.t.t.t.t) | have f5 := trivial
  first | have f6 := Sat.pf (H.t.t.t.t.t.t) | have f6 := trivial
  first | have f7 := Sat.pf (H.t.t.t.t.t.t.t) | have f7 := trivial
  first | have f8 := Sat.pf (H.t.t.t.t.t.t.t.t) | have f8 := trivial
  first | have f9 := Sat.pf (H.t.t.t.t.t.t.t.t.t) | have f9 := trivial
  repeat' first
    | ((with_reducible show Need _); refine need_of ?_; (first | have f0 := Sat.pf (H) | have f0 := trivial); (first | have f1 := Sat.pf (H.t) | have f1 := trivial); (first | have f2 := Sat.pf (H.t.t) | have f2 := trivial); (first | have f3 := Sat.pf (H.t.t.t) | have f3 := trivial); (first | have f4 := Sat.pf (H.t.t.t.t) | have f4 := trivial); (first | have f5 := Sat.pf (H.t.t.t.t.t) | have f5 := trivial); (first | have f6 := Sat.pf (H.t.t.t.t.t.t) | have f6 := trivial); (first | have f7 := Sat.pf (H.t.t.t.t.t.t.t) | have f7 := trivial); (first | have f8 := Sat.pf (H.t.t.t.t.t.t.t.t) | have f8 := trivial); (first | have f9 := Sat.pf (H.t.t.t.t.t.t.t.t.t) | have f9 := trivial))
    | simp -implicitDefEqProofs (disch := first | omega | decide | exact rfl | assumption | exact Nat.le_of_ble_eq_true rfl | exact One.c | exact One.o) only [vsA, vsB, eq_self, if_true, if_false, implies_true, false_implies, evp, HX.ev, Nat.reduceAdd, HOp.looks, Nat.reduceEqDiff, overw, Nat.reduceBEq, h22, ub22, f0, f1, f2, f3, f4, f5, f6, f7, f8, f9, frame0, List.replicate, Nat.sub]
    | (refine condK_cases (fun h => ?_) (fun h => ?_) <;> (try simp only [h]) <;> (try simp only [athA, ne_eq] at h) <;> (try (exfalso; omega)))
    | (refine guardK_cases (fun h => ?_) (fun h => ?_) <;> (try simp only [h]) <;> (try simp only [athA, ne_eq] at h) <;> (try (exfalso; omega)))
    | (refine dgK_cases (fun h => ?_) (fun h => ?_) <;> (try simp only [h]) <;> (try simp only [athA, ne_eq] at h) <;> (try (exfalso; omega)))
    | (clear H f0 f1 f2 f3 f4 f5 f6 f7 f8 f9; (with_reducible intro v2 hs H); (try simp only [setA, overw, Nat.reduceAdd] at H); refine need ?_)
    | refine opC_K ?_
    | refine opC_D ?_
    | ((with_reducible show opC (unit (hstore _ _ _ _)) _); refine sl_store1 (by with_reducible first | exact H | exact H.p1 | exact H.p2 | exact H.p3 | exact H.p4 | exact H.p5 | exact H.p6 | exact H.p7 | exact H.p8 | exact H.p9) (Nat.le_of_ble_eq_true rfl) (by first | exact rfl | (simp only [f0, f1, f2, f3, f4, f5, f6, f7, f8, f9]; done) | (simp only [onA, *]; done)) (by first | exact rfl | (simp only [f0, f1, f2, f3, f4, f5, f6, f7, f8, f9]; done) | (simp only [onA, *]; done)) ?_)
    | ((with_reducible show opC (unit (hstore _ _ _ _)) _); refine sl_storeN (by with_reducible first | exact H | exact H.p1 | exact H.p2 | exact H.p3 | exact H.p4 | exact H.p5 | exact H.p6 | exact H.p7 | exact H.p8 | exact H.p9) rfl (Nat.le_of_ble_eq_true rfl) (by first | exact rfl | (simp only [f0, f1, f2, f3, f4, f5, f6, f7, f8, f9]; done) | (simp only [onA, *]; done)) ?_)
    | ((with_reducible show opC (happend _ _ _ _ _) _); refine sl_append (by with_reducible first | exact H | exact H.p1 | exact H.p2 | exact H.p3 | exact H.p4 | exact H.p5 | exact H.p6 | exact H.p7 | exact H.p8 | exact H.p9) (by first | assumption | with_reducible first | exact f0.2.1 | exact f1.2.1 | exact f2.2.1 | exact f3.2.1 | exact f4.2.1 | exact f5.2.1 | exact f6.2.1 | exact f7.2.1 | exact f8.2.1 | exact f9.2.1 | exact va_takeS) (by first | exact roomFor_of (by omega) | exact roomFor_wide (by omega)) (by omega) ?_)
    | ((with_reducible show opC (happend _ _ _ _ _) _); refine sl_append0X H (by first | assumption | with_reducible first | exact f0.2.1 | exact f1.2.1 | exact f2.2.1 | exact f3.2.1 | exact f4.2.1 | exact f5.2.1 | exact f6.2.1 | exact f7.2.1 | exact f8.2.1 | exact f9.2.1 | exact va_takeS) (by first | exact roomFor_of (by omega) | exact roomFor_wide (by omega)) (by omega) ?_)
    | ((with_reducible show opC (happend _ _ _ _ _) _); refine sl_appendX (by with_reducible first | exact H | exact H.p1 | exact H.p2 | exact H.p3 | exact H.p4 | exact H.p5 | exact H.p6 | exact H.p7 | exact H.p8 | exact H.p9) (by first | assumption | with_reducible first | exact f0.2.1 | exact f1.2.1 | exact f2.2.1 | exact f3.2.1 | exact f4.2.1 | exact f5.2.1 | exact f6.2.1 | exact f7.2.1 | exact f8.2.1 | exact f9.2.1 | exact va_takeS) (by first | exact roomFor_of (by omega) | exact roomFor_wide (by omega)) (by omega) ?_)
    | ((with_reducible show opC (hbuildSlice _ _ _ _ _) _); refine sl_bslice1 H rfl (by first | exact rfl | (simp only [f0, f1, f2, f3, f4, f5, f6, f7, f8, f9]; done) | (simp only [onA, *]; done)) (by first | exact rfl | (simp only [f0, f1, f2, f3, f4, f5, f6, f7, f8, f9]; done) | (simp only [onA, *]; done)) ?_)
    | ((with_reducible show opC (hbox _ _) _); refine sl_box1 H (by first | exact rfl | (simp only [f0, f1, f2, f3, f4, f5, f6, f7, f8, f9]; done) | (simp only [onA, *]; done)) (by first | exact rfl | (simp only [f0, f1, f2, f3, f4, f5, f6, f7, f8, f9]; done) | (simp only [onA, *]; done)) ?_)
    | ((with_reducible show opC (hbox _ _) _); refine sl_boxA H (by first | exact rfl | (simp only [f0, f1, f2, f3, f4, f5, f6, f7, f8, f9]; done) | (simp only [onA, *]; done)) ?_)
    | refine hwp_draw mixed rfl ?_
    | with_reducible intro hy

  exact read_open.2 ⟨vc, vr, H⟩
/-- Feed, told of all that came. -/
theorem feedW {hs : HS} {l : List SA} {p : Nat} {L : List RE} {r b B : List UInt8} {l0 : List (Int × Fm)} {bad : Bool} {bv : HV} (H : Sat hs (ReadP p L bad r :: l)) (D : Dec B l0 bad r) (R : Rdl l bv b.length (bcells b)) (hb : L.length + r.length + b.length < 1099511627776) :
    HC Tryd.prog 22 [.ptr p 0, bv] hs fun _ hs' => ∃ L' bad' r', Dec (B ++ b) (l0 ++ L'.map RE.x) bad' r' ∧ Sat hs' (ReadP p (L ++ L') bad' r' :: l) := by
  cases bad with
  | false =>
    refine (feed22 H R hb).mono ?_
    rintro v hs' ⟨L', bad, r', h1, h2⟩
    exact ⟨L', bad, r', D.app rfl h1, h2⟩
  | true =>
    refine (feed22b (bv := bv) H).mono ?_
    intro v hs' h
    exact ⟨[], true, r, by rw [List.map_nil, List.append_nil]; exact D.app_bad rfl, by rw [List.append_nil]; exact h⟩
/-- a reply without its size. -/
def RE.cells5 (e : RE) : List HV := [.int .i64 e.x.1, .int .i64 (e.x.2.id : Nat), .int .i64 (e.x.2.num : Nat), .str e.x.2.tube, e.w]
theorem first_small {b : List UInt8} {k : Int} (h : firstK b = some k) : (formF k b).id ≤ 1099511627776 ∧ (formF k b).num ≤ 4294967295 ∧ (formF k b).tube.length ≤ 200 := by
  obtain ⟨g1, _, _⟩ := first_put h
  obtain ⟨_, q2, q3, q4, _⟩ := check_all g1
  unfold idB at q2
  unfold numB at q3
  unfold tubeB at q4
  refine ⟨?_, ?_, ?_⟩
  · split at q2 <;> simp at q2 <;> omega
  · split at q3 <;> simp at q3 <;> omega
  · split at q4
    · exact valid_len q4
    · simp at q4; simp [q4]
theorem dec_cons {B r : List UInt8} {l : List (Int × Fm)} {x : Int × Fm} {bad : Bool} (h : Dec B (x :: l) bad r) :
    checkF x.1 x.2.id x.2.num x.2.tube x.2.body.length = 0 ∧ (x.2.id ≤ 1099511627776 ∧ x.2.num ≤ 4294967295 ∧ x.2.tube.length ≤ 200) ∧ ∃ t, B = outF x ++ t ∧ Dec t l bad r := by
  cases h with
  | more e h2 =>
    obtain ⟨g1, g2, g3⟩ := first_put e
    exact ⟨g1, first_small e, _, g3, h2⟩
theorem same14S {hs : HS} {l : List SA} {a b : HV} {x y : List UInt8} (H : Sat hs l) (Ra : Rdl l a x.length (bcells x)) (Rb : Rdl l b y.length (bcells y)) (hx : x.length < 9223372036854775808) (hy : y.length < 9223372036854775808) : HC Tryd.prog 14 [a, b] hs fun v hs' => v = .bool (x == y) ∧ Sat hs' l :=
  (same14R (Ra _ H) (Rb _ H) hx hy).mono fun v hs' h => ⟨h.1, by rw [h.2]; exact H⟩
theorem law5 {hs : HS} {l : List SA} {bv cv : HV} {b : List UInt8} {C : List Int} (H : Sat hs l) (RB : Rdl l bv b.length (bcells b)) (RC : ∀ hs, Sat hs l → Rd hs 1 cv C.length (C.map (HV.int .i64))) (G : ∀ hs, Sat hs l → hasTab hs 1 .u64 Lib.pow10Tab = true)
    (hb : b.length < 1073741824) (hC : C.length < 1099511627776) (early : Bool) :
    HC Tryd.prog 5 [bv, cv, .bool early] hs fun r _ => r = .bool true := by
  have hmax : maxLen = 9223372036854775807 := rfl
  have one := (RB _ H).one
  have cel := (RB _ H).cells
  have len := (RB _ H).len
  have one2 := (RC _ H).one
  have cel2 := (RC _ H).cells
  have len2 := (RC _ H).len
  refine HC.wp mixed Tryd.func5 c5 ?_
  first | have f0 := Sat.pf (H) | have f0 := trivial
  first | have f1 := Sat.pf (H.t) | have f1 := trivial
  first | have f2 := Sat.pf (H.t.t) | have f2 := trivial
  first | have f3 := Sat.pf (H.t.t.t) | have f3 := trivial
  first | have f4 := Sat.pf (H.t.t.t.t) | have f4 := trivial
  first | have f5 := Sat.pf (H.t.t.t.t.t) | have f5 := trivial
  first | have f6 := Sat.pf (H.t.t.t.t.t.t) | have f6 := trivial
  first | have f7 := Sat.pf (H.t.t.t.t.t.t.t) | have f7 := trivial
  first | have f8 := Sat.pf (H.t.t.t.t.t.t.t.t) | have f8 := trivial
  first | have f9 := Sat.pf (H.t.t.t.t.t.t.t.t.t) | have f9 := trivial
  repeat' first
    | ((with_reducible show Need _); refine need_of ?_; (first | have f0 := Sat.pf (H) | have f0 := trivial); (first | have f1 := Sat.pf (H.t) | have f1 := trivial); (first | have f2 := Sat.pf (H.t.t) | have f2 := trivial); (first | have f3 := Sat.pf (H.t.t.t) | have f3 := trivial); (first | have f4 := Sat.pf (H.t.t.t.t) | have f4 := trivial); (first | have f5 := Sat.pf (H.t.t.t.t.t) | have f5 := trivial); (first | have f6 := Sat.pf (H.t.t.t.t.t.t) | have f6 := trivial); (first | have f7 := Sat.pf (H.t.t.t.t.t.t.t) | have f7 := trivial); (first | have f8 := Sat.pf (H.t.t.t.t.t.t.t.t) | have f8 := trivial); (first | have f9 := Sat.pf (H.t.t.t.t.t.t.t.t.t) | have f9 := trivial))
    | simp -implicitDefEqProofs (disch := first | omega | decide | exact rfl | assumption | exact Nat.le_of_ble_eq_true rfl | exact One.c | exact One.o) only [vsA, vsB, eq_self, if_true, if_false, implies_true, false_implies, evp, HX.ev, Nat.reduceAdd, HOp.looks, Nat.reduceEqDiff, overw, Nat.reduceBEq, h5, one, cel, len, one2, cel2, len2, ub5, f0, f1, f2, f3, f4, f5, f6, f7, f8, f9, frame0, List.replicate, Nat.sub]
    | (refine condK_cases (fun h => ?_) (fun h => ?_) <;> (try simp only [h]) <;> (try simp only [athA, ne_eq] at h) <;> (try (exfalso; omega)))
    | (refine guardK_cases (fun h => ?_) (fun h => ?_) <;> (try simp only [h]) <;> (try simp only [athA, ne_eq] at h) <;> (try (exfalso; omega)))
    | (clear H f0 f1 f2 f3 f4 f5 f6 f7 f8 f9; (with_reducible intro v2 hs H); (try simp only [setA, overw, Nat.reduceAdd] at H); refine need ?_)
    | ((with_reducible show actK _ (HAct.call (HX.cst (HV.func (Fn.func 9) _ _)) _) _ _ _ _ _); refine vcall_of ok9 rfl (shown9S H) ?_;  clear H f0 f1 f2 f3 f4 f5 f6 f7 f8 f9; rintro r hs ⟨rfl, H⟩; refine need ?_)
    | ((with_reducible show actK _ (HAct.call (HX.cst (HV.func (Fn.func 21) _ _)) _) _ _ _ _ _); refine vcall_of ok21 rfl (new21 H) ?_;  clear H f0 f1 f2 f3 f4 f5 f6 f7 f8 f9; rintro r hs ⟨p, rfl, H⟩; refine need ?_)
    | refine opC_K ?_
    | ((with_reducible show opC (unit (hstore _ _ _ _)) _); refine sl_store1 (by with_reducible first | exact H | exact H.p1 | exact H.p2 | exact H.p3 | exact H.p4 | exact H.p5 | exact H.p6 | exact H.p7 | exact H.p8 | exact H.p9) (Nat.le_of_ble_eq_true rfl) (by first | exact rfl | (simp only [f0, f1, f2, f3, f4, f5, f6, f7, f8, f9]; done) | (simp only [onA, *]; done)) (by first | exact rfl | (simp only [f0, f1, f2, f3, f4, f5, f6, f7, f8, f9]; done) | (simp only [onA, *]; done)) ?_)
    | ((with_reducible show opC (unit (hstore _ _ _ _)) _); refine sl_storeN (by with_reducible first | exact H | exact H.p1 | exact H.p2 | exact H.p3 | exact H.p4 | exact H.p5 | exact H.p6 | exact H.p7 | exact H.p8 | exact H.p9) rfl (Nat.le_of_ble_eq_true rfl) (by first | exact rfl | (simp only [f0, f1, f2, f3, f4, f5, f6, f7, f8, f9]; done) | (simp only [onA, *]; done)) ?_)
    | ((with_reducible show opC (happend _ _ _ _ _) _); refine sl_append (by with_reducible first | exact H | exact H.p1 | exact H.p2 | exact H.p3 | exact H.p4 | exact H.p5 | exact H.p6 | exact H.p7 | exact H.p8 | exact H.p9) (by first | assumption | with_reducible first | exact f0.2.1 | exact f1.2.1 | exact f2.2.1 | exact f3.2.1 | exact f4.2.1 | exact f5.2.1 | exact f6.2.1 | exact f7.2.1 | exact f8.2.1 | exact f9.2.1 | exact va_takeS) (by first | exact roomFor_of (by omega) | exact roomFor_wide (by omega)) (by omega) ?_)
    | ((with_reducible show opC (happend _ _ _ _ _) _); refine sl_append0X H (by first | assumption | with_reducible first | exact f0.2.1 | exact f1.2.1 | exact f2.2.1 | exact f3.2.1 | exact f4.2.1 | exact f5.2.1 | exact f6.2.1 | exact f7.2.1 | exact f8.2.1 | exact f9.2.1 | exact va_takeS) (by first | exact roomFor_of (by omega) | exact roomFor_wide (by omega)) (by omega) ?_)
    | ((with_reducible show opC (happend _ _ _ _ _) _); refine sl_appendX (by with_reducible first | exact H | exact H.p1 | exact H.p2 | exact H.p3 | exact H.p4 | exact H.p5 | exact H.p6 | exact H.p7 | exact H.p8 | exact H.p9) (by first | assumption | with_reducible first | exact f0.2.1 | exact f1.2.1 | exact f2.2.1 | exact f3.2.1 | exact f4.2.1 | exact f5.2.1 | exact f6.2.1 | exact f7.2.1 | exact f8.2.1 | exact f9.2.1 | exact va_takeS) (by first | exact roomFor_of (by omega) | exact roomFor_wide (by omega)) (by omega) ?_)
    | ((with_reducible show opC (hbuildSlice _ _ _ _ _) _); refine sl_bslice1 H rfl (by first | exact rfl | (simp only [f0, f1, f2, f3, f4, f5, f6, f7, f8, f9]; done) | (simp only [onA, *]; done)) (by first | exact rfl | (simp only [f0, f1, f2, f3, f4, f5, f6, f7, f8, f9]; done) | (simp only [onA, *]; done)) ?_)
    | ((with_reducible show opC (hbox _ _) _); refine sl_box1 H (by first | exact rfl | (simp only [f0, f1, f2, f3, f4, f5, f6, f7, f8, f9]; done) | (simp only [onA, *]; done)) (by first | exact rfl | (simp only [f0, f1, f2, f3, f4, f5, f6, f7, f8, f9]; done) | (simp only [onA, *]; done)) ?_)
    | ((with_reducible show opC (hbox _ _) _); refine sl_boxA H (by first | exact rfl | (simp only [f0, f1, f2, f3, f4, f5, f6, f7, f8, f9]; done) | (simp only [onA, *]; done)) ?_)
    | with_reducible intro hy

  rename_i p7
  clear f0 f1 f2 f3 f4 f5 f6 f7 f8 f9
  have H1 := H.p1
  clear H
  have H := H1
  clear H1
  first | have f0 := Sat.pf (H) | have f0 := trivial
  first | have f1 := Sat.pf (H.t) | have f1 := trivial
  first | have f2 := Sat.pf (H.t.t) | have f2 := trivial
  first | have f3 := Sat.pf (H.t.t.t) | have f3 := trivial
  first | have f4 := Sat.pf (H.t.t.t.t) | have f4 := trivial
  first | have f5 := Sat.pf (H.t.t.t.t.t) | have f5 := trivial
  first | have f6 := Sat.pf (H.t.t.t.t.t.t) | have f6 := trivial
  first | have f7 := Sat.pf (H.t.t.t.t.t.t.t) | have f7 := trivial
  first | have f8 := Sat.pf (H.t.t.t.t.t.t.t.t) | have f8 := trivial
  first | have f9 := Sat.pf (H.t.t.t.t.t.t.t.t.t) | have f9 := trivial
  repeat' first
    | ((with_reducible show Need _); refine need_of ?_; (first | have f0 := Sat.pf (H) | have f0 := trivial); (first | have f1 := Sat.pf (H.t) | have f1 := trivial); (first | have f2 := Sat.pf (H.t.t) | have f2 := trivial); (first | have f3 := Sat.pf (H.t.t.t) | have f3 := trivial); (first | have f4 := Sat.pf (H.t.t.t.t) | have f4 := trivial); (first | have f5 := Sat.pf (H.t.t.t.t.t) | have f5 := trivial); (first | have f6 := Sat.pf (H.t.t.t.t.t.t) | have f6 := trivial); (first | have f7 := Sat.pf (H.t.t.t.t.t.t.t) | have f7 := trivial); (first | have f8 := Sat.pf (H.t.t.t.t.t.t.t.t) | have f8 := trivial); (first | have f9 := Sat.pf (H.t.t.t.t.t.t.t.t.t) | have f9 := trivial))
    | simp -implicitDefEqProofs (disch := first | omega | decide | exact rfl | assumption | exact Nat.le_of_ble_eq_true rfl | exact One.c | exact One.o) only [vsA, vsB, eq_self, if_true, if_false, implies_true, false_implies, evp, HX.ev, Nat.reduceAdd, HOp.looks, Nat.reduceEqDiff, overw, Nat.reduceBEq, one, cel, len, one2, cel2, len2, ub5, f0, f1, f2, f3, f4, f5, f6, f7, f8, f9]
    | (refine condK_cases (fun h => ?_) (fun h => ?_) <;> (try simp only [h]) <;> (try simp only [athA, ne_eq] at h) <;> (try (exfalso; omega)))
    | (refine guardK_cases (fun h => ?_) (fun h => ?_) <;> (try simp only [h]) <;> (try simp only [athA, ne_eq] at h) <;> (try (exfalso; omega)))
    | (clear H f0 f1 f2 f3 f4 f5 f6 f7 f8 f9; (with_reducible intro v2 hs H); (try simp only [setA, overw, Nat.reduceAdd] at H); refine need ?_)
    | ((with_reducible show actK _ (HAct.call (HX.cst (HV.func (Fn.func 22) _ _)) _) _ _ _ _ _); refine vcall_of ok22 rfl (feedW (p := p7) (b := b) H dec_nil (fun _ h => RB _ h.t) (by simp; omega)) ?_;  clear H f0 f1 f2 f3 f4 f5 f6 f7 f8 f9; rintro r hs ⟨LX, badx, rx, hDX, H⟩; refine need ?_)
    | refine opC_K ?_
    | ((with_reducible show opC (hbuildSlice _ _ _ _ _) _); refine sl_bslice0 H ?_; clear H f0 f1 f2 f3 f4 f5 f6 f7 f8 f9; intro w9 hs H; refine need ?_)
    | ((with_reducible show opC (unit (hstore _ _ _ _)) _); refine sl_store1 (by with_reducible first | exact H | exact H.p1 | exact H.p2 | exact H.p3 | exact H.p4 | exact H.p5 | exact H.p6 | exact H.p7 | exact H.p8 | exact H.p9) (Nat.le_of_ble_eq_true rfl) (by first | exact rfl | (simp only [f0, f1, f2, f3, f4, f5, f6, f7, f8, f9]; done) | (simp only [onA, *]; done)) (by first | exact rfl | (simp only [f0, f1, f2, f3, f4, f5, f6, f7, f8, f9]; done) | (simp only [onA, *]; done)) ?_)
    | ((with_reducible show opC (unit (hstore _ _ _ _)) _); refine sl_storeN (by with_reducible first | exact H | exact H.p1 | exact H.p2 | exact H.p3 | exact H.p4 | exact H.p5 | exact H.p6 | exact H.p7 | exact H.p8 | exact H.p9) rfl (Nat.le_of_ble_eq_true rfl) (by first | exact rfl | (simp only [f0, f1, f2, f3, f4, f5, f6, f7, f8, f9]; done) | (simp only [onA, *]; done)) ?_)
    | ((with_reducible show opC (happend _ _ _ _ _) _); refine sl_append (by with_reducible first | exact H | exact H.p1 | exact H.p2 | exact H.p3 | exact H.p4 | exact H.p5 | exact H.p6 | exact H.p7 | exact H.p8 | exact H.p9) (by first | assumption | with_reducible first | exact f0.2.1 | exact f1.2.1 | exact f2.2.1 | exact f3.2.1 | exact f4.2.1 | exact f5.2.1 | exact f6.2.1 | exact f7.2.1 | exact f8.2.1 | exact f9.2.1 | exact va_takeS) (by first | exact roomFor_of (by omega) | exact roomFor_wide (by omega)) (by omega) ?_)
    | ((with_reducible show opC (happend _ _ _ _ _) _); refine sl_append0X H (by first | assumption | with_reducible first | exact f0.2.1 | exact f1.2.1 | exact f2.2.1 | exact f3.2.1 | exact f4.2.1 | exact f5.2.1 | exact f6.2.1 | exact f7.2.1 | exact f8.2.1 | exact f9.2.1 | exact va_takeS) (by first | exact roomFor_of (by omega) | exact roomFor_wide (by omega)) (by omega) ?_)
    | ((with_reducible show opC (happend _ _ _ _ _) _); refine sl_appendX (by with_reducible first | exact H | exact H.p1 | exact H.p2 | exact H.p3 | exact H.p4 | exact H.p5 | exact H.p6 | exact H.p7 | exact H.p8 | exact H.p9) (by first | assumption | with_reducible first | exact f0.2.1 | exact f1.2.1 | exact f2.2.1 | exact f3.2.1 | exact f4.2.1 | exact f5.2.1 | exact f6.2.1 | exact f7.2.1 | exact f8.2.1 | exact f9.2.1 | exact va_takeS) (by first | exact roomFor_of (by omega) | exact roomFor_wide (by omega)) (by omega) ?_)
    | ((with_reducible show opC (hbuildSlice _ _ _ _ _) _); refine sl_bslice1 H rfl (by first | exact rfl | (simp only [f0, f1, f2, f3, f4, f5, f6, f7, f8, f9]; done) | (simp only [onA, *]; done)) (by first | exact rfl | (simp only [f0, f1, f2, f3, f4, f5, f6, f7, f8, f9]; done) | (simp only [onA, *]; done)) ?_)
    | ((with_reducible show opC (hbox _ _) _); refine sl_box1 H (by first | exact rfl | (simp only [f0, f1, f2, f3, f4, f5, f6, f7, f8, f9]; done) | (simp only [onA, *]; done)) (by first | exact rfl | (simp only [f0, f1, f2, f3, f4, f5, f6, f7, f8, f9]; done) | (simp only [onA, *]; done)) ?_)
    | ((with_reducible show opC (hbox _ _) _); refine sl_boxA H (by first | exact rfl | (simp only [f0, f1, f2, f3, f4, f5, f6, f7, f8, f9]; done) | (simp only [onA, *]; done)) ?_)
    | with_reducible intro hy

  rw [List.nil_append] at hDX H
  rw [List.nil_append] at hDX
  refine HW.loopA mixed (fun t : Nat × Nat × HV × List RE × List RE × Bool × List UInt8 => (bv :: cv :: .bool early :: .undef :: .undef :: .undef :: .undef :: .ptr p7 0 :: .ptr p 0 :: t.2.2.1 :: .int .i64 (t.2.1 : Nat) :: .int .i64 (t.1 : Nat) :: .undef :: .undef :: .undef :: .undef :: .undef :: .undef :: .undef :: .undef :: .undef :: .undef :: .undef :: .undef :: .undef :: .undef :: .undef :: .undef :: .undef :: .undef :: .undef :: .undef :: .undef :: .undef :: .undef :: .undef :: .undef :: .undef :: .undef :: .undef :: .undef :: .undef :: .undef :: .undef :: .undef :: .undef :: .undef :: .undef :: .undef :: .undef :: .undef :: .undef :: .undef :: .undef :: .undef :: .undef :: .undef :: .undef :: .undef :: .undef :: .undef :: .undef :: .undef :: .undef :: .undef :: .undef :: .undef :: .undef :: .undef :: .undef :: .undef :: .undef :: .undef :: .undef :: .undef :: .undef :: .undef :: .undef :: .undef :: .undef :: .undef :: .undef :: .undef :: .undef :: .undef :: .undef :: .undef :: .undef :: .undef :: .undef :: .undef :: .undef :: .undef :: .undef :: .undef :: .undef :: .undef :: .undef :: .undef :: .undef :: .undef :: .undef :: .undef :: .undef :: .undef :: .undef :: .undef :: .undef :: .undef :: .undef :: .undef :: .undef :: .undef :: .undef :: .undef :: .undef :: .undef :: .undef :: .undef :: .undef :: .undef :: .undef :: .undef :: .undef :: .undef :: .undef :: .undef :: .undef :: .undef :: .undef :: .undef :: .undef :: .undef :: .undef :: .undef :: .undef :: .undef :: .undef :: .undef :: .undef :: .undef :: .undef :: .undef :: .undef :: .undef :: .undef :: .undef :: .undef :: .undef :: .undef :: .undef :: .undef :: .undef :: .undef :: .undef :: .undef :: .undef :: .undef :: .undef :: .undef :: .undef :: .undef :: .undef :: .undef :: .undef :: .undef :: .undef :: .undef :: .undef :: .undef :: .undef :: .undef :: .undef :: .undef :: .undef :: .undef :: .undef :: .undef :: .undef :: .undef :: .undef :: .undef :: .undef :: .undef :: .undef :: .undef :: .undef :: .undef :: .undef :: .undef :: .undef :: .undef :: .undef :: .undef :: .undef :: .undef :: .undef :: .undef :: .undef :: .undef :: .undef :: .undef :: .undef :: .undef :: .undef :: .undef :: .undef :: .undef :: .undef :: .undef :: .undef :: []))
    (fun t => My 5 t.2.2.1 t.2.2.2.1.length (t.2.2.2.1.flatMap RE.cells5) :: each RE.P t.2.2.2.1 :: ReadP p t.2.2.2.2.1 t.2.2.2.2.2.1 t.2.2.2.2.2.2 :: ReadP p7 LX badx rx :: l) (fun t => C.length - t.1)
    (fun t => t.1 ≤ C.length ∧ t.2.1 ≤ b.length ∧ Dec (b.take t.2.1) (t.2.2.2.1.map RE.x ++ t.2.2.2.2.1.map RE.x) t.2.2.2.2.2.1 t.2.2.2.2.2.2) (0, 0, w9, [], [], false, []) ⟨Nat.zero_le _, Nat.zero_le _, dec_nil⟩ (by (repeat first | exact Less.nil | refine Less.undef _ ?_ | refine Less.keep _ ?_)) (Sat.p1 (Sat.each_nil.2 H.p1.p2.p2)) ?_
  clear H
  rintro ⟨i, at_, w9, got, Lp, badp, rp⟩ hs ⟨hi, hat, hD⟩ H
  simp only at hi hat hD H
  have hDb := dec_bounds hD
  have hDb : 2 * (got.length + Lp.length) + rp.length ≤ b.length := by
    have h := hDb.2.2.1
    simp only [List.length_append, List.length_map, List.length_take] at h
    omega
  by_cases hgo : i < C.length ∧ at_ < b.length
  · obtain ⟨h1, h2⟩ := hgo
    have d0 : decide (((i : Nat) : Int) < ((C.length : Nat) : Int)) = true := decide_eq_true (by omega)
    have d00 : decide (((at_ : Nat) : Int) < ((b.length : Nat) : Int)) = true := decide_eq_true (by omega)
    obtain ⟨c0, hc0⟩ : ∃ c0, c0 = C[i] := ⟨_, rfl⟩
    have ci : (C.map (HV.int .i64))[i]? = some (.int .i64 c0) := by rw [List.getElem?_map, List.getElem?_eq_getElem h1, hc0]; rfl
    obtain ⟨q, hq, _⟩ := (RC _ H.t.t.t.t).idx1 ci .i64
    have ld := (RC _ H.t.t.t.t).ld1 hq ci
    have so := (RC _ H.t.t.t.t).sOk
    have sob := (RB _ H.t.t.t.t).sOk
    clear hc0
    have va : hbin .sub none (.int .i64 (b.length : Nat)) (.int .i64 (at_ : Nat)) = some (.int .i64 ((b.length - at_ : Nat) : Int)) := vsubn ⟨hat, by omega⟩
    obtain ⟨n, hnl, hcase⟩ : ∃ n : Nat, at_ + n ≤ b.length ∧ ((decide (c0 < 0) = true ∧ True ∧ hbin .add none (.int .i64 (at_ : Nat)) (.int .i64 0) = some (.int .i64 ((at_ + n : Nat) : Int))) ∨
        (decide (c0 < 0) = false ∧ decide (((b.length - at_ : Nat) : Int) < c0) = true ∧ hbin .add none (.int .i64 (at_ : Nat)) (.int .i64 0) = some (.int .i64 ((at_ + n : Nat) : Int))) ∨
        (decide (c0 < 0) = false ∧ decide (((b.length - at_ : Nat) : Int) < c0) = false ∧ hbin .add none (.int .i64 (at_ : Nat)) (.int .i64 c0) = some (.int .i64 ((at_ + n : Nat) : Int)))) := by
      have z : hbin .add none (.int .i64 (at_ : Nat)) (.int .i64 0) = some (.int .i64 ((at_ + 0 : Nat) : Int)) := vaddn (j := 0) (by omega)
      by_cases h3 : c0 < 0
      · exact ⟨0, by omega, .inl ⟨decide_eq_true h3, trivial, z⟩⟩
      · by_cases h4 : ((b.length - at_ : Nat) : Int) < c0
        · exact ⟨0, by omega, .inr (.inl ⟨decide_eq_false h3, decide_eq_true h4, z⟩)⟩
        · obtain ⟨n, rfl⟩ := Int.eq_ofNat_of_zero_le (show 0 ≤ c0 by omega)
          exact ⟨n, by omega, .inr (.inr ⟨decide_eq_false h3, decide_eq_false h4, vaddn (by omega)⟩)⟩
    obtain ⟨y, hy, oy1, oy2, hyr⟩ := rdl_cut (a := at_) (j := at_ + n) H.t.t.t.t RB (by omega) hnl
    have hbl : ((b.take (at_ + n)).drop at_).length = n := by rw [List.length_drop, List.length_take]; omega
    have fed := fun hs H => feedW (hs := hs) (l := My 5 w9 got.length (got.flatMap RE.cells5) :: each RE.P got :: ReadP p7 LX badx rx :: l) (p := p) (L := Lp) (r := rp) (bad := badp) (b := (b.take (at_ + n)).drop at_) (bv := y) H hD (fun _ h => hyr _ h.t.t.t) (by rw [hbl]; omega)
    rw [take_mid] at fed
    rcases hcase with ⟨d1, d2, va2⟩ | ⟨d1, d2, va2⟩ | ⟨d1, d2, va2⟩
    all_goals
      first | have f0 := Sat.pf (H) | have f0 := trivial
      first | have f1 := Sat.pf (H.t) | have f1 := trivial
      first | have f2 := Sat.pf (H.t.t) | have f2 := trivial
      first | have f3 := Sat.pf (H.t.t.t) | have f3 := trivial
      first | have f4 := Sat.pf (H.t.t.t.t) | have f4 := trivial
      first | have f5 := Sat.pf (H.t.t.t.t.t) | have f5 := trivial
      first | have f6 := Sat.pf (H.t.t.t.t.t.t) | have f6 := trivial
      first | have f7 := Sat.pf (H.t.t.t.t.t.t.t) | have f7 := trivial
      first | have f8 := Sat.pf (H.t.t.t.t.t.t.t.t) | have f8 := trivial
      first | have f9 := Sat.pf (H.t.t.t.t.t.t.t.t.t) | have f9 := trivial
      repeat' first
        | ((with_reducible show Need _); refine need_of ?_; (first | have f0 := Sat.pf (H) | have f0 := trivial); (first | have f1 := Sat.pf (H.t) | have f1 := trivial); (first | have f2 := Sat.pf (H.t.t) | have f2 := trivial); (first | have f3 := Sat.pf (H.t.t.t) | have f3 := trivial); (first | have f4 := Sat.pf (H.t.t.t.t) | have f4 := trivial); (first | have f5 := Sat.pf (H.t.t.t.t.t) | have f5 := trivial); (first | have f6 := Sat.pf (H.t.t.t.t.t.t) | have f6 := trivial); (first | have f7 := Sat.pf (H.t.t.t.t.t.t.t) | have f7 := trivial); (first | have f8 := Sat.pf (H.t.t.t.t.t.t.t.t) | have f8 := trivial); (first | have f9 := Sat.pf (H.t.t.t.t.t.t.t.t.t) | have f9 := trivial))
        | simp -implicitDefEqProofs (disch := first | omega | decide | exact rfl | assumption | exact Nat.le_of_ble_eq_true rfl | exact One.c | exact One.o) only [vsA, vsB, eq_self, if_true, if_false, implies_true, false_implies, evp, HX.ev, Nat.reduceAdd, HOp.looks, Nat.reduceEqDiff, overw, Nat.reduceBEq, one, cel, len, one2, cel2, len2, d0, d00, d1, d2, va, va2, ld, hq, so, sob, hy, oy1, oy2, vadd1, ub5, f0, f1, f2, f3, f4, f5, f6, f7, f8, f9]
        | (refine condK_cases (fun h => ?_) (fun h => ?_) <;> (try simp only [h]) <;> (try simp only [athA, ne_eq] at h) <;> (try (exfalso; omega)))
        | (refine guardK_cases (fun h => ?_) (fun h => ?_) <;> (try simp only [h]) <;> (try simp only [athA, ne_eq] at h) <;> (try (exfalso; omega)))
        | (clear H f0 f1 f2 f3 f4 f5 f6 f7 f8 f9; (with_reducible intro v2 hs H); (try simp only [setA, overw, Nat.reduceAdd] at H); refine need ?_)
        | ((with_reducible show actK _ (HAct.call (HX.cst (HV.func (Fn.func 22) _ _)) _) _ _ _ _ _); refine vcall_of ok22 rfl (fed _ H.p2) ?_;  clear H f0 f1 f2 f3 f4 f5 f6 f7 f8 f9; rintro v hs ⟨L', bad', r', hD2, H⟩; refine need ?_)
        | refine opC_K ?_
        | ((with_reducible show opC (unit (hstore _ _ _ _)) _); refine sl_store1 (by with_reducible first | exact H | exact H.p1 | exact H.p2 | exact H.p3 | exact H.p4 | exact H.p5 | exact H.p6 | exact H.p7 | exact H.p8 | exact H.p9) (Nat.le_of_ble_eq_true rfl) (by first | exact rfl | (simp only [f0, f1, f2, f3, f4, f5, f6, f7, f8, f9]; done) | (simp only [onA, *]; done)) (by first | exact rfl | (simp only [f0, f1, f2, f3, f4, f5, f6, f7, f8, f9]; done) | (simp only [onA, *]; done)) ?_)
        | ((with_reducible show opC (unit (hstore _ _ _ _)) _); refine sl_storeN (by with_reducible first | exact H | exact H.p1 | exact H.p2 | exact H.p3 | exact H.p4 | exact H.p5 | exact H.p6 | exact H.p7 | exact H.p8 | exact H.p9) rfl (Nat.le_of_ble_eq_true rfl) (by first | exact rfl | (simp only [f0, f1, f2, f3, f4, f5, f6, f7, f8, f9]; done) | (simp only [onA, *]; done)) ?_)
        | ((with_reducible show opC (happend _ _ _ _ _) _); refine sl_append (by with_reducible first | exact H | exact H.p1 | exact H.p2 | exact H.p3 | exact H.p4 | exact H.p5 | exact H.p6 | exact H.p7 | exact H.p8 | exact H.p9) (by first | assumption | with_reducible first | exact f0.2.1 | exact f1.2.1 | exact f2.2.1 | exact f3.2.1 | exact f4.2.1 | exact f5.2.1 | exact f6.2.1 | exact f7.2.1 | exact f8.2.1 | exact f9.2.1 | exact va_takeS) (by first | exact roomFor_of (by omega) | exact roomFor_wide (by omega)) (by omega) ?_)
        | ((with_reducible show opC (happend _ _ _ _ _) _); refine sl_append0X H (by first | assumption | with_reducible first | exact f0.2.1 | exact f1.2.1 | exact f2.2.1 | exact f3.2.1 | exact f4.2.1 | exact f5.2.1 | exact f6.2.1 | exact f7.2.1 | exact f8.2.1 | exact f9.2.1 | exact va_takeS) (by first | exact roomFor_of (by omega) | exact roomFor_wide (by omega)) (by omega) ?_)
        | ((with_reducible show opC (happend _ _ _ _ _) _); refine sl_appendX (by with_reducible first | exact H | exact H.p1 | exact H.p2 | exact H.p3 | exact H.p4 | exact H.p5 | exact H.p6 | exact H.p7 | exact H.p8 | exact H.p9) (by first | assumption | with_reducible first | exact f0.2.1 | exact f1.2.1 | exact f2.2.1 | exact f3.2.1 | exact f4.2.1 | exact f5.2.1 | exact f6.2.1 | exact f7.2.1 | exact f8.2.1 | exact f9.2.1 | exact va_takeS) (by first | exact roomFor_of (by omega) | exact roomFor_wide (by omega)) (by omega) ?_)
        | ((with_reducible show opC (hbuildSlice _ _ _ _ _) _); refine sl_bslice1 H rfl (by first | exact rfl | (simp only [f0, f1, f2, f3, f4, f5, f6, f7, f8, f9]; done) | (simp only [onA, *]; done)) (by first | exact rfl | (simp only [f0, f1, f2, f3, f4, f5, f6, f7, f8, f9]; done) | (simp only [onA, *]; done)) ?_)
        | ((with_reducible show opC (hbox _ _) _); refine sl_box1 H (by first | exact rfl | (simp only [f0, f1, f2, f3, f4, f5, f6, f7, f8, f9]; done) | (simp only [onA, *]; done)) (by first | exact rfl | (simp only [f0, f1, f2, f3, f4, f5, f6, f7, f8, f9]; done) | (simp only [onA, *]; done)) ?_)
        | ((with_reducible show opC (hbox _ _) _); refine sl_boxA H (by first | exact rfl | (simp only [f0, f1, f2, f3, f4, f5, f6, f7, f8, f9]; done) | (simp only [onA, *]; done)) ?_)
        | with_reducible intro hy

      · obtain ⟨hb1, _, hb3, _⟩ := dec_bounds hD2
        have hbs : ∀ e ∈ Lp ++ L', e.x.2.body.length < 140737488351232 := fun e he => by
          have := hb1 e.x (by
            simp only [List.mem_append, List.mem_map] at he ⊢
            rcases he with he | he
            · exact .inl (.inr ⟨e, he, rfl⟩)
            · exact .inr ⟨e, he, rfl⟩)
          omega
        have hll : got.length + (Lp ++ L').length < 536870912 := by
          simp only [List.length_append, List.length_map, List.length_take] at hb3 ⊢; omega
        rw [List.append_assoc, ← List.map_append] at hD2
        obtain ⟨Q, hQ⟩ : ∃ Q, Q = Lp ++ L' := ⟨_, rfl⟩
        rw [← hQ] at hD2 hbs hll H
        clear hb1 hb3 hQ
        have o1 := True.intro
        have o2 := True.intro
        cases Q with
        | nil =>
          first | have f0 := Sat.pf (H) | have f0 := trivial
          first | have f1 := Sat.pf (H.t) | have f1 := trivial
          first | have f2 := Sat.pf (H.t.t) | have f2 := trivial
          first | have f3 := Sat.pf (H.t.t.t) | have f3 := trivial
          first | have f4 := Sat.pf (H.t.t.t.t) | have f4 := trivial
          first | have f5 := Sat.pf (H.t.t.t.t.t) | have f5 := trivial
          first | have f6 := Sat.pf (H.t.t.t.t.t.t) | have f6 := trivial
          first | have f7 := Sat.pf (H.t.t.t.t.t.t.t) | have f7 := trivial
          first | have f8 := Sat.pf (H.t.t.t.t.t.t.t.t) | have f8 := trivial
          first | have f9 := Sat.pf (H.t.t.t.t.t.t.t.t.t) | have f9 := trivial
          repeat' first
            | ((with_reducible show Need _); refine need_of ?_; (first | have f0 := Sat.pf (H) | have f0 := trivial); (first | have f1 := Sat.pf (H.t) | have f1 := trivial); (first | have f2 := Sat.pf (H.t.t) | have f2 := trivial); (first | have f3 := Sat.pf (H.t.t.t) | have f3 := trivial); (first | have f4 := Sat.pf (H.t.t.t.t) | have f4 := trivial); (first | have f5 := Sat.pf (H.t.t.t.t.t) | have f5 := trivial); (first | have f6 := Sat.pf (H.t.t.t.t.t.t) | have f6 := trivial); (first | have f7 := Sat.pf (H.t.t.t.t.t.t.t) | have f7 := trivial); (first | have f8 := Sat.pf (H.t.t.t.t.t.t.t.t) | have f8 := trivial); (first | have f9 := Sat.pf (H.t.t.t.t.t.t.t.t.t) | have f9 := trivial))
            | simp -implicitDefEqProofs (disch := first | omega | decide | exact rfl | assumption | exact Nat.le_of_ble_eq_true rfl | exact One.c | exact One.o) only [vsA, vsB, eq_self, if_true, if_false, implies_true, false_implies, evp, HX.ev, Nat.reduceAdd, HOp.looks, Nat.reduceEqDiff, overw, Nat.reduceBEq, o1, o2, vadd1, va_loadA, va_ldA, ub5, f0, f1, f2, f3, f4, f5, f6, f7, f8, f9]
            | (refine condK_cases (fun h => ?_) (fun h => ?_) <;> (try simp only [h]) <;> (try simp only [athA, ne_eq] at h) <;> (try (exfalso; omega)))
            | (refine guardK_cases (fun h => ?_) (fun h => ?_) <;> (try simp only [h]) <;> (try simp only [athA, ne_eq] at h) <;> (try (exfalso; omega)))
            | (clear H f0 f1 f2 f3 f4 f5 f6 f7 f8 f9; (with_reducible intro v2 hs H); (try simp only [setA, overw, Nat.reduceAdd] at H); refine need ?_)
            | ((with_reducible show actK _ (HAct.call (HX.cst (HV.func (Fn.func 23) _ _)) _) _ _ _ _ _); refine vcall_of ok23 rfl (next23 (p := p) (L := []) (bad := bad') (r := r') H hbs (by simp)) ?_;  clear H f0 f1 f2 f3 f4 f5 f6 f7 f8 f9; rintro v hs ⟨w1, rfl, H⟩; have o1 := H.rd.one; have o2 := H.rd.cells; simp only [nextV, nextB] at H o1 o2 ⊢; refine need ?_)
            | refine opC_K ?_
            | ((with_reducible show opC (unit (hstore _ _ _ _)) _); refine sl_store1 (by with_reducible first | exact H | exact H.p1 | exact H.p2 | exact H.p3 | exact H.p4 | exact H.p5 | exact H.p6 | exact H.p7 | exact H.p8 | exact H.p9) (Nat.le_of_ble_eq_true rfl) (by first | exact rfl | (simp only [f0, f1, f2, f3, f4, f5, f6, f7, f8, f9]; done) | (simp only [onA, *]; done)) (by first | exact rfl | (simp only [f0, f1, f2, f3, f4, f5, f6, f7, f8, f9]; done) | (simp only [onA, *]; done)) ?_)
            | ((with_reducible show opC (unit (hstore _ _ _ _)) _); refine sl_storeN (by with_reducible first | exact H | exact H.p1 | exact H.p2 | exact H.p3 | exact H.p4 | exact H.p5 | exact H.p6 | exact H.p7 | exact H.p8 | exact H.p9) rfl (Nat.le_of_ble_eq_true rfl) (by first | exact rfl | (simp only [f0, f1, f2, f3, f4, f5, f6, f7, f8, f9]; done) | (simp only [onA, *]; done)) ?_)
            | ((with_reducible show opC (happend _ _ _ _ _) _); refine sl_append (by with_reducible first | exact H | exact H.p1 | exact H.p2 | exact H.p3 | exact H.p4 | exact H.p5 | exact H.p6 | exact H.p7 | exact H.p8 | exact H.p9) (by first | assumption | with_reducible first | exact f0.2.1 | exact f1.2.1 | exact f2.2.1 | exact f3.2.1 | exact f4.2.1 | exact f5.2.1 | exact f6.2.1 | exact f7.2.1 | exact f8.2.1 | exact f9.2.1 | exact va_takeS) (by first | exact roomFor_of (by omega) | exact roomFor_wide (by omega)) (by omega) ?_)
            | ((with_reducible show opC (happend _ _ _ _ _) _); refine sl_append0X H (by first | assumption | with_reducible first | exact f0.2.1 | exact f1.2.1 | exact f2.2.1 | exact f3.2.1 | exact f4.2.1 | exact f5.2.1 | exact f6.2.1 | exact f7.2.1 | exact f8.2.1 | exact f9.2.1 | exact va_takeS) (by first | exact roomFor_of (by omega) | exact roomFor_wide (by omega)) (by omega) ?_)
            | ((with_reducible show opC (happend _ _ _ _ _) _); refine sl_appendX (by with_reducible first | exact H | exact H.p1 | exact H.p2 | exact H.p3 | exact H.p4 | exact H.p5 | exact H.p6 | exact H.p7 | exact H.p8 | exact H.p9) (by first | assumption | with_reducible first | exact f0.2.1 | exact f1.2.1 | exact f2.2.1 | exact f3.2.1 | exact f4.2.1 | exact f5.2.1 | exact f6.2.1 | exact f7.2.1 | exact f8.2.1 | exact f9.2.1 | exact va_takeS) (by first | exact roomFor_of (by omega) | exact roomFor_wide (by omega)) (by omega) ?_)
            | ((with_reducible show opC (hbuildSlice _ _ _ _ _) _); refine sl_bslice1 H rfl (by first | exact rfl | (simp only [f0, f1, f2, f3, f4, f5, f6, f7, f8, f9]; done) | (simp only [onA, *]; done)) (by first | exact rfl | (simp only [f0, f1, f2, f3, f4, f5, f6, f7, f8, f9]; done) | (simp only [onA, *]; done)) ?_)
            | ((with_reducible show opC (hbox _ _) _); refine sl_box1 H (by first | exact rfl | (simp only [f0, f1, f2, f3, f4, f5, f6, f7, f8, f9]; done) | (simp only [onA, *]; done)) (by first | exact rfl | (simp only [f0, f1, f2, f3, f4, f5, f6, f7, f8, f9]; done) | (simp only [onA, *]; done)) ?_)
            | ((with_reducible show opC (hbox _ _) _); refine sl_boxA H (by first | exact rfl | (simp only [f0, f1, f2, f3, f4, f5, f6, f7, f8, f9]; done) | (simp only [onA, *]; done)) ?_)
            | with_reducible intro hy

          exact ⟨(i + 1, at_ + n, w9, got, [], bad', r'), _, by simp only; omega, ⟨by simp only; omega, hnl, hD2⟩, (by (repeat first | exact Less.nil | refine Less.undef _ ?_ | refine Less.keep _ ?_)), Weak.refl _, H.t.t.p3.p1.p3.p3⟩
        | cons e L2 =>
          have fl5 := True.intro
          simp only [List.length_cons] at hll
          first | have f0 := Sat.pf (H) | have f0 := trivial
          first | have f1 := Sat.pf (H.t) | have f1 := trivial
          first | have f2 := Sat.pf (H.t.t) | have f2 := trivial
          first | have f3 := Sat.pf (H.t.t.t) | have f3 := trivial
          first | have f4 := Sat.pf (H.t.t.t.t) | have f4 := trivial
          first | have f5 := Sat.pf (H.t.t.t.t.t) | have f5 := trivial
          first | have f6 := Sat.pf (H.t.t.t.t.t.t) | have f6 := trivial
          first | have f7 := Sat.pf (H.t.t.t.t.t.t.t) | have f7 := trivial
          first | have f8 := Sat.pf (H.t.t.t.t.t.t.t.t) | have f8 := trivial
          first | have f9 := Sat.pf (H.t.t.t.t.t.t.t.t.t) | have f9 := trivial
          repeat' first
            | ((with_reducible show Need _); refine need_of ?_; (first | have f0 := Sat.pf (H) | have f0 := trivial); (first | have f1 := Sat.pf (H.t) | have f1 := trivial); (first | have f2 := Sat.pf (H.t.t) | have f2 := trivial); (first | have f3 := Sat.pf (H.t.t.t) | have f3 := trivial); (first | have f4 := Sat.pf (H.t.t.t.t) | have f4 := trivial); (first | have f5 := Sat.pf (H.t.t.t.t.t) | have f5 := trivial); (first | have f6 := Sat.pf (H.t.t.t.t.t.t) | have f6 := trivial); (first | have f7 := Sat.pf (H.t.t.t.t.t.t.t) | have f7 := trivial); (first | have f8 := Sat.pf (H.t.t.t.t.t.t.t.t) | have f8 := trivial); (first | have f9 := Sat.pf (H.t.t.t.t.t.t.t.t.t) | have f9 := trivial))
            | simp -implicitDefEqProofs (disch := first | omega | decide | exact rfl | assumption | exact Nat.le_of_ble_eq_true rfl | exact One.c | exact One.o) only [vsA, vsB, eq_self, if_true, if_false, implies_true, false_implies, evp, HX.ev, Nat.reduceAdd, HOp.looks, Nat.reduceEqDiff, overw, Nat.reduceBEq, o1, o2, fl5, vadd1, va_loadA, va_ldA, ub5, f0, f1, f2, f3, f4, f5, f6, f7, f8, f9]
            | (refine condK_cases (fun h => ?_) (fun h => ?_) <;> (try simp only [h]) <;> (try simp only [athA, ne_eq] at h) <;> (try (exfalso; omega)))
            | (refine guardK_cases (fun h => ?_) (fun h => ?_) <;> (try simp only [h]) <;> (try simp only [athA, ne_eq] at h) <;> (try (exfalso; omega)))
            | (clear H f0 f1 f2 f3 f4 f5 f6 f7 f8 f9; (with_reducible intro v2 hs H); (try simp only [setA, overw, Nat.reduceAdd] at H); refine need ?_)
            | ((with_reducible show actK _ (HAct.call (HX.cst (HV.func (Fn.func 23) _ _)) _) _ _ _ _ _); refine vcall_of ok23 rfl (next23 (p := p) (L := e :: L2) (bad := bad') (r := r') H hbs (by simp only [List.length_cons]; omega)) ?_;  clear H f0 f1 f2 f3 f4 f5 f6 f7 f8 f9; rintro v hs ⟨w1, rfl, H⟩; have o1 := H.rd.one; have o2 := H.rd.cells; have fl5 := fill5 (k := e.x.1) (a := (e.x.2.id : Nat)) (b := (e.x.2.num : Nat)) (t := e.x.2.tube) o1; simp only [nextV, nextB] at H o1 o2 ⊢; refine need ?_)
            | refine opC_K ?_
            | ((with_reducible show opC (hbuildSlice _ _ _ _ _) _); refine sl_bslice H rfl rfl (by omega) fl5 rfl ?_; clear H f0 f1 f2 f3 f4 f5 f6 f7 f8 f9; intro y hs H hy; have T := hy.take; refine need ?_)
            | ((with_reducible show opC (happend _ _ _ _ _) _); refine sl_append (n := got.length) (xs := got.flatMap RE.cells5) (by with_reducible first | exact H | exact H.p1 | exact H.p2 | exact H.p3 | exact H.p4 | exact H.p5 | exact H.p6 | exact H.p7 | exact H.p8 | exact H.p9) T (by first | exact roomFor_of (by omega) | exact roomFor_wide (by omega)) (by omega) ?_; clear H f0 f1 f2 f3 f4 f5 f6 f7 f8 f9; intro vn hs H; refine need ?_)
            | ((with_reducible show opC (unit (hstore _ _ _ _)) _); refine sl_store1 (by with_reducible first | exact H | exact H.p1 | exact H.p2 | exact H.p3 | exact H.p4 | exact H.p5 | exact H.p6 | exact H.p7 | exact H.p8 | exact H.p9) (Nat.le_of_ble_eq_true rfl) (by first | exact rfl | (simp only [f0, f1, f2, f3, f4, f5, f6, f7, f8, f9]; done) | (simp only [onA, *]; done)) (by first | exact rfl | (simp only [f0, f1, f2, f3, f4, f5, f6, f7, f8, f9]; done) | (simp only [onA, *]; done)) ?_)
            | ((with_reducible show opC (unit (hstore _ _ _ _)) _); refine sl_storeN (by with_reducible first | exact H | exact H.p1 | exact H.p2 | exact H.p3 | exact H.p4 | exact H.p5 | exact H.p6 | exact H.p7 | exact H.p8 | exact H.p9) rfl (Nat.le_of_ble_eq_true rfl) (by first | exact rfl | (simp only [f0, f1, f2, f3, f4, f5, f6, f7, f8, f9]; done) | (simp only [onA, *]; done)) ?_)
            | ((with_reducible show opC (happend _ _ _ _ _) _); refine sl_append (by with_reducible first | exact H | exact H.p1 | exact H.p2 | exact H.p3 | exact H.p4 | exact H.p5 | exact H.p6 | exact H.p7 | exact H.p8 | exact H.p9) (by first | assumption | with_reducible first | exact f0.2.1 | exact f1.2.1 | exact f2.2.1 | exact f3.2.1 | exact f4.2.1 | exact f5.2.1 | exact f6.2.1 | exact f7.2.1 | exact f8.2.1 | exact f9.2.1 | exact va_takeS) (by first | exact roomFor_of (by omega) | exact roomFor_wide (by omega)) (by omega) ?_)
            | ((with_reducible show opC (happend _ _ _ _ _) _); refine sl_append0X H (by first | assumption | with_reducible first | exact f0.2.1 | exact f1.2.1 | exact f2.2.1 | exact f3.2.1 | exact f4.2.1 | exact f5.2.1 | exact f6.2.1 | exact f7.2.1 | exact f8.2.1 | exact f9.2.1 | exact va_takeS) (by first | exact roomFor_of (by omega) | exact roomFor_wide (by omega)) (by omega) ?_)
            | ((with_reducible show opC (happend _ _ _ _ _) _); refine sl_appendX (by with_reducible first | exact H | exact H.p1 | exact H.p2 | exact H.p3 | exact H.p4 | exact H.p5 | exact H.p6 | exact H.p7 | exact H.p8 | exact H.p9) (by first | assumption | with_reducible first | exact f0.2.1 | exact f1.2.1 | exact f2.2.1 | exact f3.2.1 | exact f4.2.1 | exact f5.2.1 | exact f6.2.1 | exact f7.2.1 | exact f8.2.1 | exact f9.2.1 | exact va_takeS) (by first | exact roomFor_of (by omega) | exact roomFor_wide (by omega)) (by omega) ?_)
            | ((with_reducible show opC (hbuildSlice _ _ _ _ _) _); refine sl_bslice1 H rfl (by first | exact rfl | (simp only [f0, f1, f2, f3, f4, f5, f6, f7, f8, f9]; done) | (simp only [onA, *]; done)) (by first | exact rfl | (simp only [f0, f1, f2, f3, f4, f5, f6, f7, f8, f9]; done) | (simp only [onA, *]; done)) ?_)
            | ((with_reducible show opC (hbox _ _) _); refine sl_box1 H (by first | exact rfl | (simp only [f0, f1, f2, f3, f4, f5, f6, f7, f8, f9]; done) | (simp only [onA, *]; done)) (by first | exact rfl | (simp only [f0, f1, f2, f3, f4, f5, f6, f7, f8, f9]; done) | (simp only [onA, *]; done)) ?_)
            | ((with_reducible show opC (hbox _ _) _); refine sl_boxA H (by first | exact rfl | (simp only [f0, f1, f2, f3, f4, f5, f6, f7, f8, f9]; done) | (simp only [onA, *]; done)) ?_)
            | with_reducible intro hy

          refine ⟨(i + 1, at_ + n, vn, got ++ [⟨w1, e.x⟩], L2, bad', r'), _, by simp only; omega, ⟨by simp only; omega, hnl, ?_⟩, (by (repeat first | exact Less.nil | refine Less.undef _ ?_ | refine Less.keep _ ?_)), Weak.refl _, ?_⟩
          · simpa using hD2
          · have h : Sat hs (each RE.P (got ++ [⟨w1, e.x⟩]) :: _) := Sat.each_snoc.2 H.p1.t.p4.p3.p2.p4.p4
            simp only [List.length_append, List.length_singleton, List.flatMap_append, List.flatMap_singleton]
            exact h.p3.p3.p2.p3
      · exact ⟨(i + 1, at_ + n, w9, got, Lp ++ L', bad', r'), _, by simp only; omega, ⟨by simp only; omega, hnl, by simp only [List.map_append]; rw [← List.append_assoc]; exact hD2⟩, (by (repeat first | exact Less.nil | refine Less.undef _ ?_ | refine Less.keep _ ?_)), Weak.refl _, H.p3.p1.p3.p3⟩
  · obtain ⟨y, hy, oy1, oy2, hyr⟩ := rdl_tail (a := at_) H.t.t.t.t RB hat
    have sob := (RB _ H.t.t.t.t).sOk
    have hbl : (b.drop at_).length = b.length - at_ := by rw [List.length_drop]
    have fed := fun hs H => feedW (hs := hs) (l := My 5 w9 got.length (got.flatMap RE.cells5) :: each RE.P got :: ReadP p7 LX badx rx :: l) (p := p) (L := Lp) (r := rp) (bad := badp) (b := b.drop at_) (bv := y) H hD (fun _ h => hyr _ h.t.t.t) (by rw [hbl]; omega)
    rw [List.take_append_drop] at fed
    have hcase : (decide (((i : Nat) : Int) < ((C.length : Nat) : Int)) = true ∧ decide (((at_ : Nat) : Int) < ((b.length : Nat) : Int)) = false) ∨ (decide (((i : Nat) : Int) < ((C.length : Nat) : Int)) = false ∧ True) := by
      by_cases h1 : i < C.length
      · have h2 : ¬ at_ < b.length := fun h => hgo ⟨h1, h⟩
        exact .inl ⟨decide_eq_true (by omega), decide_eq_false (by omega)⟩
      · exact .inr ⟨decide_eq_false (by omega), trivial⟩
    rcases hcase with ⟨d0, d00⟩ | ⟨d0, d00⟩
    all_goals
      first | have f0 := Sat.pf (H) | have f0 := trivial
      first | have f1 := Sat.pf (H.t) | have f1 := trivial
      first | have f2 := Sat.pf (H.t.t) | have f2 := trivial
      first | have f3 := Sat.pf (H.t.t.t) | have f3 := trivial
      first | have f4 := Sat.pf (H.t.t.t.t) | have f4 := trivial
      first | have f5 := Sat.pf (H.t.t.t.t.t) | have f5 := trivial
      first | have f6 := Sat.pf (H.t.t.t.t.t.t) | have f6 := trivial
      first | have f7 := Sat.pf (H.t.t.t.t.t.t.t) | have f7 := trivial
      first | have f8 := Sat.pf (H.t.t.t.t.t.t.t.t) | have f8 := trivial
      first | have f9 := Sat.pf (H.t.t.t.t.t.t.t.t.t) | have f9 := trivial
      repeat' first
        | ((with_reducible show Need _); refine need_of ?_; (first | have f0 := Sat.pf (H) | have f0 := trivial); (first | have f1 := Sat.pf (H.t) | have f1 := trivial); (first | have f2 := Sat.pf (H.t.t) | have f2 := trivial); (first | have f3 := Sat.pf (H.t.t.t) | have f3 := trivial); (first | have f4 := Sat.pf (H.t.t.t.t) | have f4 := trivial); (first | have f5 := Sat.pf (H.t.t.t.t.t) | have f5 := trivial); (first | have f6 := Sat.pf (H.t.t.t.t.t.t) | have f6 := trivial); (first | have f7 := Sat.pf (H.t.t.t.t.t.t.t) | have f7 := trivial); (first | have f8 := Sat.pf (H.t.t.t.t.t.t.t.t) | have f8 := trivial); (first | have f9 := Sat.pf (H.t.t.t.t.t.t.t.t.t) | have f9 := trivial))
        | simp -implicitDefEqProofs (disch := first | omega | decide | exact rfl | assumption | exact Nat.le_of_ble_eq_true rfl | exact One.c | exact One.o) only [vsA, vsB, eq_self, if_true, if_false, implies_true, false_implies, evp, HX.ev, Nat.reduceAdd, HOp.looks, Nat.reduceEqDiff, overw, Nat.reduceBEq, one, cel, len, one2, cel2, len2, d0, d00, sob, hy, oy1, oy2, vadd1, ub5, f0, f1, f2, f3, f4, f5, f6, f7, f8, f9]
        | (refine condK_cases (fun h => ?_) (fun h => ?_) <;> (try simp only [h]) <;> (try simp only [athA, ne_eq] at h) <;> (try (exfalso; omega)))
        | (refine guardK_cases (fun h => ?_) (fun h => ?_) <;> (try simp only [h]) <;> (try simp only [athA, ne_eq] at h) <;> (try (exfalso; omega)))
        | (clear H f0 f1 f2 f3 f4 f5 f6 f7 f8 f9; (with_reducible intro v2 hs H); (try simp only [setA, overw, Nat.reduceAdd] at H); refine need ?_)
        | ((with_reducible show actK _ (HAct.call (HX.cst (HV.func (Fn.func 22) _ _)) _) _ _ _ _ _); refine vcall_of ok22 rfl (fed _ H.p2) ?_;  clear H f0 f1 f2 f3 f4 f5 f6 f7 f8 f9; rintro v hs ⟨L', bad', r', hD2, H⟩; refine need ?_)
        | refine opC_K ?_
        | ((with_reducible show opC (unit (hstore _ _ _ _)) _); refine sl_store1 (by with_reducible first | exact H | exact H.p1 | exact H.p2 | exact H.p3 | exact H.p4 | exact H.p5 | exact H.p6 | exact H.p7 | exact H.p8 | exact H.p9) (Nat.le_of_ble_eq_true rfl) (by first | exact rfl | (simp only [f0, f1, f2, f3, f4, f5, f6, f7, f8, f9]; done) | (simp only [onA, *]; done)) (by first | exact rfl | (simp only [f0, f1, f2, f3, f4, f5, f6, f7, f8, f9]; done) | (simp only [onA, *]; done)) ?_)
        | ((with_reducible show opC (unit (hstore _ _ _ _)) _); refine sl_storeN (by with_reducible first | exact H | exact H.p1 | exact H.p2 | exact H.p3 | exact H.p4 | exact H.p5 | exact H.p6 | exact H.p7 | exact H.p8 | exact H.p9) rfl (Nat.le_of_ble_eq_true rfl) (by first | exact rfl | (simp only [f0, f1, f2, f3, f4, f5, f6, f7, f8, f9]; done) | (simp only [onA, *]; done)) ?_)
        | ((with_reducible show opC (happend _ _ _ _ _) _); refine sl_append (by with_reducible first | exact H | exact H.p1 | exact H.p2 | exact H.p3 | exact H.p4 | exact H.p5 | exact H.p6 | exact H.p7 | exact H.p8 | exact H.p9) (by first | assumption | with_reducible first | exact f0.2.1 | exact f1.2.1 | exact f2.2.1 | exact f3.2.1 | exact f4.2.1 | exact f5.2.1 | exact f6.2.1 | exact f7.2.1 | exact f8.2.1 | exact f9.2.1 | exact va_takeS) (by first | exact roomFor_of (by omega) | exact roomFor_wide (by omega)) (by omega) ?_)
        | ((with_reducible show opC (happend _ _ _ _ _) _); refine sl_append0X H (by first | assumption | with_reducible first | exact f0.2.1 | exact f1.2.1 | exact f2.2.1 | exact f3.2.1 | exact f4.2.1 | exact f5.2.1 | exact f6.2.1 | exact f7.2.1 | exact f8.2.1 | exact f9.2.1 | exact va_takeS) (by first | exact roomFor_of (by omega) | exact roomFor_wide (by omega)) (by omega) ?_)
        | ((with_reducible show opC (happend _ _ _ _ _) _); refine sl_appendX (by with_reducible first | exact H | exact H.p1 | exact H.p2 | exact H.p3 | exact H.p4 | exact H.p5 | exact H.p6 | exact H.p7 | exact H.p8 | exact H.p9) (by first | assumption | with_reducible first | exact f0.2.1 | exact f1.2.1 | exact f2.2.1 | exact f3.2.1 | exact f4.2.1 | exact f5.2.1 | exact f6.2.1 | exact f7.2.1 | exact f8.2.1 | exact f9.2.1 | exact va_takeS) (by first | exact roomFor_of (by omega) | exact roomFor_wide (by omega)) (by omega) ?_)
        | ((with_reducible show opC (hbuildSlice _ _ _ _ _) _); refine sl_bslice1 H rfl (by first | exact rfl | (simp only [f0, f1, f2, f3, f4, f5, f6, f7, f8, f9]; done) | (simp only [onA, *]; done)) (by first | exact rfl | (simp only [f0, f1, f2, f3, f4, f5, f6, f7, f8, f9]; done) | (simp only [onA, *]; done)) ?_)
        | ((with_reducible show opC (hbox _ _) _); refine sl_box1 H (by first | exact rfl | (simp only [f0, f1, f2, f3, f4, f5, f6, f7, f8, f9]; done) | (simp only [onA, *]; done)) (by first | exact rfl | (simp only [f0, f1, f2, f3, f4, f5, f6, f7, f8, f9]; done) | (simp only [onA, *]; done)) ?_)
        | ((with_reducible show opC (hbox _ _) _); refine sl_boxA H (by first | exact rfl | (simp only [f0, f1, f2, f3, f4, f5, f6, f7, f8, f9]; done) | (simp only [onA, *]; done)) ?_)
        | with_reducible intro hy

      rw [List.append_assoc, ← List.map_append] at hD2
      obtain ⟨LY, hLY⟩ : ∃ LY, LY = Lp ++ L' := ⟨_, rfl⟩
      rw [← hLY] at hD2 H
      obtain ⟨hXY, rfl, rfl⟩ := hD2.det hDX
      clear hLY hD hDb fed hD2
      have hgl : got.length + LY.length = LX.length := by have := congrArg List.length hXY; simpa using this
      have hbds := dec_bounds hDX
      rw [List.length_map] at hbds
      obtain ⟨hB1, _, hB3, _⟩ := hbds
      have hBX : ∀ e ∈ LX, e.x.2.body.length < 140737488351232 := fun e he => by have := hB1 e.x (List.mem_map_of_mem he); omega
      have hBY : ∀ e ∈ LY, e.x.2.body.length < 140737488351232 := fun e he => by have := hB1 e.x (by rw [← hXY]; exact List.mem_append_right _ (List.mem_map_of_mem he)); omega
      have hBG : ∀ e ∈ got, e.x.2.body.length < 140737488351232 := fun e he => by have := hB1 e.x (by rw [← hXY]; exact List.mem_append_left _ (List.mem_map_of_mem he)); omega
      refine HW.loopA mixed (fun t : Nat × Nat => (bv :: .undef :: .undef :: .undef :: .undef :: .undef :: .undef :: .ptr p7 0 :: .ptr p 0 :: w9 :: .undef :: .undef :: .undef :: .undef :: .undef :: .undef :: .int .i64 (t.2 : Nat) :: .int .i64 (t.1 : Nat) :: .undef :: .undef :: .undef :: .undef :: .undef :: .undef :: .undef :: .undef :: .undef :: .undef :: .undef :: .undef :: .undef :: .undef :: .undef :: .undef :: .undef :: .undef :: .undef :: .undef :: .undef :: .undef :: .undef :: .undef :: .undef :: .undef :: .undef :: .undef :: .undef :: .undef :: .undef :: .undef :: .undef :: .undef :: .undef :: .undef :: .undef :: .undef :: .undef :: .undef :: .undef :: .undef :: .undef :: .undef :: .undef :: .undef :: .undef :: .undef :: .undef :: .undef :: .undef :: .undef :: .undef :: .undef :: .undef :: .undef :: .undef :: .undef :: .undef :: .undef :: .undef :: .undef :: .undef :: .undef :: .undef :: .undef :: .undef :: .undef :: .undef :: .undef :: .undef :: .undef :: .undef :: .undef :: .undef :: .undef :: .undef :: .undef :: .undef :: .undef :: .undef :: .undef :: .undef :: .undef :: .undef :: .undef :: .undef :: .undef :: .undef :: .undef :: .undef :: .undef :: .undef :: .undef :: .undef :: .undef :: .undef :: .undef :: .undef :: .undef :: .undef :: .undef :: .undef :: .undef :: .undef :: .undef :: .undef :: .undef :: .undef :: .undef :: .undef :: .undef :: .undef :: .undef :: .undef :: .undef :: .undef :: .undef :: .undef :: .undef :: .undef :: .undef :: .undef :: .undef :: .undef :: .undef :: .undef :: .undef :: .undef :: .undef :: .undef :: .undef :: .undef :: .undef :: .undef :: .undef :: .undef :: .undef :: .undef :: .undef :: .undef :: .undef :: .undef :: .undef :: .undef :: .undef :: .undef :: .undef :: .undef :: .undef :: .undef :: .undef :: .undef :: .undef :: .undef :: .undef :: .undef :: .undef :: .undef :: .undef :: .undef :: .undef :: .undef :: .undef :: .undef :: .undef :: .undef :: .undef :: .undef :: .undef :: .undef :: .undef :: .undef :: .undef :: .undef :: .undef :: .undef :: .undef :: .undef :: .undef :: .undef :: .undef :: .undef :: .undef :: .undef :: .undef :: .undef :: .undef :: .undef :: .undef :: .undef :: .undef :: .undef :: []))
        (fun t => My 5 w9 got.length (got.flatMap RE.cells5) :: each RE.P got :: ReadP p7 (LX.drop t.1) bad' r' :: ReadP p (LY.drop (t.1 - got.length)) bad' r' :: l) (fun t => LX.length - t.1)
        (fun t => t.1 ≤ LX.length ∧ t.2 ≤ b.length ∧ Dec (b.drop t.2) ((LX.drop t.1).map RE.x) bad' r') (0, 0) ⟨Nat.zero_le _, Nat.zero_le _, hDX⟩ (by (repeat first | exact Less.nil | refine Less.undef _ ?_ | refine Less.keep _ ?_)) (by have h := H.p3.p3.p3; simpa only [List.drop_zero, Nat.zero_sub] using h) ?_
      clear H
      rintro ⟨j, back⟩ hs ⟨hj, hbk, hD⟩ H
      simp only at hj hbk hD H
      have o1 := True.intro
      have o2 := True.intro
      by_cases hjl : j < LX.length
      · obtain ⟨e, he⟩ : ∃ e, LX[j]? = some e := ⟨_, List.getElem?_eq_getElem hjl⟩
        have hdr : LX.drop j = e :: LX.drop (j + 1) := by rw [List.drop_eq_getElem_cons hjl]; rw [List.getElem?_eq_getElem hjl] at he; rw [Option.some.inj he]
        rw [hdr] at H hD
        have hXe : (LX.map RE.x)[j]? = some e.x := by rw [List.getElem?_map, he]; rfl
        obtain ⟨hchk, ⟨hs1, hs2, hs3⟩, t, hBt, hD'⟩ := dec_cons hD
        obtain ⟨ex, hex⟩ : ∃ ex, ex = e.x := ⟨_, rfl⟩
        obtain ⟨out, hout⟩ : ∃ out, out = outF ex := ⟨_, rfl⟩
        have hlb : b.length - back = out.length + t.length := by have := congrArg List.length hBt; rw [List.length_drop, List.length_append] at this; rw [hout, hex]; exact this
        have htd : t = b.drop (back + out.length) := by rw [← List.drop_drop, hBt, hout, hex, List.drop_left]
        rw [htd] at hD'
        have hpb : putB ex.1 ex.2.id ex.2.num ex.2.tube ex.2.body = out := by rw [hout, hex]; unfold putB outF; rw [if_pos hchk]
        obtain ⟨y2, hy2, oz1, oz2, hyr2⟩ := rdl_cut (a := back) (j := back + out.length) H.t.t.t.t RB (by omega) (by omega)
        have hcut : (b.take (back + out.length)).drop back = out := by
          rw [List.drop_take, hBt, Nat.add_sub_cancel_left]
          rw [show outF e.x = out by rw [hout, hex], List.take_left]
        rw [hcut] at hyr2
        clear hcut hBt
        rw [← hex] at hchk hs1 hs2 hs3 hXe
        have sob := (RB _ H.t.t.t.t).sOk
        have vb : hbin .sub none (.int .i64 (b.length : Nat)) (.int .i64 (back : Nat)) = some (.int .i64 ((b.length - back : Nat) : Int)) := vsubn ⟨hbk, by omega⟩
        have vb2 : hbin .add none (.int .i64 (back : Nat)) (.int .i64 (out.length : Nat)) = some (.int .i64 ((back + out.length : Nat) : Int)) := vaddn (by omega)
        have d5 : decide (((b.length - back : Nat) : Int) < ((out.length : Nat) : Int)) = false := decide_eq_false (by omega)
        have hbe := hBX e (List.mem_of_getElem? he)
        obtain ⟨ew, ex'⟩ := e
        simp only at hex hbe
        subst hex
        by_cases hjg : j < got.length
        · obtain ⟨g, hg⟩ : ∃ g, got[j]? = some g := ⟨_, List.getElem?_eq_getElem hjg⟩
          have hgx : g.x = ex := by
            rw [← hXY, List.getElem?_append_left (by simpa using hjg), List.getElem?_map, hg] at hXe
            exact Option.some.inj hXe
          obtain ⟨gw, gx⟩ := g
          simp only at hgx
          subst hgx
          have d1 : decide (((j : Nat) : Int) < ((got.length : Nat) : Int)) = true := decide_eq_true (by omega)
          obtain ⟨hh, oo, hix, _, _⟩ := (Sat.rd H).idxF (s := 5) (fun _ => rfl) rfl hg .i64
          have ow : Sat hs (My 1 gw gx.2.body.length (bcells gx.2.body) :: _) := Sat.each_at (P := RE.P) H.p1 hg
          have ow1 : gw.one = true := ow.rd.one
          have ow2 : gw.cells = [gw] := ow.rd.cells
          clear ow
          have hld := True.intro
          first | have f0 := Sat.pf (H) | have f0 := trivial
          first | have f1 := Sat.pf (H.t) | have f1 := trivial
          first | have f2 := Sat.pf (H.t.t) | have f2 := trivial
          first | have f3 := Sat.pf (H.t.t.t) | have f3 := trivial
          first | have f4 := Sat.pf (H.t.t.t.t) | have f4 := trivial
          first | have f5 := Sat.pf (H.t.t.t.t.t) | have f5 := trivial
          first | have f6 := Sat.pf (H.t.t.t.t.t.t) | have f6 := trivial
          first | have f7 := Sat.pf (H.t.t.t.t.t.t.t) | have f7 := trivial
          first | have f8 := Sat.pf (H.t.t.t.t.t.t.t.t) | have f8 := trivial
          first | have f9 := Sat.pf (H.t.t.t.t.t.t.t.t.t) | have f9 := trivial
          repeat' first
            | ((with_reducible show Need _); refine need_of ?_; (first | have f0 := Sat.pf (H) | have f0 := trivial); (first | have f1 := Sat.pf (H.t) | have f1 := trivial); (first | have f2 := Sat.pf (H.t.t) | have f2 := trivial); (first | have f3 := Sat.pf (H.t.t.t) | have f3 := trivial); (first | have f4 := Sat.pf (H.t.t.t.t) | have f4 := trivial); (first | have f5 := Sat.pf (H.t.t.t.t.t) | have f5 := trivial); (first | have f6 := Sat.pf (H.t.t.t.t.t.t) | have f6 := trivial); (first | have f7 := Sat.pf (H.t.t.t.t.t.t.t) | have f7 := trivial); (first | have f8 := Sat.pf (H.t.t.t.t.t.t.t.t) | have f8 := trivial); (first | have f9 := Sat.pf (H.t.t.t.t.t.t.t.t.t) | have f9 := trivial); (first | have hld := (Sat.rd (s := 5) (v := w9) (n := got.length) (xs := got.flatMap RE.cells5) (by with_reducible first | exact H | exact H.p1 | exact H.p2 | exact H.p3 | exact H.p4 | exact H.p5 | exact H.p6 | exact H.p7 | exact H.p8 | exact H.p9)).ldF (s := 5) (fun _ => rfl) rfl hg hix; unfold RE.cells5 at hld | skip); (first | have sob := (RB _ (by with_reducible first | exact H.t | exact H.t.t | exact H.t.t.t | exact H.t.t.t.t | exact H.t.t.t.t.t | exact H.t.t.t.t.t.t | exact H.t.t.t.t.t.t.t | exact H.t.t.t.t.t.t.t.t | exact H.t.t.t.t.t.t.t.t.t)).sOk | skip))
            | simp -implicitDefEqProofs (disch := first | omega | decide | exact rfl | assumption | exact Nat.le_of_ble_eq_true rfl | exact One.c | exact One.o) only [vsA, vsB, eq_self, if_true, if_false, implies_true, false_implies, evp, HX.ev, Nat.reduceAdd, HOp.looks, Nat.reduceEqDiff, overw, Nat.reduceBEq, o1, o2, ow1, ow2, d1, d5, hix, hld, len, one, cel, sob, hy2, oz1, oz2, vb, vb2, vadd1, va_loadA, va_ldA, ub5, f0, f1, f2, f3, f4, f5, f6, f7, f8, f9]
            | (refine condK_cases (fun h => ?_) (fun h => ?_) <;> (try simp only [h]) <;> (try simp only [athA, ne_eq] at h) <;> (try (exfalso; omega)))
            | (refine guardK_cases (fun h => ?_) (fun h => ?_) <;> (try simp only [h]) <;> (try simp only [athA, ne_eq] at h) <;> (try (exfalso; omega)))
            | (clear H f0 f1 f2 f3 f4 f5 f6 f7 f8 f9; (with_reducible intro v2 hs H); (try simp only [setA, overw, Nat.reduceAdd] at H); refine need ?_)
            | ((with_reducible show actK _ (HAct.call (HX.cst (HV.func (Fn.func 23) _ _)) _) _ _ _ _ _); refine vcall_of ok23 rfl (next23 (p := p7) (L := ⟨ew, gx⟩ :: LX.drop (j + 1)) (bad := bad') (r := r') H.p2 (fun e he => hBX e (by rw [← hdr] at he; exact List.mem_of_mem_drop he)) (by rw [← hdr, List.length_drop]; omega)) ?_;  clear H f0 f1 f2 f3 f4 f5 f6 f7 f8 f9; rintro v hs ⟨w1, rfl, H⟩; have o1 := H.rd.one; have o2 := H.rd.cells; simp only [nextV, nextB] at H o1 o2 ⊢; refine need ?_)
            | ((with_reducible show actK _ (HAct.call (HX.cst (HV.func (Fn.func 24) _ _)) _) _ _ _ _ _); refine vcall_of ok24 rfl (sameReply24S H (fun _ h => Sat.rd h.p2) (fun _ h => Sat.rd (Sat.each_at (P := RE.P) (x := ⟨gw, gx⟩) (L := got) (i := j) h.p5 hg)) (x := gx.2.body) (y := gx.2.body) (by omega) (by omega) gx.1 gx.2.id gx.2.num gx.1 gx.2.id gx.2.num gx.2.tube gx.2.tube) ?_;  clear H f0 f1 f2 f3 f4 f5 f6 f7 f8 f9; rintro v hs ⟨rfl, H⟩; refine need ?_)
            | ((with_reducible show actK _ (HAct.call (HX.cst (HV.func (Fn.func 12) _ _)) _) _ _ _ _ _); refine vcall_of ok12 rfl (put12S H (fun _ h => Sat.rd h.p2) (fun _ h => G _ (by with_reducible first | exact h.t | exact h.t.t | exact h.t.t.t | exact h.t.t.t.t | exact h.t.t.t.t.t | exact h.t.t.t.t.t.t | exact h.t.t.t.t.t.t.t | exact h.t.t.t.t.t.t.t.t | exact h.t.t.t.t.t.t.t.t.t)) gx.1 gx.2.id gx.2.num (by omega) (by omega) gx.2.tube (by omega)) ?_;  clear H f0 f1 f2 f3 f4 f5 f6 f7 f8 f9; intro v hs h; rw [hchk, hpb] at h; obtain ⟨w2, rfl, H⟩ := h; refine need ?_)
            | ((with_reducible show actK _ (HAct.call (HX.cst (HV.func (Fn.func 14) _ _)) _) _ _ _ _ _); refine vcall_of ok14 rfl (same14S H (fun _ h => Sat.rd h) (fun _ h => hyr2 _ (by with_reducible first | exact h.t | exact h.t.t | exact h.t.t.t | exact h.t.t.t.t | exact h.t.t.t.t.t | exact h.t.t.t.t.t.t | exact h.t.t.t.t.t.t.t | exact h.t.t.t.t.t.t.t.t | exact h.t.t.t.t.t.t.t.t.t)) (x := out) (y := out) (by omega) (by omega)) ?_;  clear H f0 f1 f2 f3 f4 f5 f6 f7 f8 f9; rintro v hs ⟨rfl, H⟩; refine need ?_)
            | refine opC_K ?_
            | ((with_reducible show opC (unit (hstore _ _ _ _)) _); refine sl_store1 (by with_reducible first | exact H | exact H.p1 | exact H.p2 | exact H.p3 | exact H.p4 | exact H.p5 | exact H.p6 | exact H.p7 | exact H.p8 | exact H.p9) (Nat.le_of_ble_eq_true rfl) (by first | exact rfl | (simp only [f0, f1, f2, f3, f4, f5, f6, f7, f8, f9]; done) | (simp only [onA, *]; done)) (by first | exact rfl | (simp only [f0, f1, f2, f3, f4, f5, f6, f7, f8, f9]; done) | (simp only [onA, *]; done)) ?_)
            | ((with_reducible show opC (unit (hstore _ _ _ _)) _); refine sl_storeN (by with_reducible first | exact H | exact H.p1 | exact H.p2 | exact H.p3 | exact H.p4 | exact H.p5 | exact H.p6 | exact H.p7 | exact H.p8 | exact H.p9) rfl (Nat.le_of_ble_eq_true rfl) (by first | exact rfl | (simp only [f0, f1, f2, f3, f4, f5, f6, f7, f8, f9]; done) | (simp only [onA, *]; done)) ?_)
            | ((with_reducible show opC (happend _ _ _ _ _) _); refine sl_append (by with_reducible first | exact H | exact H.p1 | exact H.p2 | exact H.p3 | exact H.p4 | exact H.p5 | exact H.p6 | exact H.p7 | exact H.p8 | exact H.p9) (by first | assumption | with_reducible first | exact f0.2.1 | exact f1.2.1 | exact f2.2.1 | exact f3.2.1 | exact f4.2.1 | exact f5.2.1 | exact f6.2.1 | exact f7.2.1 | exact f8.2.1 | exact f9.2.1 | exact va_takeS) (by first | exact roomFor_of (by omega) | exact roomFor_wide (by omega)) (by omega) ?_)
            | ((with_reducible show opC (happend _ _ _ _ _) _); refine sl_append0X H (by first | assumption | with_reducible first | exact f0.2.1 | exact f1.2.1 | exact f2.2.1 | exact f3.2.1 | exact f4.2.1 | exact f5.2.1 | exact f6.2.1 | exact f7.2.1 | exact f8.2.1 | exact f9.2.1 | exact va_takeS) (by first | exact roomFor_of (by omega) | exact roomFor_wide (by omega)) (by omega) ?_)
            | ((with_reducible show opC (happend _ _ _ _ _) _); refine sl_appendX (by with_reducible first | exact H | exact H.p1 | exact H.p2 | exact H.p3 | exact H.p4 | exact H.p5 | exact H.p6 | exact H.p7 | exact H.p8 | exact H.p9) (by first | assumption | with_reducible first | exact f0.2.1 | exact f1.2.1 | exact f2.2.1 | exact f3.2.1 | exact f4.2.1 | exact f5.2.1 | exact f6.2.1 | exact f7.2.1 | exact f8.2.1 | exact f9.2.1 | exact va_takeS) (by first | exact roomFor_of (by omega) | exact roomFor_wide (by omega)) (by omega) ?_)
            | ((with_reducible show opC (hbuildSlice _ _ _ _ _) _); refine sl_bslice1 H rfl (by first | exact rfl | (simp only [f0, f1, f2, f3, f4, f5, f6, f7, f8, f9]; done) | (simp only [onA, *]; done)) (by first | exact rfl | (simp only [f0, f1, f2, f3, f4, f5, f6, f7, f8, f9]; done) | (simp only [onA, *]; done)) ?_)
            | ((with_reducible show opC (hbox _ _) _); refine sl_box1 H (by first | exact rfl | (simp only [f0, f1, f2, f3, f4, f5, f6, f7, f8, f9]; done) | (simp only [onA, *]; done)) (by first | exact rfl | (simp only [f0, f1, f2, f3, f4, f5, f6, f7, f8, f9]; done) | (simp only [onA, *]; done)) ?_)
            | ((with_reducible show opC (hbox _ _) _); refine sl_boxA H (by first | exact rfl | (simp only [f0, f1, f2, f3, f4, f5, f6, f7, f8, f9]; done) | (simp only [onA, *]; done)) ?_)
            | with_reducible intro hy

          · exact absurd (by assumption) (by simp)
          · exact ⟨(j + 1, back + out.length), _, by simp only; omega, ⟨by simp only; omega, by simp only; omega, hD'⟩, (by (repeat first | exact Less.nil | refine Less.undef _ ?_ | refine Less.keep _ ?_)), Weak.refl _, by
              have h := H.t.t.t.t.p3.p1.p3.p3
              rw [show j - got.length = 0 by omega] at h
              simp only [show j + 1 - got.length = 0 by omega]
              exact h⟩
        · have d1 : decide (((j : Nat) : Int) < ((got.length : Nat) : Int)) = false := decide_eq_false (by omega)
          obtain ⟨e2, he2⟩ : ∃ e2, LY[j - got.length]? = some e2 := ⟨_, List.getElem?_eq_getElem (by omega)⟩
          have he2x : e2.x = ex := by
            rw [← hXY, List.getElem?_append_right (by simp only [List.length_map]; omega), List.length_map, List.getElem?_map, he2] at hXe
            exact Option.some.inj hXe
          have hdr2 : LY.drop (j - got.length) = e2 :: LY.drop (j + 1 - got.length) := by
            have hk := lt_of_get he2
            rw [List.drop_eq_getElem_cons hk]
            rw [List.getElem?_eq_getElem hk] at he2
            rw [Option.some.inj he2, show j - got.length + 1 = j + 1 - got.length by omega]
          rw [hdr2] at H
          obtain ⟨ew2, ex2⟩ := e2
          simp only at he2x
          subst he2x
          have q1 := True.intro
          have q2 := True.intro
          first | have f0 := Sat.pf (H) | have f0 := trivial
          first | have f1 := Sat.pf (H.t) | have f1 := trivial
          first | have f2 := Sat.pf (H.t.t) | have f2 := trivial
          first | have f3 := Sat.pf (H.t.t.t) | have f3 := trivial
          first | have f4 := Sat.pf (H.t.t.t.t) | have f4 := trivial
          first | have f5 := Sat.pf (H.t.t.t.t.t) | have f5 := trivial
          first | have f6 := Sat.pf (H.t.t.t.t.t.t) | have f6 := trivial
          first | have f7 := Sat.pf (H.t.t.t.t.t.t.t) | have f7 := trivial
          first | have f8 := Sat.pf (H.t.t.t.t.t.t.t.t) | have f8 := trivial
          first | have f9 := Sat.pf (H.t.t.t.t.t.t.t.t.t) | have f9 := trivial
          repeat' first
            | ((with_reducible show Need _); refine need_of ?_; (first | have f0 := Sat.pf (H) | have f0 := trivial); (first | have f1 := Sat.pf (H.t) | have f1 := trivial); (first | have f2 := Sat.pf (H.t.t) | have f2 := trivial); (first | have f3 := Sat.pf (H.t.t.t) | have f3 := trivial); (first | have f4 := Sat.pf (H.t.t.t.t) | have f4 := trivial); (first | have f5 := Sat.pf (H.t.t.t.t.t) | have f5 := trivial); (first | have f6 := Sat.pf (H.t.t.t.t.t.t) | have f6 := trivial); (first | have f7 := Sat.pf (H.t.t.t.t.t.t.t) | have f7 := trivial); (first | have f8 := Sat.pf (H.t.t.t.t.t.t.t.t) | have f8 := trivial); (first | have f9 := Sat.pf (H.t.t.t.t.t.t.t.t.t) | have f9 := trivial); (first | have sob := (RB _ (by with_reducible first | exact H.t | exact H.t.t | exact H.t.t.t | exact H.t.t.t.t | exact H.t.t.t.t.t | exact H.t.t.t.t.t.t | exact H.t.t.t.t.t.t.t | exact H.t.t.t.t.t.t.t.t | exact H.t.t.t.t.t.t.t.t.t)).sOk | skip))
            | simp -implicitDefEqProofs (disch := first | omega | decide | exact rfl | assumption | exact Nat.le_of_ble_eq_true rfl | exact One.c | exact One.o) only [vsA, vsB, eq_self, if_true, if_false, implies_true, false_implies, evp, HX.ev, Nat.reduceAdd, HOp.looks, Nat.reduceEqDiff, overw, Nat.reduceBEq, o1, o2, q1, q2, d1, d5, len, one, cel, sob, hy2, oz1, oz2, vb, vb2, vadd1, va_loadA, va_ldA, ub5, f0, f1, f2, f3, f4, f5, f6, f7, f8, f9]
            | (refine condK_cases (fun h => ?_) (fun h => ?_) <;> (try simp only [h]) <;> (try simp only [athA, ne_eq] at h) <;> (try (exfalso; omega)))
            | (refine guardK_cases (fun h => ?_) (fun h => ?_) <;> (try simp only [h]) <;> (try simp only [athA, ne_eq] at h) <;> (try (exfalso; omega)))
            | (clear H f0 f1 f2 f3 f4 f5 f6 f7 f8 f9; (with_reducible intro v2 hs H); (try simp only [setA, overw, Nat.reduceAdd] at H); refine need ?_)
            | ((with_reducible show actK _ (HAct.call (HX.cst (HV.func (Fn.func 23) _ _)) _) _ _ _ _ _); refine vcall_of ok23 rfl (next23 (p := p7) (L := ⟨ew, ex2⟩ :: LX.drop (j + 1)) (bad := bad') (r := r') H.p2 (fun e he => hBX e (by rw [← hdr] at he; exact List.mem_of_mem_drop he)) (by rw [← hdr, List.length_drop]; omega)) ?_;  clear H f0 f1 f2 f3 f4 f5 f6 f7 f8 f9; rintro v hs ⟨w1, rfl, H⟩; have o1 := H.rd.one; have o2 := H.rd.cells; simp only [nextV, nextB] at H o1 o2 ⊢; refine need ?_)
            | ((with_reducible show actK _ (HAct.call (HX.cst (HV.func (Fn.func 23) _ _)) _) _ _ _ _ _); refine vcall_of ok23 rfl (next23 (p := p) (L := ⟨ew2, ex2⟩ :: LY.drop (j + 1 - got.length)) (bad := bad') (r := r') (by with_reducible first | exact H | exact H.p1 | exact H.p2 | exact H.p3 | exact H.p4 | exact H.p5 | exact H.p6 | exact H.p7 | exact H.p8 | exact H.p9) (fun e he => hBY e (by rw [← hdr2] at he; exact List.mem_of_mem_drop he)) (by rw [← hdr2, List.length_drop]; omega)) ?_;  clear H f0 f1 f2 f3 f4 f5 f6 f7 f8 f9; rintro v hs ⟨w3, rfl, H⟩; have q1 := H.rd.one; have q2 := H.rd.cells; simp only [nextV, nextB] at H q1 q2 ⊢; refine need ?_)
            | ((with_reducible show actK _ (HAct.call (HX.cst (HV.func (Fn.func 24) _ _)) _) _ _ _ _ _); refine vcall_of ok24 rfl (sameReply24S H (fun _ h => Sat.rd (v := w1) (by with_reducible first | exact h | exact h.p1 | exact h.p2 | exact h.p3 | exact h.p4 | exact h.p5 | exact h.p6 | exact h.p7 | exact h.p8 | exact h.p9)) (fun _ h => Sat.rd (v := w3) (by with_reducible first | exact h | exact h.p1 | exact h.p2 | exact h.p3 | exact h.p4 | exact h.p5 | exact h.p6 | exact h.p7 | exact h.p8 | exact h.p9)) (x := ex2.2.body) (y := ex2.2.body) (by omega) (by omega) ex2.1 ex2.2.id ex2.2.num ex2.1 ex2.2.id ex2.2.num ex2.2.tube ex2.2.tube) ?_;  clear H f0 f1 f2 f3 f4 f5 f6 f7 f8 f9; rintro v hs ⟨rfl, H⟩; refine need ?_)
            | ((with_reducible show actK _ (HAct.call (HX.cst (HV.func (Fn.func 12) _ _)) _) _ _ _ _ _); refine vcall_of ok12 rfl (put12S H (fun _ h => Sat.rd (v := w1) (by with_reducible first | exact h | exact h.p1 | exact h.p2 | exact h.p3 | exact h.p4 | exact h.p5 | exact h.p6 | exact h.p7 | exact h.p8 | exact h.p9)) (fun _ h => G _ (by with_reducible first | exact h.t | exact h.t.t | exact h.t.t.t | exact h.t.t.t.t | exact h.t.t.t.t.t | exact h.t.t.t.t.t.t | exact h.t.t.t.t.t.t.t | exact h.t.t.t.t.t.t.t.t | exact h.t.t.t.t.t.t.t.t.t)) ex2.1 ex2.2.id ex2.2.num (by omega) (by omega) ex2.2.tube (by omega)) ?_;  clear H f0 f1 f2 f3 f4 f5 f6 f7 f8 f9; intro v hs h; rw [hchk, hpb] at h; obtain ⟨w2, rfl, H⟩ := h; refine need ?_)
            | ((with_reducible show actK _ (HAct.call (HX.cst (HV.func (Fn.func 14) _ _)) _) _ _ _ _ _); refine vcall_of ok14 rfl (same14S H (fun _ h => Sat.rd h) (fun _ h => hyr2 _ (by with_reducible first | exact h.t | exact h.t.t | exact h.t.t.t | exact h.t.t.t.t | exact h.t.t.t.t.t | exact h.t.t.t.t.t.t | exact h.t.t.t.t.t.t.t | exact h.t.t.t.t.t.t.t.t | exact h.t.t.t.t.t.t.t.t.t)) (x := out) (y := out) (by omega) (by omega)) ?_;  clear H f0 f1 f2 f3 f4 f5 f6 f7 f8 f9; rintro v hs ⟨rfl, H⟩; refine need ?_)
            | refine opC_K ?_
            | ((with_reducible show opC (unit (hstore _ _ _ _)) _); refine sl_store1 (by with_reducible first | exact H | exact H.p1 | exact H.p2 | exact H.p3 | exact H.p4 | exact H.p5 | exact H.p6 | exact H.p7 | exact H.p8 | exact H.p9) (Nat.le_of_ble_eq_true rfl) (by first | exact rfl | (simp only [f0, f1, f2, f3, f4, f5, f6, f7, f8, f9]; done) | (simp only [onA, *]; done)) (by first | exact rfl | (simp only [f0, f1, f2, f3, f4, f5, f6, f7, f8, f9]; done) | (simp only [onA, *]; done)) ?_)
            | ((with_reducible show opC (unit (hstore _ _ _ _)) _); refine sl_storeN (by with_reducible first | exact H | exact H.p1 | exact H.p2 | exact H.p3 | exact H.p4 | exact H.p5 | exact H.p6 | exact H.p7 | exact H.p8 | exact H.p9) rfl (Nat.le_of_ble_eq_true rfl) (by first | exact rfl | (simp only [f0, f1, f2, f3, f4, f5, f6, f7, f8, f9]; done) | (simp only [onA, *]; done)) ?_)
            | ((with_reducible show opC (happend _ _ _ _ _) _); refine sl_append (by with_reducible first | exact H | exact H.p1 | exact H.p2 | exact H.p3 | exact H.p4 | exact H.p5 | exact H.p6 | exact H.p7 | exact H.p8 | exact H.p9) (by first | assumption | with_reducible first | exact f0.2.1 | exact f1.2.1 | exact f2.2.1 | exact f3.2.1 | exact f4.2.1 | exact f5.2.1 | exact f6.2.1 | exact f7.2.1 | exact f8.2.1 | exact f9.2.1 | exact va_takeS) (by first | exact roomFor_of (by omega) | exact roomFor_wide (by omega)) (by omega) ?_)
            | ((with_reducible show opC (happend _ _ _ _ _) _); refine sl_append0X H (by first | assumption | with_reducible first | exact f0.2.1 | exact f1.2.1 | exact f2.2.1 | exact f3.2.1 | exact f4.2.1 | exact f5.2.1 | exact f6.2.1 | exact f7.2.1 | exact f8.2.1 | exact f9.2.1 | exact va_takeS) (by first | exact roomFor_of (by omega) | exact roomFor_wide (by omega)) (by omega) ?_)
            | ((with_reducible show opC (happend _ _ _ _ _) _); refine sl_appendX (by with_reducible first | exact H | exact H.p1 | exact H.p2 | exact H.p3 | exact H.p4 | exact H.p5 | exact H.p6 | exact H.p7 | exact H.p8 | exact H.p9) (by first | assumption | with_reducible first | exact f0.2.1 | exact f1.2.1 | exact f2.2.1 | exact f3.2.1 | exact f4.2.1 | exact f5.2.1 | exact f6.2.1 | exact f7.2.1 | exact f8.2.1 | exact f9.2.1 | exact va_takeS) (by first | exact roomFor_of (by omega) | exact roomFor_wide (by omega)) (by omega) ?_)
            | ((with_reducible show opC (hbuildSlice _ _ _ _ _) _); refine sl_bslice1 H rfl (by first | exact rfl | (simp only [f0, f1, f2, f3, f4, f5, f6, f7, f8, f9]; done) | (simp only [onA, *]; done)) (by first | exact rfl | (simp only [f0, f1, f2, f3, f4, f5, f6, f7, f8, f9]; done) | (simp only [onA, *]; done)) ?_)
            | ((with_reducible show opC (hbox _ _) _); refine sl_box1 H (by first | exact rfl | (simp only [f0, f1, f2, f3, f4, f5, f6, f7, f8, f9]; done) | (simp only [onA, *]; done)) (by first | exact rfl | (simp only [f0, f1, f2, f3, f4, f5, f6, f7, f8, f9]; done) | (simp only [onA, *]; done)) ?_)
            | ((with_reducible show opC (hbox _ _) _); refine sl_boxA H (by first | exact rfl | (simp only [f0, f1, f2, f3, f4, f5, f6, f7, f8, f9]; done) | (simp only [onA, *]; done)) ?_)
            | with_reducible intro hy

          · exact absurd (by assumption) (by simp)
          · exact ⟨(j + 1, back + out.length), _, by simp only; omega, ⟨by simp only; omega, by simp only; omega, hD'⟩, (by (repeat first | exact Less.nil | refine Less.undef _ ?_ | refine Less.keep _ ?_)), Weak.refl _, H.t.t.t.p1.t.p1.t.p1.p3.p3⟩
      · obtain rfl : j = LX.length := by omega
        have d1 : decide (((LX.length : Nat) : Int) < ((got.length : Nat) : Int)) = false := decide_eq_false (by omega)
        rw [List.drop_length] at H hD
        rw [List.drop_eq_nil_of_le (show LY.length ≤ LX.length - got.length by omega)] at H
        obtain ⟨yb, hyb, ob1, ob2, hybr⟩ := rdl_tail (a := back) H.t.t.t.t RB hbk
        obtain ⟨_, hr1, _, hr2⟩ := dec_bounds hD
        simp only [List.map_nil, List.sum_nil, Nat.zero_add, List.length_drop] at hr1 hr2
        have sob := (RB _ H.t.t.t.t).sOk
        have vb : hbin .sub none (.int .i64 (b.length : Nat)) (.int .i64 (back : Nat)) = some (.int .i64 ((b.length - back : Nat) : Int)) := vsubn ⟨hbk, by omega⟩
        have d5 : decide (((r'.length : Nat) : Int) ≤ ((b.length - back : Nat) : Int)) = true := decide_eq_true (by omega)
        have d6 : decide (0 ≤ ((r'.length : Nat) : Int)) = true := decide_eq_true (by omega)
        have hhl : ∀ hs (q : Nat) l, Sat hs (ReadP q [] bad' r' :: l) → HC Tryd.prog 25 [.ptr q 0] hs fun v hs' => v = .int .i64 (r'.length : Nat) ∧ Sat hs' (ReadP q [] bad' r' :: l) := fun hs q l H => by
          have h := held25 (L := []) H (by simp; omega) (by simp)
          simpa using h
        have hwr : ∀ hs l, Sat hs l → Rdl l yb (b.drop back).length (bcells (b.drop back)) → HC Tryd.prog 26 [yb] hs fun v hs' => v = .bool bad' ∧ Sat hs' l := fun hs l H R => by
          refine (wrong26 H R (by rw [List.length_drop]; omega)).mono ?_
          rintro v hs' ⟨⟨L, bad, r, h1, h2⟩, h3⟩
          obtain ⟨rfl, rfl, rfl⟩ := h1.det hD
          exact ⟨by rw [h2]; simp, h3⟩
        cases bad' with
        | true =>
          have d7 := True.intro
          first | have f0 := Sat.pf (H) | have f0 := trivial
          first | have f1 := Sat.pf (H.t) | have f1 := trivial
          first | have f2 := Sat.pf (H.t.t) | have f2 := trivial
          first | have f3 := Sat.pf (H.t.t.t) | have f3 := trivial
          first | have f4 := Sat.pf (H.t.t.t.t) | have f4 := trivial
          first | have f5 := Sat.pf (H.t.t.t.t.t) | have f5 := trivial
          first | have f6 := Sat.pf (H.t.t.t.t.t.t) | have f6 := trivial
          first | have f7 := Sat.pf (H.t.t.t.t.t.t.t) | have f7 := trivial
          first | have f8 := Sat.pf (H.t.t.t.t.t.t.t.t) | have f8 := trivial
          first | have f9 := Sat.pf (H.t.t.t.t.t.t.t.t.t) | have f9 := trivial
          repeat' first
            | ((with_reducible show Need _); refine need_of ?_; (first | have f0 := Sat.pf (H) | have f0 := trivial); (first | have f1 := Sat.pf (H.t) | have f1 := trivial); (first | have f2 := Sat.pf (H.t.t) | have f2 := trivial); (first | have f3 := Sat.pf (H.t.t.t) | have f3 := trivial); (first | have f4 := Sat.pf (H.t.t.t.t) | have f4 := trivial); (first | have f5 := Sat.pf (H.t.t.t.t.t) | have f5 := trivial); (first | have f6 := Sat.pf (H.t.t.t.t.t.t) | have f6 := trivial); (first | have f7 := Sat.pf (H.t.t.t.t.t.t.t) | have f7 := trivial); (first | have f8 := Sat.pf (H.t.t.t.t.t.t.t.t) | have f8 := trivial); (first | have f9 := Sat.pf (H.t.t.t.t.t.t.t.t.t) | have f9 := trivial); (first | have sob := (RB _ (by with_reducible first | exact H.t | exact H.t.t | exact H.t.t.t | exact H.t.t.t.t | exact H.t.t.t.t.t | exact H.t.t.t.t.t.t | exact H.t.t.t.t.t.t.t | exact H.t.t.t.t.t.t.t.t | exact H.t.t.t.t.t.t.t.t.t)).sOk | skip))
            | simp -implicitDefEqProofs (disch := first | omega | decide | exact rfl | assumption | exact Nat.le_of_ble_eq_true rfl | exact One.c | exact One.o) only [vsA, vsB, eq_self, if_true, if_false, implies_true, false_implies, evp, HX.ev, Nat.reduceAdd, HOp.looks, Nat.reduceEqDiff, overw, Nat.reduceBEq, o1, o2, d1, d5, d6, d7, len, one, cel, sob, hyb, ob1, ob2, vb, vadd1, va_loadA, va_ldA, ub5, f0, f1, f2, f3, f4, f5, f6, f7, f8, f9]
            | (refine condK_cases (fun h => ?_) (fun h => ?_) <;> (try simp only [h]) <;> (try simp only [athA, ne_eq] at h) <;> (try (exfalso; omega)))
            | (refine guardK_cases (fun h => ?_) (fun h => ?_) <;> (try simp only [h]) <;> (try simp only [athA, ne_eq] at h) <;> (try (exfalso; omega)))
            | (clear H f0 f1 f2 f3 f4 f5 f6 f7 f8 f9; (with_reducible intro v2 hs H); (try simp only [setA, overw, Nat.reduceAdd] at H); refine need ?_)
            | ((with_reducible show actK _ (HAct.call (HX.cst (HV.func (Fn.func 23) _ _)) _) _ _ _ _ _); refine vcall_of ok23 rfl (next23 (p := p7) (L := []) (bad := true) (r := r') (by with_reducible first | exact H | exact H.p1 | exact H.p2 | exact H.p3 | exact H.p4 | exact H.p5 | exact H.p6 | exact H.p7 | exact H.p8 | exact H.p9) (fun e he => by cases he) (by simp)) ?_;  clear H f0 f1 f2 f3 f4 f5 f6 f7 f8 f9; rintro v hs ⟨w1, rfl, H⟩; simp only [nextV, nextB, List.tail_nil] at H ⊢; refine need ?_)
            | ((with_reducible show actK _ (HAct.call (HX.cst (HV.func (Fn.func 23) _ _)) _) _ _ _ _ _); refine vcall_of ok23 rfl (next23 (p := p) (L := []) (bad := true) (r := r') (by with_reducible first | exact H | exact H.p1 | exact H.p2 | exact H.p3 | exact H.p4 | exact H.p5 | exact H.p6 | exact H.p7 | exact H.p8 | exact H.p9) (fun e he => by cases he) (by simp)) ?_;  clear H f0 f1 f2 f3 f4 f5 f6 f7 f8 f9; rintro v hs ⟨w3, rfl, H⟩; simp only [nextV, nextB, List.tail_nil] at H ⊢; refine need ?_)
            | ((with_reducible show actK _ (HAct.call (HX.cst (HV.func (Fn.func 24) _ _)) _) _ _ _ _ _); refine vcall_of ok24 rfl (sameReply24S H (x := []) (y := []) (fun _ _ => Rd.nil) (fun _ _ => Rd.nil) (by simp) (by simp) 0 0 0 0 0 0 [] []) ?_;  clear H f0 f1 f2 f3 f4 f5 f6 f7 f8 f9; rintro v hs ⟨rfl, H⟩; refine need ?_)
            | ((with_reducible show actK _ (HAct.call (HX.cst (HV.func (Fn.func 25) _ _)) _) _ _ _ _ _); refine vcall_of ok25 rfl (hhl _ p7 _ (by with_reducible first | exact H | exact H.p1 | exact H.p2 | exact H.p3 | exact H.p4 | exact H.p5 | exact H.p6 | exact H.p7 | exact H.p8 | exact H.p9)) ?_;  clear H f0 f1 f2 f3 f4 f5 f6 f7 f8 f9; rintro v hs ⟨rfl, H⟩; refine need ?_)
            | ((with_reducible show actK _ (HAct.call (HX.cst (HV.func (Fn.func 25) _ _)) _) _ _ _ _ _); refine vcall_of ok25 rfl (hhl _ p _ (by with_reducible first | exact H | exact H.p1 | exact H.p2 | exact H.p3 | exact H.p4 | exact H.p5 | exact H.p6 | exact H.p7 | exact H.p8 | exact H.p9)) ?_;  clear H f0 f1 f2 f3 f4 f5 f6 f7 f8 f9; rintro v hs ⟨rfl, H⟩; refine need ?_)
            | ((with_reducible show actK _ (HAct.call (HX.cst (HV.func (Fn.func 26) _ _)) _) _ _ _ _ _); refine vcall_of ok26 rfl (hwr _ _ H (fun _ h => hybr _ (by with_reducible first | exact h.t | exact h.t.t | exact h.t.t.t | exact h.t.t.t.t | exact h.t.t.t.t.t | exact h.t.t.t.t.t.t | exact h.t.t.t.t.t.t.t | exact h.t.t.t.t.t.t.t.t | exact h.t.t.t.t.t.t.t.t.t))) ?_;  clear H f0 f1 f2 f3 f4 f5 f6 f7 f8 f9; rintro v hs ⟨rfl, H⟩; refine need ?_)
            | refine opC_K ?_
            | ((with_reducible show opC (unit (hstore _ _ _ _)) _); refine sl_store1 (by with_reducible first | exact H | exact H.p1 | exact H.p2 | exact H.p3 | exact H.p4 | exact H.p5 | exact H.p6 | exact H.p7 | exact H.p8 | exact H.p9) (Nat.le_of_ble_eq_true rfl) (by first | exact rfl | (simp only [f0, f1, f2, f3, f4, f5, f6, f7, f8, f9]; done) | (simp only [onA, *]; done)) (by first | exact rfl | (simp only [f0, f1, f2, f3, f4, f5, f6, f7, f8, f9]; done) | (simp only [onA, *]; done)) ?_)
            | ((with_reducible show opC (unit (hstore _ _ _ _)) _); refine sl_storeN (by with_reducible first | exact H | exact H.p1 | exact H.p2 | exact H.p3 | exact H.p4 | exact H.p5 | exact H.p6 | exact H.p7 | exact H.p8 | exact H.p9) rfl (Nat.le_of_ble_eq_true rfl) (by first | exact rfl | (simp only [f0, f1, f2, f3, f4, f5, f6, f7, f8, f9]; done) | (simp only [onA, *]; done)) ?_)
            | ((with_reducible show opC (happend _ _ _ _ _) _); refine sl_append (by with_reducible first | exact H | exact H.p1 | exact H.p2 | exact H.p3 | exact H.p4 | exact H.p5 | exact H.p6 | exact H.p7 | exact H.p8 | exact H.p9) (by first | assumption | with_reducible first | exact f0.2.1 | exact f1.2.1 | exact f2.2.1 | exact f3.2.1 | exact f4.2.1 | exact f5.2.1 | exact f6.2.1 | exact f7.2.1 | exact f8.2.1 | exact f9.2.1 | exact va_takeS) (by first | exact roomFor_of (by omega) | exact roomFor_wide (by omega)) (by omega) ?_)
            | ((with_reducible show opC (happend _ _ _ _ _) _); refine sl_append0X H (by first | assumption | with_reducible first | exact f0.2.1 | exact f1.2.1 | exact f2.2.1 | exact f3.2.1 | exact f4.2.1 | exact f5.2.1 | exact f6.2.1 | exact f7.2.1 | exact f8.2.1 | exact f9.2.1 | exact va_takeS) (by first | exact roomFor_of (by omega) | exact roomFor_wide (by omega)) (by omega) ?_)
            | ((with_reducible show opC (happend _ _ _ _ _) _); refine sl_appendX (by with_reducible first | exact H | exact H.p1 | exact H.p2 | exact H.p3 | exact H.p4 | exact H.p5 | exact H.p6 | exact H.p7 | exact H.p8 | exact H.p9) (by first | assumption | with_reducible first | exact f0.2.1 | exact f1.2.1 | exact f2.2.1 | exact f3.2.1 | exact f4.2.1 | exact f5.2.1 | exact f6.2.1 | exact f7.2.1 | exact f8.2.1 | exact f9.2.1 | exact va_takeS) (by first | exact roomFor_of (by omega) | exact roomFor_wide (by omega)) (by omega) ?_)
            | ((with_reducible show opC (hbuildSlice _ _ _ _ _) _); refine sl_bslice1 H rfl (by first | exact rfl | (simp only [f0, f1, f2, f3, f4, f5, f6, f7, f8, f9]; done) | (simp only [onA, *]; done)) (by first | exact rfl | (simp only [f0, f1, f2, f3, f4, f5, f6, f7, f8, f9]; done) | (simp only [onA, *]; done)) ?_)
            | ((with_reducible show opC (hbox _ _) _); refine sl_box1 H (by first | exact rfl | (simp only [f0, f1, f2, f3, f4, f5, f6, f7, f8, f9]; done) | (simp only [onA, *]; done)) (by first | exact rfl | (simp only [f0, f1, f2, f3, f4, f5, f6, f7, f8, f9]; done) | (simp only [onA, *]; done)) ?_)
            | ((with_reducible show opC (hbox _ _) _); refine sl_boxA H (by first | exact rfl | (simp only [f0, f1, f2, f3, f4, f5, f6, f7, f8, f9]; done) | (simp only [onA, *]; done)) ?_)
            | with_reducible intro hy

          all_goals exact absurd (by assumption) (by simp)
        | false =>
          have d7 : decide (((r'.length : Nat) : Int) = ((b.length - back : Nat) : Int)) = true := decide_eq_true (by have := hr2 rfl; omega)
          first | have f0 := Sat.pf (H) | have f0 := trivial
          first | have f1 := Sat.pf (H.t) | have f1 := trivial
          first | have f2 := Sat.pf (H.t.t) | have f2 := trivial
          first | have f3 := Sat.pf (H.t.t.t) | have f3 := trivial
          first | have f4 := Sat.pf (H.t.t.t.t) | have f4 := trivial
          first | have f5 := Sat.pf (H.t.t.t.t.t) | have f5 := trivial
          first | have f6 := Sat.pf (H.t.t.t.t.t.t) | have f6 := trivial
          first | have f7 := Sat.pf (H.t.t.t.t.t.t.t) | have f7 := trivial
          first | have f8 := Sat.pf (H.t.t.t.t.t.t.t.t) | have f8 := trivial
          first | have f9 := Sat.pf (H.t.t.t.t.t.t.t.t.t) | have f9 := trivial
          repeat' first
            | ((with_reducible show Need _); refine need_of ?_; (first | have f0 := Sat.pf (H) | have f0 := trivial); (first | have f1 := Sat.pf (H.t) | have f1 := trivial); (first | have f2 := Sat.pf (H.t.t) | have f2 := trivial); (first | have f3 := Sat.pf (H.t.t.t) | have f3 := trivial); (first | have f4 := Sat.pf (H.t.t.t.t) | have f4 := trivial); (first | have f5 := Sat.pf (H.t.t.t.t.t) | have f5 := trivial); (first | have f6 := Sat.pf (H.t.t.t.t.t.t) | have f6 := trivial); (first | have f7 := Sat.pf (H.t.t.t.t.t.t.t) | have f7 := trivial); (first | have f8 := Sat.pf (H.t.t.t.t.t.t.t.t) | have f8 := trivial); (first | have f9 := Sat.pf (H.t.t.t.t.t.t.t.t.t) | have f9 := trivial); (first | have sob := (RB _ (by with_reducible first | exact H.t | exact H.t.t | exact H.t.t.t | exact H.t.t.t.t | exact H.t.t.t.t.t | exact H.t.t.t.t.t.t | exact H.t.t.t.t.t.t.t | exact H.t.t.t.t.t.t.t.t | exact H.t.t.t.t.t.t.t.t.t)).sOk | skip))
            | simp -implicitDefEqProofs (disch := first | omega | decide | exact rfl | assumption | exact Nat.le_of_ble_eq_true rfl | exact One.c | exact One.o) only [vsA, vsB, eq_self, if_true, if_false, implies_true, false_implies, evp, HX.ev, Nat.reduceAdd, HOp.looks, Nat.reduceEqDiff, overw, Nat.reduceBEq, o1, o2, d1, d5, d6, d7, len, one, cel, sob, hyb, ob1, ob2, vb, vadd1, va_loadA, va_ldA, ub5, f0, f1, f2, f3, f4, f5, f6, f7, f8, f9]
            | (refine condK_cases (fun h => ?_) (fun h => ?_) <;> (try simp only [h]) <;> (try simp only [athA, ne_eq] at h) <;> (try (exfalso; omega)))
            | (refine guardK_cases (fun h => ?_) (fun h => ?_) <;> (try simp only [h]) <;> (try simp only [athA, ne_eq] at h) <;> (try (exfalso; omega)))
            | (clear H f0 f1 f2 f3 f4 f5 f6 f7 f8 f9; (with_reducible intro v2 hs H); (try simp only [setA, overw, Nat.reduceAdd] at H); refine need ?_)
            | ((with_reducible show actK _ (HAct.call (HX.cst (HV.func (Fn.func 23) _ _)) _) _ _ _ _ _); refine vcall_of ok23 rfl (next23 (p := p7) (L := []) (bad := false) (r := r') (by with_reducible first | exact H | exact H.p1 | exact H.p2 | exact H.p3 | exact H.p4 | exact H.p5 | exact H.p6 | exact H.p7 | exact H.p8 | exact H.p9) (fun e he => by cases he) (by simp)) ?_;  clear H f0 f1 f2 f3 f4 f5 f6 f7 f8 f9; rintro v hs ⟨w1, rfl, H⟩; simp only [nextV, nextB, List.tail_nil] at H ⊢; refine need ?_)
            | ((with_reducible show actK _ (HAct.call (HX.cst (HV.func (Fn.func 23) _ _)) _) _ _ _ _ _); refine vcall_of ok23 rfl (next23 (p := p) (L := []) (bad := false) (r := r') (by with_reducible first | exact H | exact H.p1 | exact H.p2 | exact H.p3 | exact H.p4 | exact H.p5 | exact H.p6 | exact H.p7 | exact H.p8 | exact H.p9) (fun e he => by cases he) (by simp)) ?_;  clear H f0 f1 f2 f3 f4 f5 f6 f7 f8 f9; rintro v hs ⟨w3, rfl, H⟩; simp only [nextV, nextB, List.tail_nil] at H ⊢; refine need ?_)
            | ((with_reducible show actK _ (HAct.call (HX.cst (HV.func (Fn.func 24) _ _)) _) _ _ _ _ _); refine vcall_of ok24 rfl (sameReply24S H (x := []) (y := []) (fun _ _ => Rd.nil) (fun _ _ => Rd.nil) (by simp) (by simp) 0 0 0 0 0 0 [] []) ?_;  clear H f0 f1 f2 f3 f4 f5 f6 f7 f8 f9; rintro v hs ⟨rfl, H⟩; refine need ?_)
            | ((with_reducible show actK _ (HAct.call (HX.cst (HV.func (Fn.func 25) _ _)) _) _ _ _ _ _); refine vcall_of ok25 rfl (hhl _ p7 _ (by with_reducible first | exact H | exact H.p1 | exact H.p2 | exact H.p3 | exact H.p4 | exact H.p5 | exact H.p6 | exact H.p7 | exact H.p8 | exact H.p9)) ?_;  clear H f0 f1 f2 f3 f4 f5 f6 f7 f8 f9; rintro v hs ⟨rfl, H⟩; refine need ?_)
            | ((with_reducible show actK _ (HAct.call (HX.cst (HV.func (Fn.func 25) _ _)) _) _ _ _ _ _); refine vcall_of ok25 rfl (hhl _ p _ (by with_reducible first | exact H | exact H.p1 | exact H.p2 | exact H.p3 | exact H.p4 | exact H.p5 | exact H.p6 | exact H.p7 | exact H.p8 | exact H.p9)) ?_;  clear H f0 f1 f2 f3 f4 f5 f6 f7 f8 f9; rintro v hs ⟨rfl, H⟩; refine need ?_)
            | ((with_reducible show actK _ (HAct.call (HX.cst (HV.func (Fn.func 26) _ _)) _) _ _ _ _ _); refine vcall_of ok26 rfl (hwr _ _ H (fun _ h => hybr _ (by with_reducible first | exact h.t | exact h.t.t | exact h.t.t.t | exact h.t.t.t.t | exact h.t.t.t.t.t | exact h.t.t.t.t.t.t | exact h.t.t.t.t.t.t.t | exact h.t.t.t.t.t.t.t.t | exact h.t.t.t.t.t.t.t.t.t))) ?_;  clear H f0 f1 f2 f3 f4 f5 f6 f7 f8 f9; rintro v hs ⟨rfl, H⟩; refine need ?_)
            | refine opC_K ?_
            | ((with_reducible show opC (unit (hstore _ _ _ _)) _); refine sl_store1 (by with_reducible first | exact H | exact H.p1 | exact H.p2 | exact H.p3 | exact H.p4 | exact H.p5 | exact H.p6 | exact H.p7 | exact H.p8 | exact H.p9) (Nat.le_of_ble_eq_true rfl) (by first | exact rfl | (simp only [f0, f1, f2, f3, f4, f5, f6, f7, f8, f9]; done) | (simp only [onA, *]; done)) (by first | exact rfl | (simp only [f0, f1, f2, f3, f4, f5, f6, f7, f8, f9]; done) | (simp only [onA, *]; done)) ?_)
            | ((with_reducible show opC (unit (hstore _ _ _ _)) _); refine sl_storeN (by with_reducible first | exact H | exact H.p1 | exact H.p2 | exact H.p3 | exact H.p4 | exact H.p5 | exact H.p6 | exact H.p7 | exact H.p8 | exact H.p9) rfl (Nat.le_of_ble_eq_true rfl) (by first | exact rfl | (simp only [f0, f1, f2, f3, f4, f5, f6, f7, f8, f9]; done) | (simp only [onA, *]; done)) ?_)
            | ((with_reducible show opC (happend _ _ _ _ _) _); refine sl_append (by with_reducible first | exact H | exact H.p1 | exact H.p2 | exact H.p3 | exact H.p4 | exact H.p5 | exact H.p6 | exact H.p7 | exact H.p8 | exact H.p9) (by first | assumption | with_reducible first | exact f0.2.1 | exact f1.2.1 | exact f2.2.1 | exact f3.2.1 | exact f4.2.1 | exact f5.2.1 | exact f6.2.1 | exact f7.2.1 | exact f8.2.1 | exact f9.2.1 | exact va_takeS) (by first | exact roomFor_of (by omega) | exact roomFor_wide (by omega)) (by omega) ?_)
            | ((with_reducible show opC (happend _ _ _ _ _) _); refine sl_append0X H (by first | assumption | with_reducible first | exact f0.2.1 | exact f1.2.1 | exact f2.2.1 | exact f3.2.1 | exact f4.2.1 | exact f5.2.1 | exact f6.2.1 | exact f7.2.1 | exact f8.2.1 | exact f9.2.1 | exact va_takeS) (by first | exact roomFor_of (by omega) | exact roomFor_wide (by omega)) (by omega) ?_)
            | ((with_reducible show opC (happend _ _ _ _ _) _); refine sl_appendX (by with_reducible first | exact H | exact H.p1 | exact H.p2 | exact H.p3 | exact H.p4 | exact H.p5 | exact H.p6 | exact H.p7 | exact H.p8 | exact H.p9) (by first | assumption | with_reducible first | exact f0.2.1 | exact f1.2.1 | exact f2.2.1 | exact f3.2.1 | exact f4.2.1 | exact f5.2.1 | exact f6.2.1 | exact f7.2.1 | exact f8.2.1 | exact f9.2.1 | exact va_takeS) (by first | exact roomFor_of (by omega) | exact roomFor_wide (by omega)) (by omega) ?_)
            | ((with_reducible show opC (hbuildSlice _ _ _ _ _) _); refine sl_bslice1 H rfl (by first | exact rfl | (simp only [f0, f1, f2, f3, f4, f5, f6, f7, f8, f9]; done) | (simp only [onA, *]; done)) (by first | exact rfl | (simp only [f0, f1, f2, f3, f4, f5, f6, f7, f8, f9]; done) | (simp only [onA, *]; done)) ?_)
            | ((with_reducible show opC (hbox _ _) _); refine sl_box1 H (by first | exact rfl | (simp only [f0, f1, f2, f3, f4, f5, f6, f7, f8, f9]; done) | (simp only [onA, *]; done)) (by first | exact rfl | (simp only [f0, f1, f2, f3, f4, f5, f6, f7, f8, f9]; done) | (simp only [onA, *]; done)) ?_)
            | ((with_reducible show opC (hbox _ _) _); refine sl_boxA H (by first | exact rfl | (simp only [f0, f1, f2, f3, f4, f5, f6, f7, f8, f9]; done) | (simp only [onA, *]; done)) ?_)
            | with_reducible intro hy

          all_goals exact absurd (by assumption) (by simp)
end A
end Go.Proofs.YthihchoccpnfeaaDoor
namespace Go.Proofs.YthihchoccpnfeaaDoor
open Go Go.HL Go.ChangeShapes Go.WideShapes Go.ChangeAt Go.ChangeMaps Go.RowKit Go.Shelf
namespace RC
open A W0
set_option maxRecDepth 100000
set_option linter.unusedSimpArgs false

def argSh : Sh := (.cons .bytes (.cons (.sl .int) (.cons .bool .nil)))
theorem argTy : argSh.argB Tryd.prog [22, 40, 4] = true := by kernel_rfl


theorem cut_law0 {g : HS} {bv cv : HV} {b : List UInt8} {C : List Int} {e : Bool} (G1 : Rd (hs1 ++ g) 1 bv b.length (bcells b)) (G3 : Rd (hs1 ++ g) 1 cv C.length (C.flatMap fun n => [HV.int .i64 n]))
    (F1 : b.length ≤ 1048576) (F3 : C.length ≤ 1048576) : HC Tryd.prog 5 [bv, cv, .bool e] (hs1 ++ g) fun r _ => r = .bool true := by
  rw [ints_cells] at G3
  exact law5 (Sat.base_of (hs1 ++ g)) (fun hs h => G1.base h) (fun hs h => G3.base h) (fun hs h => tab_base h) (by omega) (by omega) e
theorem cut_law {g : HS} {a : argSh.D} (G : argSh.Good (hs1 ++ g) a) (F : argSh.Small 1048576 a) : HC Tryd.prog 5 (argSh.tops a) (hs1 ++ g) fun r _ => r = .bool true :=
  cut_law0 G.1 G.2.1.1 F.1 F.2.1.1
theorem row_reads (os : Os) {H : Type} (enc : TypeId × Value → H) : ∃ places, DataW.whole enc Tryd.prog ((World.laidAll Tryd.prog os Rows.answersCutUptoRow.laid).forCall (fun _ _ => 0) ⟨#[], #[.slice none 0 0, .slice none 0 0, .bool false], []⟩).memory
    Tryd.f5.params.toList (Rows.OpenSpec.upto Rows.answersCutSpec).vars false #[Value.slice none 0 0, Value.slice none 0 0, Value.bool false].toList 8 = some ([.nil, .nil, .lit (.bool false)], [], places) :=
  ⟨[], by kernel_rfl⟩
theorem row_lifted (os : Os) (started : os.Started) (H : Type) (enc : TypeId × Value → H) (F : Stop.Interp) :
    ReturnsInHanded {} Tryd.checked os 5 .any ((Rows.OpenSpec.upto Rows.answersCutSpec).preRow enc Tryd.prog Tryd.f5 Rows.answersCutUptoRow.domain false Rows.answersCutUptoRow.laid)
      (((Rows.OpenSpec.upto Rows.answersCutSpec).at F).post enc Tryd.prog Tryd.f5 false true false false) := by
  obtain ⟨places, hx⟩ := row_reads os enc
  refine returnsInHanded_of_row (C := Tryd.checked) (s := Rows.OpenSpec.upto Rows.answersCutSpec) own started (by kernel_rfl) Tryd.func5
    (witness_row_shaped (enc := enc) (C := Tryd.checked) false (World.laidAll Tryd.prog os Rows.answersCutUptoRow.laid) #[.slice none 0 0, .slice none 0 0, .bool false] (World.laidAll_os _ _ _)
      (World.shaped_of_ZipB (by kernel_rfl) (by kernel_rfl)) (by kernel_rfl)
      (OpenSpec.preRow_of_cond 8 hx (by kernel_rfl) (fun k hk => by cases hk; kernel_rfl) (by kernel_rfl)
        (by rw [MakeChecks.laidMetH_plain _ _ _ (by kernel_rfl)]; exact laidMet_laidAll _ (by kernel_rfl) (by kernel_rfl)))) ?_
  intro M base args ds gs before hval0 hW _ hcond _ hL hsh _
  have hval : ∀ (j : Nat) t v, Tryd.f5.params[j]? = some t → args[j]? = some v → Value.okWide Tryd.prog M .any base t v := hval0
  have hW' := hW
  obtain ⟨p, q, hA0, hV, rfl, hfz, hnd⟩ := hW
  have hA : DataW.TrodAll enc Tryd.prog M 0 (fun _ => true) true Tryd.f5.params.toList args.toList ds p := hA0
  rw [Tryd.params5] at hA hval
  obtain ⟨rfl, rfl⟩ := trodVars_none hV
  have hk := of_decide_eq_true (hcond _ rfl)
  have hk2 : Rows.uptoBulkAll ds ≤ 1048576 := by simpa only [List.append_nil] using hk
  clear hk hcond

  have E0 := emb_tab3 (g := 1) (by kernel_rfl) (pow_of_laidR hL)
  obtain ⟨β', hs', a, x1, ⟨g, x2⟩, x3, x4, x5, x6, x7⟩ := Sh.args argSh (ts := [22, 40, 4]) argTy hA (fun j t v ht hv => hval j t v (by simpa using ht) (by simpa using hv)) E0 ro1 (by decide)
  have fit := small_of argSh x7 (n := 1048576) hk2
  subst x2
  obtain ⟨d0, r0, rfl, o0, d1, r1, rfl, o1, d2, r2, rfl, o2, hnil⟩ := x7
  subst hnil
  obtain ⟨us, hus⟩ : ∃ us, us = args.toList := ⟨_, rfl⟩
  have hargs : args = us.toArray := by simp [hus]
  rw [← hus] at x5
  subst hargs
  refine (HC.below (us := us) x3 x5 x4 (cut_law x6 fit)).mono fun e M' ⟨he, hb⟩ => ?_
  subst he
  exact ⟨_, rfl, law_post (s := Rows.answersCutSpec) (tb := 4) laidOut rfl Tryd.underlying4 (by kernel_rfl) (by kernel_rfl) hW' rfl hb⟩

theorem answersCut_holds : Rows.AnswersCutUptoSaid :=
  OpenClaim.holds_of_cond 5 Tryd.f5 rfl rfl rfl rfl rfl rfl rfl ⟨rfl, rfl, rfl, rfl, rfl⟩ rfl rfl rfl rfl rfl (by kernel_rfl) Tryd.func5 (by kernel_rfl)
    (of_decide_eq_true (by kernel_rfl)) (by unfold Func.isWrapper; first | (rw [if_pos (by decide +kernel)]; kernel_rfl) | (rw [if_neg (by decide +kernel)]; exact ⟨rfl, rfl⟩))
    (fun os started H enc _ F => by rw [OpenClaim.pre_eq_preRow]; exact row_lifted os started H enc F)
theorem answersCut_plain (f : FuncId) (fn : Func) (hf : Tryd.pinned.checked.prog.funcNamed "stint/stintlaw08.AnswersCut" = some f) (hfn : Tryd.pinned.checked.prog.funcs[f]? = some fn) :
    false = Tryd.pinned.checked.prog.looks [] ∧ ∀ (j : Nat) t, fn.params[j]? = some t → Tryd.pinned.checked.prog.wantsStandIn t = false := by
  obtain rfl : f = 5 := Option.some.inj ((show Tryd.prog.funcNamed "stint/stintlaw08.AnswersCut" = some 5 by kernel_rfl).symm.trans hf) |>.symm
  obtain rfl : fn = Tryd.f5 := (Option.some.inj (Tryd.func5.symm.trans hfn)).symm
  refine ⟨by kernel_rfl, fun j t ht => ?_⟩
  rw [Tryd.params5] at ht
  have hm : t ∈ [22, 40, 4] := by simpa using Array.mem_of_getElem? ht
  have hall : ([22, 40, 4].all fun u => !Tryd.prog.wantsStandIn u) = true := by kernel_rfl
  exact (show Tryd.prog.wantsStandIn t = false by simpa using List.all_eq_true.1 hall t hm)
theorem answersCut_card : Rows.AnswersCutUptoCardSaid :=
  Claim7.holds_tied_plain_at .later [] _ _ _ _ answersCut_holds (fun _ h => by cases h) (by kernel_rfl) (fun _ h => by cases h) answersCutUpto_row_tie rfl ⟨rfl, rfl⟩ (by kernel_rfl) rfl answersCut_plain (by kernel_rfl)
#print axioms answersCut_card
end RC
end Go.Proofs.YthihchoccpnfeaaDoor
