import Derived.Test.YthihchoccpnfeaaDoorHLRound
import Derived.Test.YthihchoccpnfeaaDoorProg
import Derived.KernelRfl
/- The functions, turned (written by program, each checked by the kernel). -/
namespace Go.Proofs.YthihchoccpnfeaaDoor
open Go Go.HL
/-- stint/stintlaw08.AnswersWrite -/
def h3 : HFn :=
  ⟨129, [(.tmp 4)],
    (.seq (.region [
      ⟨(some 2), (.op (.box (.tmp 0))), none⟩,
      ⟨(some 3), (.op (.box (.tmp 1))), none⟩,
      ⟨(some 4), (.op (.mv (.cst (.bool false)))), none⟩] [])
    (.seq (.seq (.region [
      ⟨(some 20), (.call (.cst (.func (.func 9) [] [])) []), none⟩,
      ⟨(some 21), (.op (.un .not (.tmp 20))), none⟩] [])
    (.cond (.tmp 21)
      (.seq (.region [
        ⟨(some 4), (.op (.mv (.cst (.bool false)))), none⟩] [])
      .ret)
      .skip))
    (.seq (.region [
      ⟨(some 22), (.op (.build [.nilSlice, .nilSlice] [])), none⟩,
      ⟨(some 5), (.op (.box (.cst (.agg [.nilSlice, .nilSlice])))), none⟩,
      ⟨none, (.op (.store 2 (.tmp 5) (.tmp 22))), none⟩] [])
    (.seq (.region [
      ⟨(some 24), (.op (.load (some 5) (.tmp 2))), none⟩,
      ⟨(some 25), (.call (.cst (.func (.func 10) [] [])) [(.tmp 24)]), none⟩,
      ⟨(some 23), (.op (.mv (.tmp 25))), none⟩,
      ⟨(some 26), (.op (.ext 0 (.tmp 23))), none⟩,
      ⟨(some 27), (.op (.ext 1 (.tmp 23))), none⟩,
      ⟨(some 6), (.op (.box (.cst (.agg [(.int .i64 0), (.int .i64 0), (.int .i64 0), (.str []), .nilSlice])))), none⟩,
      ⟨none, (.op (.store 5 (.tmp 6) (.tmp 26))), none⟩,
      ⟨(some 7), (.op (.mv (.tmp 27))), none⟩] [])
    (.seq (.seq (.region [
      ⟨(some 8), (.op (.mv (.cst (.int .i64 0)))), none⟩] [])
    (.block 0
      (.loop
        (.seq (.seq (.region [
          ⟨(some 28), (.op (.mv (.tmp 8))), none⟩,
          ⟨(some 29), (.op (.bin .lss none (.tmp 28) (.cst (.int .i64 3)))), none⟩] [])
        (.cond (.tmp 29)
          .skip
          (.exit 0)))
        (.seq (.block 1
          (.seq (.region [
            ⟨(some 32), (.op (.load (some 5) (.tmp 6))), none⟩,
            ⟨(some 33), (.call (.cst (.func (.func 11) [] [])) [(.tmp 32)]), none⟩,
            ⟨(some 9), (.op (.mv (.tmp 33))), none⟩] [])
          (.seq (.region [
            ⟨(some 35), (.op (.load (some 5) (.tmp 6))), none⟩,
            ⟨(some 36), (.call (.cst (.func (.func 12) [] [])) [(.tmp 35)]), none⟩,
            ⟨(some 34), (.op (.mv (.tmp 36))), none⟩,
            ⟨(some 37), (.op (.ext 0 (.tmp 34))), none⟩,
            ⟨(some 38), (.op (.ext 1 (.tmp 34))), none⟩,
            ⟨(some 10), (.op (.mv (.tmp 37))), none⟩,
            ⟨(some 11), (.op (.mv (.tmp 38))), none⟩] [])
          (.seq (.region [
            ⟨(some 40), (.op (.load (some 5) (.tmp 2))), none⟩,
            ⟨(some 41), (.call (.cst (.func (.func 13) [] [])) [(.tmp 40)]), none⟩,
            ⟨(some 39), (.op (.mv (.tmp 41))), none⟩,
            ⟨(some 42), (.op (.ext 0 (.tmp 39))), none⟩,
            ⟨(some 43), (.op (.ext 1 (.tmp 39))), none⟩,
            ⟨(some 12), (.op (.mv (.tmp 42))), none⟩,
            ⟨(some 13), (.op (.mv (.tmp 43))), none⟩] [])
          (.seq (.seq (.region [
            ⟨(some 44), (.op (.mv (.tmp 8))), none⟩,
            ⟨(some 45), (.op (.bin .eql (some .int) (.tmp 44) (.cst (.int .i64 1)))), none⟩] [])
          (.cond (.tmp 45)
            (.seq (.region [
              ⟨(some 46), (.op (.load (some 5) (.tmp 3))), none⟩,
              ⟨(some 47), (.call (.cst (.func (.func 11) [] [])) [(.tmp 46)]), none⟩,
              ⟨(some 9), (.op (.mv (.tmp 47))), none⟩] [])
            (.seq (.region [
              ⟨(some 49), (.op (.load (some 5) (.tmp 3))), none⟩,
              ⟨(some 50), (.call (.cst (.func (.func 12) [] [])) [(.tmp 49)]), none⟩,
              ⟨(some 48), (.op (.mv (.tmp 50))), none⟩,
              ⟨(some 51), (.op (.ext 0 (.tmp 48))), none⟩,
              ⟨(some 52), (.op (.ext 1 (.tmp 48))), none⟩,
              ⟨(some 10), (.op (.mv (.tmp 51))), none⟩,
              ⟨(some 11), (.op (.mv (.tmp 52))), none⟩] [])
            (.region [
              ⟨(some 54), (.op (.load (some 5) (.tmp 3))), none⟩,
              ⟨(some 55), (.call (.cst (.func (.func 13) [] [])) [(.tmp 54)]), none⟩,
              ⟨(some 53), (.op (.mv (.tmp 55))), none⟩,
              ⟨(some 56), (.op (.ext 0 (.tmp 53))), none⟩,
              ⟨(some 57), (.op (.ext 1 (.tmp 53))), none⟩,
              ⟨(some 12), (.op (.mv (.tmp 56))), none⟩,
              ⟨(some 13), (.op (.mv (.tmp 57))), none⟩] [])))
            .skip))
          (.seq (.seq (.region [
            ⟨(some 58), (.op (.mv (.tmp 11))), none⟩,
            ⟨(some 59), (.op (.mv (.tmp 13))), none⟩,
            ⟨(some 60), (.op (.bin .neq (some .int) (.tmp 58) (.tmp 59))), none⟩,
            ⟨(some 61), (.op (.mv (.tmp 60))), none⟩,
            ⟨(some 62), (.op (.mv (.tmp 9))), (some (61, false))⟩,
            ⟨(some 63), (.op (.mv (.tmp 13))), (some (61, false))⟩,
            ⟨(some 64), (.op (.bin .neq (some .int) (.tmp 62) (.tmp 63))), (some (61, false))⟩,
            ⟨(some 65), (.op (.pick (.tmp 61) (.cst (.bool true)) (.tmp 64))), none⟩,
            ⟨(some 66), (.op (.mv (.tmp 65))), none⟩,
            ⟨(some 67), (.op (.mv (.tmp 10))), (some (66, false))⟩,
            ⟨(some 68), (.op (.mv (.tmp 12))), (some (66, false))⟩,
            ⟨(some 69), (.call (.cst (.func (.func 14) [] [])) [(.tmp 67), (.tmp 68)]), (some (66, false))⟩,
            ⟨(some 70), (.op (.un .not (.tmp 69))), (some (66, false))⟩,
            ⟨(some 71), (.op (.pick (.tmp 66) (.cst (.bool true)) (.tmp 70))), none⟩,
            ⟨(some 72), (.op (.mv (.tmp 71))), none⟩,
            ⟨(some 73), (.op (.mv (.tmp 7))), (some (72, false))⟩,
            ⟨(some 74), (.op (.faddr 4 (.tmp 2))), (some (72, false))⟩,
            ⟨(some 75), (.op (.load none (.tmp 74))), (some (72, false))⟩,
            ⟨(some 76), (.call (.cst (.func (.func 15) [] [])) [(.tmp 73), (.tmp 75)]), (some (72, false))⟩,
            ⟨(some 77), (.op (.un .not (.tmp 76))), (some (72, false))⟩,
            ⟨(some 78), (.op (.pick (.tmp 72) (.cst (.bool true)) (.tmp 77))), none⟩,
            ⟨(some 79), (.op (.mv (.tmp 78))), none⟩,
            ⟨(some 80), (.call (.cst (.func (.func 16) [] [])) [(.tmp 5)]), (some (79, false))⟩,
            ⟨(some 81), (.op (.un .not (.tmp 80))), (some (79, false))⟩,
            ⟨(some 82), (.op (.pick (.tmp 79) (.cst (.bool true)) (.tmp 81))), none⟩] [])
          (.cond (.tmp 82)
            (.seq (.region [
              ⟨(some 4), (.op (.mv (.cst (.bool false)))), none⟩] [])
            .ret)
            .skip))
          (.region [
            ⟨(some 83), (.op (.mv (.tmp 10))), none⟩,
            ⟨(some 84), (.call (.cst (.func (.func 17) [] [])) [(.tmp 5), (.tmp 83)]), none⟩] [])))))))
        (.region [
          ⟨(some 30), (.op (.mv (.tmp 8))), none⟩,
          ⟨(some 31), (.op (.bin .add none (.tmp 30) (.cst (.int .i64 1)))), none⟩,
          ⟨(some 8), (.op (.mv (.tmp 31))), none⟩] []))))))
    (.seq (.seq (.region [
      ⟨(some 14), (.op (.mv (.cst (.int .i64 0)))), none⟩] [])
    (.block 2
      (.loop
        (.seq (.seq (.region [
          ⟨(some 85), (.op (.mv (.tmp 14))), none⟩,
          ⟨(some 86), (.op (.faddr 4 (.tmp 6))), none⟩,
          ⟨(some 87), (.op (.load none (.tmp 86))), none⟩,
          ⟨(some 88), (.op (.len .slice (.tmp 87))), none⟩,
          ⟨(some 89), (.op (.bin .lss none (.tmp 85) (.tmp 88))), none⟩] [])
        (.cond (.tmp 89)
          .skip
          (.exit 2)))
        (.seq (.block 3
          (.draw [
            ⟨(some 92), (.op (.faddr 4 (.tmp 6))), none⟩,
            ⟨(some 93), (.op (.load none (.tmp 92))), none⟩,
            ⟨(some 94), (.op (.mv (.tmp 14))), none⟩,
            ⟨(some 95), (.op (.faddr 4 (.tmp 6))), none⟩,
            ⟨(some 96), (.op (.load none (.tmp 95))), none⟩,
            ⟨(some 97), (.op (.mv (.tmp 14))), none⟩,
            ⟨(some 98), (.op (.idxS 1 (.tmp 96) (.tmp 97))), none⟩,
            ⟨(some 99), (.op (.load none (.tmp 98))), none⟩,
            ⟨(some 100), (.op (.bin .xor none (.tmp 99) (.cst (.int .u8 33)))), none⟩,
            ⟨(some 101), (.op (.idxS 1 (.tmp 93) (.tmp 94))), none⟩,
            ⟨none, (.op (.store 1 (.tmp 101) (.tmp 100))), none⟩] [0, 1, 2, 3, 4, 5, 6, 7, 8, 9, 10] [[], [], [], [], [], [], [], [], [], [], [9, 1, 4, 6, 7]] []))
        (.region [
          ⟨(some 90), (.op (.mv (.tmp 14))), none⟩,
          ⟨(some 91), (.op (.bin .add none (.tmp 90) (.cst (.int .i64 1)))), none⟩,
          ⟨(some 14), (.op (.mv (.tmp 91))), none⟩] []))))))
    (.seq (.region [
      ⟨(some 102), (.op (.load (some 5) (.tmp 2))), none⟩,
      ⟨(some 15), (.op (.box (.cst (.agg [(.int .i64 0), (.int .i64 0), (.int .i64 0), (.str []), .nilSlice])))), none⟩,
      ⟨none, (.op (.store 5 (.tmp 15) (.tmp 102))), none⟩] [])
    (.seq (.region [
      ⟨(some 103), (.op (.faddr 4 (.tmp 6))), none⟩,
      ⟨(some 104), (.op (.load none (.tmp 103))), none⟩,
      ⟨(some 105), (.call (.cst (.func (.func 18) [] [])) [(.tmp 104)]), none⟩,
      ⟨(some 106), (.op (.faddr 4 (.tmp 15))), none⟩,
      ⟨none, (.op (.store 1 (.tmp 106) (.tmp 105))), none⟩] [])
    (.seq (.region [
      ⟨(some 108), (.op (.load (some 5) (.tmp 6))), none⟩,
      ⟨(some 109), (.call (.cst (.func (.func 12) [] [])) [(.tmp 108)]), none⟩,
      ⟨(some 107), (.op (.mv (.tmp 109))), none⟩,
      ⟨(some 110), (.op (.ext 0 (.tmp 107))), none⟩,
      ⟨(some 111), (.op (.ext 1 (.tmp 107))), none⟩,
      ⟨(some 16), (.op (.mv (.tmp 110))), none⟩,
      ⟨(some 17), (.op (.mv (.tmp 111))), none⟩] [])
    (.seq (.region [
      ⟨(some 113), (.op (.load (some 5) (.tmp 15))), none⟩,
      ⟨(some 114), (.call (.cst (.func (.func 13) [] [])) [(.tmp 113)]), none⟩,
      ⟨(some 112), (.op (.mv (.tmp 114))), none⟩,
      ⟨(some 115), (.op (.ext 0 (.tmp 112))), none⟩,
      ⟨(some 116), (.op (.ext 1 (.tmp 112))), none⟩,
      ⟨(some 18), (.op (.mv (.tmp 115))), none⟩,
      ⟨(some 19), (.op (.mv (.tmp 116))), none⟩] [])
    (.seq (.seq (.region [
      ⟨(some 117), (.op (.mv (.tmp 17))), none⟩,
      ⟨(some 118), (.op (.mv (.tmp 19))), none⟩,
      ⟨(some 119), (.op (.bin .neq (some .int) (.tmp 117) (.tmp 118))), none⟩,
      ⟨(some 120), (.op (.mv (.tmp 119))), none⟩,
      ⟨(some 121), (.op (.mv (.tmp 16))), (some (120, false))⟩,
      ⟨(some 122), (.op (.mv (.tmp 18))), (some (120, false))⟩,
      ⟨(some 123), (.call (.cst (.func (.func 14) [] [])) [(.tmp 121), (.tmp 122)]), (some (120, false))⟩,
      ⟨(some 124), (.op (.un .not (.tmp 123))), (some (120, false))⟩,
      ⟨(some 125), (.op (.pick (.tmp 120) (.cst (.bool true)) (.tmp 124))), none⟩] [])
    (.cond (.tmp 125)
      (.seq (.region [
        ⟨(some 4), (.op (.mv (.cst (.bool false)))), none⟩] [])
      .ret)
      .skip))
    (.seq (.region [
      ⟨(some 126), (.op (.mv (.tmp 16))), none⟩,
      ⟨(some 127), (.call (.cst (.func (.func 17) [] [])) [(.tmp 5), (.tmp 126)]), none⟩] [])
    (.seq (.region [
      ⟨(some 128), (.call (.cst (.func (.func 19) [] [])) [(.tmp 5)]), none⟩,
      ⟨(some 4), (.op (.mv (.tmp 128))), none⟩] [])
    .ret)))))))))))))⟩
theorem c3 : cFn Tryd.prog [] Tryd.f3 = some h3 := by kernel_rfl
/-- stint/stintlaw08.AnswersUnlike -/
def h6 : HFn :=
  ⟨47, [(.tmp 4)],
    (.seq (.region [
      ⟨(some 2), (.op (.box (.tmp 0))), none⟩,
      ⟨(some 3), (.op (.box (.tmp 1))), none⟩,
      ⟨(some 4), (.op (.mv (.cst (.bool false)))), none⟩] [])
    (.seq (.seq (.region [
      ⟨(some 10), (.call (.cst (.func (.func 9) [] [])) []), none⟩,
      ⟨(some 11), (.op (.un .not (.tmp 10))), none⟩] [])
    (.cond (.tmp 11)
      (.seq (.region [
        ⟨(some 4), (.op (.mv (.cst (.bool false)))), none⟩] [])
      .ret)
      .skip))
    (.seq (.region [
      ⟨(some 13), (.op (.load (some 5) (.tmp 2))), none⟩,
      ⟨(some 14), (.call (.cst (.func (.func 12) [] [])) [(.tmp 13)]), none⟩,
      ⟨(some 12), (.op (.mv (.tmp 14))), none⟩,
      ⟨(some 15), (.op (.ext 0 (.tmp 12))), none⟩,
      ⟨(some 16), (.op (.ext 1 (.tmp 12))), none⟩,
      ⟨(some 5), (.op (.mv (.tmp 15))), none⟩,
      ⟨(some 6), (.op (.mv (.tmp 16))), none⟩] [])
    (.seq (.region [
      ⟨(some 18), (.op (.load (some 5) (.tmp 3))), none⟩,
      ⟨(some 19), (.call (.cst (.func (.func 12) [] [])) [(.tmp 18)]), none⟩,
      ⟨(some 17), (.op (.mv (.tmp 19))), none⟩,
      ⟨(some 20), (.op (.ext 0 (.tmp 17))), none⟩,
      ⟨(some 21), (.op (.ext 1 (.tmp 17))), none⟩,
      ⟨(some 7), (.op (.mv (.tmp 20))), none⟩,
      ⟨(some 8), (.op (.mv (.tmp 21))), none⟩] [])
    (.seq (.seq (.region [
      ⟨(some 22), (.op (.mv (.tmp 6))), none⟩,
      ⟨(some 23), (.op (.bin .neq (some .int) (.tmp 22) (.cst (.int .i64 0)))), none⟩,
      ⟨(some 24), (.op (.mv (.tmp 23))), none⟩,
      ⟨(some 25), (.op (.mv (.tmp 8))), (some (24, false))⟩,
      ⟨(some 26), (.op (.bin .neq (some .int) (.tmp 25) (.cst (.int .i64 0)))), (some (24, false))⟩,
      ⟨(some 27), (.op (.pick (.tmp 24) (.cst (.bool true)) (.tmp 26))), none⟩] [])
    (.cond (.tmp 27)
      (.seq (.region [
        ⟨(some 4), (.op (.mv (.cst (.bool true)))), none⟩] [])
      .ret)
      .skip))
    (.seq (.region [
      ⟨(some 28), (.op (.mv (.tmp 5))), none⟩,
      ⟨(some 29), (.op (.len .slice (.tmp 28))), none⟩,
      ⟨(some 9), (.op (.mv (.tmp 29))), none⟩] [])
    (.seq (.seq (.region [
      ⟨(some 30), (.op (.mv (.tmp 7))), none⟩,
      ⟨(some 31), (.op (.len .slice (.tmp 30))), none⟩,
      ⟨(some 32), (.op (.mv (.tmp 9))), none⟩,
      ⟨(some 33), (.op (.bin .lss none (.tmp 31) (.tmp 32))), none⟩] [])
    (.cond (.tmp 33)
      (.region [
        ⟨(some 34), (.op (.mv (.tmp 7))), none⟩,
        ⟨(some 35), (.op (.len .slice (.tmp 34))), none⟩,
        ⟨(some 9), (.op (.mv (.tmp 35))), none⟩] [])
      .skip))
    (.seq (.draw [
      ⟨(some 36), (.op (.mv (.tmp 5))), none⟩,
      ⟨(some 37), (.op (.mv (.tmp 9))), none⟩,
      ⟨(some 38), (.op (.sliceSl 1 (.tmp 36) none (some (.tmp 37)) none)), none⟩,
      ⟨(some 39), (.op (.mv (.tmp 7))), none⟩,
      ⟨(some 40), (.op (.mv (.tmp 9))), none⟩,
      ⟨(some 41), (.op (.sliceSl 1 (.tmp 39) none (some (.tmp 40)) none)), none⟩,
      ⟨(some 42), (.call (.cst (.func (.func 14) [] [])) [(.tmp 38), (.tmp 41)]), none⟩,
      ⟨(some 43), (.op (.load (some 5) (.tmp 2))), none⟩,
      ⟨(some 44), (.op (.load (some 5) (.tmp 3))), none⟩,
      ⟨(some 45), (.call (.cst (.func (.func 24) [] [])) [(.tmp 43), (.tmp 44)]), none⟩,
      ⟨(some 46), (.op (.bin .eql (some .bool) (.tmp 42) (.tmp 45))), none⟩,
      ⟨(some 4), (.op (.mv (.tmp 46))), none⟩] [0, 1, 2, 3, 4, 5, 7, 8, 6, 9, 10, 11] [[], [], [], [], [], [], [2, 5], [], [], [7, 8, 2, 5], [], []] [])
    .ret))))))))⟩
theorem c6 : cFn Tryd.prog [] Tryd.f6 = some h6 := by kernel_rfl
/-- stint/stintlaw08.lentReply -/
def h10 : HFn :=
  ⟨16, [(.cell 2 (some 5)), (.tmp 3)],
    (.seq (.region [
      ⟨(some 1), (.op (.box (.tmp 0))), none⟩,
      ⟨(some 2), (.op (.box (.cst (.agg [(.int .i64 0), (.int .i64 0), (.int .i64 0), (.str []), .nilSlice])))), none⟩,
      ⟨(some 3), (.op (.mv (.cst .nilSlice))), none⟩] [])
    (.seq (.region [
      ⟨(some 5), (.op (.faddr 4 (.tmp 1))), none⟩,
      ⟨(some 6), (.op (.load none (.tmp 5))), none⟩,
      ⟨(some 7), (.call (.cst (.func (.func 34) [] [])) [(.tmp 6)]), none⟩,
      ⟨(some 4), (.op (.mv (.tmp 7))), none⟩] [])
    (.seq (.region [
      ⟨(some 8), (.op (.mv (.tmp 4))), none⟩,
      ⟨(some 9), (.op (.faddr 4 (.tmp 1))), none⟩,
      ⟨(some 10), (.op (.load none (.tmp 9))), none⟩,
      ⟨(some 11), (.op (.len .slice (.tmp 10))), none⟩,
      ⟨(some 12), (.op (.sliceSl 1 (.tmp 8) none (some (.tmp 11)) none)), none⟩,
      ⟨(some 13), (.op (.faddr 4 (.tmp 1))), none⟩,
      ⟨none, (.op (.store 1 (.tmp 13) (.tmp 12))), none⟩] [])
    (.seq (.region [
      ⟨(some 14), (.op (.load (some 5) (.tmp 1))), none⟩,
      ⟨(some 15), (.op (.mv (.tmp 4))), none⟩,
      ⟨none, (.op (.store 5 (.tmp 2) (.tmp 14))), none⟩,
      ⟨(some 3), (.op (.mv (.tmp 15))), none⟩] [])
    .ret))))⟩
theorem c10 : cFn Tryd.prog [] Tryd.f10 = some h10 := by kernel_rfl
/-- stint/answers.Check -/
def h11 : HFn :=
  ⟨93, [(.tmp 2)],
    (.seq (.region [
      ⟨(some 1), (.op (.box (.tmp 0))), none⟩,
      ⟨(some 2), (.op (.mv (.cst (.int .i64 0)))), none⟩] [])
    (.seq (.seq (.region [
      ⟨(some 7), (.op (.faddr 0 (.tmp 1))), none⟩,
      ⟨(some 8), (.op (.load none (.tmp 7))), none⟩,
      ⟨(some 9), (.call (.cst (.func (.func 35) [] [])) [(.tmp 8)]), none⟩,
      ⟨(some 10), (.op (.bin .eql (some .str) (.tmp 9) (.cst (.str [])))), none⟩] [])
    (.cond (.tmp 10)
      (.seq (.region [
        ⟨(some 2), (.op (.mv (.cst (.int .i64 80)))), none⟩] [])
      .ret)
      .skip))
    (.seq (.draw [
      ⟨(some 11), (.op (.faddr 1 (.tmp 1))), none⟩,
      ⟨(some 12), (.op (.load none (.tmp 11))), none⟩,
      ⟨(some 13), (.op (.bin .eql (some .int) (.tmp 12) (.cst (.int .i64 0)))), none⟩,
      ⟨(some 14), (.op (.faddr 2 (.tmp 1))), none⟩,
      ⟨(some 15), (.op (.load none (.tmp 14))), none⟩,
      ⟨(some 16), (.op (.bin .eql (some .int) (.tmp 15) (.cst (.int .i64 0)))), none⟩,
      ⟨(some 17), (.op (.faddr 3 (.tmp 1))), none⟩,
      ⟨(some 18), (.op (.load none (.tmp 17))), none⟩,
      ⟨(some 19), (.op (.bin .eql (some .str) (.tmp 18) (.cst (.str [])))), none⟩,
      ⟨(some 20), (.op (.faddr 4 (.tmp 1))), none⟩,
      ⟨(some 21), (.op (.load none (.tmp 20))), none⟩,
      ⟨(some 22), (.op (.len .slice (.tmp 21))), none⟩,
      ⟨(some 23), (.op (.bin .eql (some .int) (.tmp 22) (.cst (.int .i64 0)))), none⟩,
      ⟨(some 3), (.op (.mv (.tmp 13))), none⟩,
      ⟨(some 4), (.op (.mv (.tmp 16))), none⟩,
      ⟨(some 5), (.op (.mv (.tmp 19))), none⟩,
      ⟨(some 6), (.op (.mv (.tmp 23))), none⟩] [0, 1, 2, 3, 4, 5, 6, 7, 8, 9, 10, 11, 12, 13, 14, 15, 16] [[], [], [], [], [], [], [], [], [], [], [], [], [], [], [], [], []] [])
    (.seq (.seq (.region [
      ⟨(some 24), (.op (.faddr 0 (.tmp 1))), none⟩,
      ⟨(some 25), (.op (.load none (.tmp 24))), none⟩] [])
    (.block 0
      (.seq (.seq (.region [
        ⟨(some 27), (.op (.bin .eql (some .int) (.tmp 25) (.cst (.int .i64 3)))), none⟩,
        ⟨(some 26), (.op (.mv (.tmp 27))), none⟩] [])
      (.cond (.tmp 26)
        .skip
        (.region [
          ⟨(some 28), (.op (.bin .eql (some .int) (.tmp 25) (.cst (.int .i64 12)))), none⟩,
          ⟨(some 26), (.op (.mv (.tmp 28))), none⟩] [])))
      (.cond (.tmp 26)
        (.draw [
          ⟨(some 29), (.op (.faddr 1 (.tmp 1))), none⟩,
          ⟨(some 30), (.op (.load none (.tmp 29))), none⟩,
          ⟨(some 31), (.op (.bin .geq none (.tmp 30) (.cst (.int .i64 1)))), none⟩,
          ⟨(some 32), (.op (.mv (.tmp 31))), none⟩,
          ⟨(some 33), (.op (.faddr 1 (.tmp 1))), (some (32, true))⟩,
          ⟨(some 34), (.op (.load none (.tmp 33))), (some (32, true))⟩,
          ⟨(some 35), (.op (.bin .leq none (.tmp 34) (.cst (.int .i64 1099511627776)))), (some (32, true))⟩,
          ⟨(some 36), (.op (.pick (.tmp 32) (.tmp 35) (.cst (.bool false)))), none⟩,
          ⟨(some 37), (.op (.faddr 4 (.tmp 1))), none⟩,
          ⟨(some 38), (.op (.load none (.tmp 37))), none⟩,
          ⟨(some 39), (.op (.len .slice (.tmp 38))), none⟩,
          ⟨(some 40), (.op (.faddr 0 (.tmp 1))), none⟩,
          ⟨(some 41), (.op (.load none (.tmp 40))), none⟩,
          ⟨(some 42), (.call (.cst (.func (.func 36) [] [])) [(.tmp 41)]), none⟩,
          ⟨(some 43), (.op (.bin .leq none (.tmp 39) (.tmp 42))), none⟩,
          ⟨(some 3), (.op (.mv (.tmp 36))), none⟩,
          ⟨(some 6), (.op (.mv (.tmp 43))), none⟩] [0, 1, 2, 3, 4, 5, 6, 7, 8, 9, 10, 11, 12, 13, 14, 15, 16] [[], [], [], [], [], [], [], [], [], [], [], [], [], [12, 1], [], [], []] [])
        (.seq (.region [
          ⟨(some 45), (.op (.bin .eql (some .int) (.tmp 25) (.cst (.int .i64 16)))), none⟩,
          ⟨(some 44), (.op (.mv (.tmp 45))), none⟩] [])
        (.cond (.tmp 44)
          (.draw [
            ⟨(some 46), (.op (.faddr 4 (.tmp 1))), none⟩,
            ⟨(some 47), (.op (.load none (.tmp 46))), none⟩,
            ⟨(some 48), (.op (.len .slice (.tmp 47))), none⟩,
            ⟨(some 49), (.op (.faddr 0 (.tmp 1))), none⟩,
            ⟨(some 50), (.op (.load none (.tmp 49))), none⟩,
            ⟨(some 51), (.call (.cst (.func (.func 36) [] [])) [(.tmp 50)]), none⟩,
            ⟨(some 52), (.op (.bin .leq none (.tmp 48) (.tmp 51))), none⟩,
            ⟨(some 6), (.op (.mv (.tmp 52))), none⟩] [0, 1, 2, 3, 4, 5, 6, 7] [[], [], [], [], [], [4], [], []] [])
          (.seq (.region [
            ⟨(some 54), (.op (.bin .eql (some .int) (.tmp 25) (.cst (.int .i64 1)))), none⟩,
            ⟨(some 53), (.op (.mv (.tmp 54))), none⟩] [])
          (.cond (.tmp 53)
            (.region [
              ⟨(some 55), (.op (.faddr 1 (.tmp 1))), none⟩,
              ⟨(some 56), (.op (.load none (.tmp 55))), none⟩,
              ⟨(some 57), (.op (.bin .geq none (.tmp 56) (.cst (.int .i64 1)))), none⟩,
              ⟨(some 58), (.op (.mv (.tmp 57))), none⟩,
              ⟨(some 59), (.op (.faddr 1 (.tmp 1))), (some (58, true))⟩,
              ⟨(some 60), (.op (.load none (.tmp 59))), (some (58, true))⟩,
              ⟨(some 61), (.op (.bin .leq none (.tmp 60) (.cst (.int .i64 1099511627776)))), (some (58, true))⟩,
              ⟨(some 62), (.op (.pick (.tmp 58) (.tmp 61) (.cst (.bool false)))), none⟩,
              ⟨(some 3), (.op (.mv (.tmp 62))), none⟩] [])
            (.seq (.region [
              ⟨(some 64), (.op (.bin .eql (some .int) (.tmp 25) (.cst (.int .i64 2)))), none⟩,
              ⟨(some 63), (.op (.mv (.tmp 64))), none⟩] [])
            (.cond (.tmp 63)
              (.region [
                ⟨(some 65), (.op (.faddr 3 (.tmp 1))), none⟩,
                ⟨(some 66), (.op (.load none (.tmp 65))), none⟩,
                ⟨(some 67), (.call (.cst (.func (.func 37) [] [])) [(.tmp 66)]), none⟩,
                ⟨(some 5), (.op (.mv (.tmp 67))), none⟩] [])
              (.seq (.seq (.region [
                ⟨(some 69), (.op (.bin .eql (some .int) (.tmp 25) (.cst (.int .i64 10)))), none⟩,
                ⟨(some 68), (.op (.mv (.tmp 69))), none⟩] [])
              (.cond (.tmp 68)
                .skip
                (.region [
                  ⟨(some 70), (.op (.bin .eql (some .int) (.tmp 25) (.cst (.int .i64 13)))), none⟩,
                  ⟨(some 68), (.op (.mv (.tmp 70))), none⟩] [])))
              (.cond (.tmp 68)
                (.region [
                  ⟨(some 71), (.op (.faddr 2 (.tmp 1))), none⟩,
                  ⟨(some 72), (.op (.load none (.tmp 71))), none⟩,
                  ⟨(some 73), (.op (.bin .geq none (.tmp 72) (.cst (.int .i64 0)))), none⟩,
                  ⟨(some 74), (.op (.mv (.tmp 73))), none⟩,
                  ⟨(some 75), (.op (.faddr 2 (.tmp 1))), (some (74, true))⟩,
                  ⟨(some 76), (.op (.load none (.tmp 75))), (some (74, true))⟩,
                  ⟨(some 77), (.op (.bin .leq none (.tmp 76) (.cst (.int .i64 4294967295)))), (some (74, true))⟩,
                  ⟨(some 78), (.op (.pick (.tmp 74) (.tmp 77) (.cst (.bool false)))), none⟩,
                  ⟨(some 4), (.op (.mv (.tmp 78))), none⟩] [])
                .skip))))))))))))
    (.seq (.seq (.region [
      ⟨(some 79), (.op (.mv (.tmp 3))), none⟩,
      ⟨(some 80), (.op (.un .not (.tmp 79))), none⟩,
      ⟨(some 81), (.op (.mv (.tmp 80))), none⟩,
      ⟨(some 82), (.op (.mv (.tmp 4))), (some (81, false))⟩,
      ⟨(some 83), (.op (.un .not (.tmp 82))), (some (81, false))⟩,
      ⟨(some 84), (.op (.pick (.tmp 81) (.cst (.bool true)) (.tmp 83))), none⟩,
      ⟨(some 85), (.op (.mv (.tmp 84))), none⟩,
      ⟨(some 86), (.op (.mv (.tmp 5))), (some (85, false))⟩,
      ⟨(some 87), (.op (.un .not (.tmp 86))), (some (85, false))⟩,
      ⟨(some 88), (.op (.pick (.tmp 85) (.cst (.bool true)) (.tmp 87))), none⟩,
      ⟨(some 89), (.op (.mv (.tmp 88))), none⟩,
      ⟨(some 90), (.op (.mv (.tmp 6))), (some (89, false))⟩,
      ⟨(some 91), (.op (.un .not (.tmp 90))), (some (89, false))⟩,
      ⟨(some 92), (.op (.pick (.tmp 89) (.cst (.bool true)) (.tmp 91))), none⟩] [])
    (.cond (.tmp 92)
      (.seq (.region [
        ⟨(some 2), (.op (.mv (.cst (.int .i64 81)))), none⟩] [])
      .ret)
      .skip))
    (.seq (.region [
      ⟨(some 2), (.op (.mv (.cst (.int .i64 0)))), none⟩] [])
    .ret))))))⟩
theorem c11 : cFn Tryd.prog [] Tryd.f11 = some h11 := by kernel_rfl
/-- stint/answers.Put -/
def h12 : HFn :=
  ⟨66, [(.tmp 2), (.tmp 3)],
    (.seq (.region [
      ⟨(some 1), (.op (.box (.tmp 0))), none⟩,
      ⟨(some 2), (.op (.mv (.cst .nilSlice))), none⟩,
      ⟨(some 3), (.op (.mv (.cst (.int .i64 0)))), none⟩] [])
    (.seq (.seq (.region [
      ⟨(some 6), (.op (.load (some 5) (.tmp 1))), none⟩,
      ⟨(some 7), (.call (.cst (.func (.func 11) [] [])) [(.tmp 6)]), none⟩,
      ⟨(some 4), (.op (.mv (.tmp 7))), none⟩] [])
    (.seq (.region [
      ⟨(some 8), (.op (.mv (.tmp 4))), none⟩,
      ⟨(some 9), (.op (.bin .neq (some .int) (.tmp 8) (.cst (.int .i64 0)))), none⟩] [])
    (.cond (.tmp 9)
      (.seq (.region [
        ⟨(some 10), (.op (.mv (.tmp 4))), none⟩,
        ⟨(some 2), (.op (.mv (.cst .nilSlice))), none⟩,
        ⟨(some 3), (.op (.mv (.tmp 10))), none⟩] [])
      .ret)
      .skip)))
    (.seq (.region [
      ⟨(some 11), (.op (.faddr 0 (.tmp 1))), none⟩,
      ⟨(some 12), (.op (.load none (.tmp 11))), none⟩,
      ⟨(some 13), (.call (.cst (.func (.func 35) [] [])) [(.tmp 12)]), none⟩,
      ⟨(some 14), (.op (.s2b (.tmp 13))), none⟩,
      ⟨(some 5), (.op (.mv (.tmp 14))), none⟩] [])
    (.seq (.seq (.region [
      ⟨(some 15), (.op (.faddr 0 (.tmp 1))), none⟩,
      ⟨(some 16), (.op (.load none (.tmp 15))), none⟩] [])
    (.block 0
      (.seq (.block 5
        (.seq (.block 4
          (.seq (.block 3
            (.seq (.block 2
              (.seq (.block 1
                (.seq (.seq (.seq (.seq (.region [
                  ⟨(some 18), (.op (.bin .eql (some .int) (.tmp 16) (.cst (.int .i64 3)))), none⟩,
                  ⟨(some 17), (.op (.mv (.tmp 18))), none⟩] [])
                (.cond (.tmp 17)
                  .skip
                  (.region [
                    ⟨(some 19), (.op (.bin .eql (some .int) (.tmp 16) (.cst (.int .i64 12)))), none⟩,
                    ⟨(some 17), (.op (.mv (.tmp 19))), none⟩] [])))
                (.cond (.tmp 17)
                  (.exit 1)
                  .skip))
                (.seq (.seq (.region [
                  ⟨(some 21), (.op (.bin .eql (some .int) (.tmp 16) (.cst (.int .i64 16)))), none⟩,
                  ⟨(some 20), (.op (.mv (.tmp 21))), none⟩] [])
                (.cond (.tmp 20)
                  (.exit 2)
                  .skip))
                (.seq (.seq (.region [
                  ⟨(some 23), (.op (.bin .eql (some .int) (.tmp 16) (.cst (.int .i64 1)))), none⟩,
                  ⟨(some 22), (.op (.mv (.tmp 23))), none⟩] [])
                (.cond (.tmp 22)
                  (.exit 3)
                  .skip))
                (.seq (.seq (.region [
                  ⟨(some 25), (.op (.bin .eql (some .int) (.tmp 16) (.cst (.int .i64 2)))), none⟩,
                  ⟨(some 24), (.op (.mv (.tmp 25))), none⟩] [])
                (.cond (.tmp 24)
                  (.exit 4)
                  .skip))
                (.seq (.seq (.region [
                  ⟨(some 27), (.op (.bin .eql (some .int) (.tmp 16) (.cst (.int .i64 10)))), none⟩,
                  ⟨(some 26), (.op (.mv (.tmp 27))), none⟩] [])
                (.cond (.tmp 26)
                  .skip
                  (.region [
                    ⟨(some 28), (.op (.bin .eql (some .int) (.tmp 16) (.cst (.int .i64 13)))), none⟩,
                    ⟨(some 26), (.op (.mv (.tmp 28))), none⟩] [])))
                (.cond (.tmp 26)
                  (.exit 5)
                  .skip))))))
                (.exit 0)))
              (.region [
                ⟨(some 29), (.op (.mv (.tmp 5))), none⟩,
                ⟨(some 30), (.op (.faddr 1 (.tmp 1))), none⟩,
                ⟨(some 31), (.op (.load none (.tmp 30))), none⟩,
                ⟨(some 32), (.call (.cst (.func (.func 38) [] [])) [(.tmp 31)]), none⟩,
                ⟨(some 33), (.op (.bin .add none (.cst (.str [32])) (.tmp 32))), none⟩,
                ⟨(some 34), (.op (.append 1 1 (.tmp 29) (.tmp 33))), none⟩,
                ⟨(some 5), (.op (.mv (.tmp 34))), none⟩] [])))
            (.seq (.seq (.region [
              ⟨(some 35), (.op (.mv (.tmp 5))), none⟩,
              ⟨(some 36), (.op (.faddr 4 (.tmp 1))), none⟩,
              ⟨(some 37), (.op (.load none (.tmp 36))), none⟩,
              ⟨(some 38), (.op (.len .slice (.tmp 37))), none⟩,
              ⟨(some 39), (.call (.cst (.func (.func 38) [] [])) [(.tmp 38)]), none⟩,
              ⟨(some 40), (.op (.bin .add none (.cst (.str [32])) (.tmp 39))), none⟩,
              ⟨(some 41), (.op (.bin .add none (.tmp 40) (.cst (.str [13, 10])))), none⟩,
              ⟨(some 42), (.op (.append 1 1 (.tmp 35) (.tmp 41))), none⟩,
              ⟨(some 5), (.op (.mv (.tmp 42))), none⟩] [])
            (.region [
              ⟨(some 43), (.op (.mv (.tmp 5))), none⟩,
              ⟨(some 44), (.op (.faddr 4 (.tmp 1))), none⟩,
              ⟨(some 45), (.op (.load none (.tmp 44))), none⟩,
              ⟨(some 46), (.op (.append 1 1 (.tmp 43) (.tmp 45))), none⟩,
              ⟨(some 5), (.op (.mv (.tmp 46))), none⟩] []))
            (.exit 0))))
          (.seq (.region [
            ⟨(some 47), (.op (.mv (.tmp 5))), none⟩,
            ⟨(some 48), (.op (.faddr 1 (.tmp 1))), none⟩,
            ⟨(some 49), (.op (.load none (.tmp 48))), none⟩,
            ⟨(some 50), (.call (.cst (.func (.func 38) [] [])) [(.tmp 49)]), none⟩,
            ⟨(some 51), (.op (.bin .add none (.cst (.str [32])) (.tmp 50))), none⟩,
            ⟨(some 52), (.op (.append 1 1 (.tmp 47) (.tmp 51))), none⟩,
            ⟨(some 5), (.op (.mv (.tmp 52))), none⟩] [])
          (.exit 0))))
        (.seq (.region [
          ⟨(some 53), (.op (.mv (.tmp 5))), none⟩,
          ⟨(some 54), (.op (.faddr 3 (.tmp 1))), none⟩,
          ⟨(some 55), (.op (.load none (.tmp 54))), none⟩,
          ⟨(some 56), (.op (.bin .add none (.cst (.str [32])) (.tmp 55))), none⟩,
          ⟨(some 57), (.op (.append 1 1 (.tmp 53) (.tmp 56))), none⟩,
          ⟨(some 5), (.op (.mv (.tmp 57))), none⟩] [])
        (.exit 0))))
      (.seq (.region [
        ⟨(some 58), (.op (.mv (.tmp 5))), none⟩,
        ⟨(some 59), (.op (.faddr 2 (.tmp 1))), none⟩,
        ⟨(some 60), (.op (.load none (.tmp 59))), none⟩,
        ⟨(some 61), (.call (.cst (.func (.func 38) [] [])) [(.tmp 60)]), none⟩,
        ⟨(some 62), (.op (.bin .add none (.cst (.str [32])) (.tmp 61))), none⟩,
        ⟨(some 63), (.op (.append 1 1 (.tmp 58) (.tmp 62))), none⟩,
        ⟨(some 5), (.op (.mv (.tmp 63))), none⟩] [])
      (.exit 0)))))
    (.seq (.region [
      ⟨(some 64), (.op (.mv (.tmp 5))), none⟩,
      ⟨(some 65), (.op (.append 1 1 (.tmp 64) (.cst (.str [13, 10])))), none⟩,
      ⟨(some 2), (.op (.mv (.tmp 65))), none⟩,
      ⟨(some 3), (.op (.mv (.cst (.int .i64 0)))), none⟩] [])
    .ret)))))⟩
theorem c12 : cFn Tryd.prog [] Tryd.f12 = some h12 := by kernel_rfl
/-- stint/stintref08.Put -/
def h13 : HFn :=
  ⟨59, [(.tmp 2), (.tmp 3)],
    (.seq (.region [
      ⟨(some 1), (.op (.box (.tmp 0))), none⟩,
      ⟨(some 2), (.op (.mv (.cst .nilSlice))), none⟩,
      ⟨(some 3), (.op (.mv (.cst (.int .i64 0)))), none⟩] [])
    (.seq (.region [
      ⟨(some 8), (.op (.load (some 5) (.tmp 1))), none⟩,
      ⟨(some 9), (.call (.cst (.func (.func 39) [] [])) [(.tmp 8)]), none⟩,
      ⟨(some 4), (.op (.mv (.tmp 9))), none⟩] [])
    (.seq (.seq (.region [
      ⟨(some 10), (.op (.mv (.tmp 4))), none⟩,
      ⟨(some 11), (.op (.bin .neq (some .int) (.tmp 10) (.cst (.int .i64 0)))), none⟩] [])
    (.cond (.tmp 11)
      (.seq (.region [
        ⟨(some 12), (.op (.mv (.tmp 4))), none⟩,
        ⟨(some 2), (.op (.mv (.cst .nilSlice))), none⟩,
        ⟨(some 3), (.op (.mv (.tmp 12))), none⟩] [])
      .ret)
      .skip))
    (.seq (.region [
      ⟨(some 13), (.op (.faddr 0 (.tmp 1))), none⟩,
      ⟨(some 14), (.op (.load none (.tmp 13))), none⟩,
      ⟨(some 15), (.call (.cst (.func (.func 40) [] [])) [(.tmp 14)]), none⟩,
      ⟨(some 16), (.op (.s2b (.tmp 15))), none⟩,
      ⟨(some 5), (.op (.mv (.tmp 16))), none⟩] [])
    (.seq (.region [
      ⟨(some 17), (.op (.faddr 0 (.tmp 1))), none⟩,
      ⟨(some 18), (.op (.load none (.tmp 17))), none⟩,
      ⟨(some 19), (.call (.cst (.func (.func 41) [] [])) [(.tmp 18)]), none⟩,
      ⟨(some 6), (.op (.mv (.tmp 19))), none⟩] [])
    (.seq (.seq (.region [
      ⟨(some 7), (.op (.mv (.cst (.int .i64 0)))), none⟩] [])
    (.block 0
      (.loop
        (.seq (.seq (.region [
          ⟨(some 20), (.op (.mv (.tmp 7))), none⟩,
          ⟨(some 21), (.op (.mv (.tmp 6))), none⟩,
          ⟨(some 22), (.op (.len .str (.tmp 21))), none⟩,
          ⟨(some 23), (.op (.bin .lss none (.tmp 20) (.tmp 22))), none⟩] [])
        (.cond (.tmp 23)
          .skip
          (.exit 0)))
        (.seq (.block 1
          (.seq (.region [
            ⟨(some 26), (.op (.mv (.tmp 5))), none⟩,
            ⟨(some 27), (.op (.bslice 1 1 [(.int .u8 0)] [(0, 1, (.cst (.int .u8 32)))])), none⟩,
            ⟨(some 28), (.op (.append 1 1 (.tmp 26) (.tmp 27))), none⟩,
            ⟨(some 5), (.op (.mv (.tmp 28))), none⟩] [])
          (.seq (.region [
            ⟨(some 29), (.op (.mv (.tmp 6))), none⟩,
            ⟨(some 30), (.op (.mv (.tmp 7))), none⟩,
            ⟨(some 31), (.op (.idxStr (.tmp 29) (.tmp 30))), none⟩,
            ⟨(some 32), (.op (.bin .eql (some .int) (.tmp 31) (.cst (.int .u8 84)))), none⟩] [])
          (.cond (.tmp 32)
            (.region [
              ⟨(some 33), (.op (.mv (.tmp 5))), none⟩,
              ⟨(some 34), (.op (.faddr 3 (.tmp 1))), none⟩,
              ⟨(some 35), (.op (.load none (.tmp 34))), none⟩,
              ⟨(some 36), (.op (.append 1 1 (.tmp 33) (.tmp 35))), none⟩,
              ⟨(some 5), (.op (.mv (.tmp 36))), none⟩] [])
            (.draw [
              ⟨(some 37), (.op (.mv (.tmp 5))), none⟩,
              ⟨(some 38), (.op (.load (some 5) (.tmp 1))), none⟩,
              ⟨(some 39), (.op (.mv (.tmp 6))), none⟩,
              ⟨(some 40), (.op (.mv (.tmp 7))), none⟩,
              ⟨(some 41), (.op (.idxStr (.tmp 39) (.tmp 40))), none⟩,
              ⟨(some 42), (.call (.cst (.func (.func 43) [] [])) [(.tmp 38), (.tmp 41)]), none⟩,
              ⟨(some 43), (.call (.cst (.func (.func 42) [] [])) [(.tmp 42)]), none⟩,
              ⟨(some 44), (.op (.append 1 1 (.tmp 37) (.tmp 43))), none⟩,
              ⟨(some 5), (.op (.mv (.tmp 44))), none⟩] [0, 1, 2, 3, 4, 5, 6, 7, 8] [[], [], [], [], [], [1], [1], [1], []] [])))))
        (.region [
          ⟨(some 24), (.op (.mv (.tmp 7))), none⟩,
          ⟨(some 25), (.op (.bin .add none (.tmp 24) (.cst (.int .i64 1)))), none⟩,
          ⟨(some 7), (.op (.mv (.tmp 25))), none⟩] []))))))
    (.seq (.region [
      ⟨(some 45), (.op (.mv (.tmp 5))), none⟩,
      ⟨(some 46), (.op (.bslice 1 2 [(.int .u8 0), (.int .u8 0)] [(0, 1, (.cst (.int .u8 13))), (1, 1, (.cst (.int .u8 10)))])), none⟩,
      ⟨(some 47), (.op (.append 1 1 (.tmp 45) (.tmp 46))), none⟩,
      ⟨(some 5), (.op (.mv (.tmp 47))), none⟩] [])
    (.seq (.seq (.region [
      ⟨(some 48), (.op (.faddr 0 (.tmp 1))), none⟩,
      ⟨(some 49), (.op (.load none (.tmp 48))), none⟩,
      ⟨(some 50), (.call (.cst (.func (.func 44) [] [])) [(.tmp 49), (.cst (.int .u8 66))]), none⟩] [])
    (.cond (.tmp 50)
      (.seq (.region [
        ⟨(some 51), (.op (.mv (.tmp 5))), none⟩,
        ⟨(some 52), (.op (.faddr 4 (.tmp 1))), none⟩,
        ⟨(some 53), (.op (.load none (.tmp 52))), none⟩,
        ⟨(some 54), (.op (.append 1 1 (.tmp 51) (.tmp 53))), none⟩,
        ⟨(some 5), (.op (.mv (.tmp 54))), none⟩] [])
      (.region [
        ⟨(some 55), (.op (.mv (.tmp 5))), none⟩,
        ⟨(some 56), (.op (.bslice 1 2 [(.int .u8 0), (.int .u8 0)] [(0, 1, (.cst (.int .u8 13))), (1, 1, (.cst (.int .u8 10)))])), none⟩,
        ⟨(some 57), (.op (.append 1 1 (.tmp 55) (.tmp 56))), none⟩,
        ⟨(some 5), (.op (.mv (.tmp 57))), none⟩] []))
      .skip))
    (.seq (.region [
      ⟨(some 58), (.op (.mv (.tmp 5))), none⟩,
      ⟨(some 2), (.op (.mv (.tmp 58))), none⟩,
      ⟨(some 3), (.op (.mv (.cst (.int .i64 0)))), none⟩] [])
    .ret)))))))))⟩
theorem c13 : cFn Tryd.prog [] Tryd.f13 = some h13 := by kernel_rfl
/-- stint/stintlaw08.same -/
def h14 : HFn :=
  ⟨26, [(.tmp 4)],
    (.seq (.region [
      ⟨(some 4), (.op (.mv (.cst (.bool false)))), none⟩] [])
    (.seq (.seq (.region [
      ⟨(some 6), (.op (.mv (.tmp 0))), none⟩,
      ⟨(some 7), (.op (.len .slice (.tmp 6))), none⟩,
      ⟨(some 8), (.op (.mv (.tmp 1))), none⟩,
      ⟨(some 9), (.op (.len .slice (.tmp 8))), none⟩,
      ⟨(some 10), (.op (.bin .neq (some .int) (.tmp 7) (.tmp 9))), none⟩] [])
    (.cond (.tmp 10)
      (.seq (.region [
        ⟨(some 4), (.op (.mv (.cst (.bool false)))), none⟩] [])
      .ret)
      .skip))
    (.seq (.seq (.region [
      ⟨(some 5), (.op (.mv (.cst (.int .i64 0)))), none⟩] [])
    (.block 0
      (.loop
        (.seq (.seq (.region [
          ⟨(some 11), (.op (.mv (.tmp 5))), none⟩,
          ⟨(some 12), (.op (.mv (.tmp 0))), none⟩,
          ⟨(some 13), (.op (.len .slice (.tmp 12))), none⟩,
          ⟨(some 14), (.op (.bin .lss none (.tmp 11) (.tmp 13))), none⟩] [])
        (.cond (.tmp 14)
          .skip
          (.exit 0)))
        (.seq (.block 1
          (.seq (.draw [
            ⟨(some 17), (.op (.mv (.tmp 0))), none⟩,
            ⟨(some 18), (.op (.mv (.tmp 5))), none⟩,
            ⟨(some 19), (.op (.idxS 1 (.tmp 17) (.tmp 18))), none⟩,
            ⟨(some 20), (.op (.load none (.tmp 19))), none⟩,
            ⟨(some 21), (.op (.mv (.tmp 1))), none⟩,
            ⟨(some 22), (.op (.mv (.tmp 5))), none⟩,
            ⟨(some 23), (.op (.idxS 1 (.tmp 21) (.tmp 22))), none⟩,
            ⟨(some 24), (.op (.load none (.tmp 23))), none⟩,
            ⟨(some 25), (.op (.bin .neq (some .int) (.tmp 20) (.tmp 24))), none⟩] [0, 1, 2, 3, 4, 5, 6, 7, 8] [[], [], [], [], [], [], [], [], []] [])
          (.cond (.tmp 25)
            (.seq (.region [
              ⟨(some 4), (.op (.mv (.cst (.bool false)))), none⟩] [])
            .ret)
            .skip)))
        (.region [
          ⟨(some 15), (.op (.mv (.tmp 5))), none⟩,
          ⟨(some 16), (.op (.bin .add none (.tmp 15) (.cst (.int .i64 1)))), none⟩,
          ⟨(some 5), (.op (.mv (.tmp 16))), none⟩] []))))))
    (.seq (.region [
      ⟨(some 4), (.op (.mv (.cst (.bool true)))), none⟩] [])
    .ret))))⟩
theorem c14 : cFn Tryd.prog [] Tryd.f14 = some h14 := by kernel_rfl
/-- stint/stintlaw08.still -/
def h15 : HFn :=
  ⟨27, [(.tmp 4)],
    (.seq (.region [
      ⟨(some 4), (.op (.mv (.cst (.bool false)))), none⟩] [])
    (.seq (.region [
      ⟨(some 7), (.op (.mv (.tmp 1))), none⟩,
      ⟨(some 8), (.op (.len .slice (.tmp 7))), none⟩,
      ⟨(some 5), (.op (.mv (.tmp 8))), none⟩] [])
    (.seq (.seq (.region [
      ⟨(some 9), (.op (.mv (.tmp 0))), none⟩,
      ⟨(some 10), (.op (.mv (.tmp 5))), none⟩,
      ⟨(some 11), (.op (.sliceSl 1 (.tmp 9) none (some (.tmp 10)) none)), none⟩,
      ⟨(some 12), (.op (.mv (.tmp 1))), none⟩,
      ⟨(some 13), (.call (.cst (.func (.func 14) [] [])) [(.tmp 11), (.tmp 12)]), none⟩,
      ⟨(some 14), (.op (.un .not (.tmp 13))), none⟩] [])
    (.cond (.tmp 14)
      (.seq (.region [
        ⟨(some 4), (.op (.mv (.cst (.bool false)))), none⟩] [])
      .ret)
      .skip))
    (.seq (.seq (.region [
      ⟨(some 15), (.op (.mv (.tmp 5))), none⟩,
      ⟨(some 6), (.op (.mv (.tmp 15))), none⟩] [])
    (.block 0
      (.loop
        (.seq (.seq (.region [
          ⟨(some 16), (.op (.mv (.tmp 6))), none⟩,
          ⟨(some 17), (.op (.mv (.tmp 0))), none⟩,
          ⟨(some 18), (.op (.len .slice (.tmp 17))), none⟩,
          ⟨(some 19), (.op (.bin .lss none (.tmp 16) (.tmp 18))), none⟩] [])
        (.cond (.tmp 19)
          .skip
          (.exit 0)))
        (.seq (.block 1
          (.seq (.region [
            ⟨(some 22), (.op (.mv (.tmp 0))), none⟩,
            ⟨(some 23), (.op (.mv (.tmp 6))), none⟩,
            ⟨(some 24), (.op (.idxS 1 (.tmp 22) (.tmp 23))), none⟩,
            ⟨(some 25), (.op (.load none (.tmp 24))), none⟩,
            ⟨(some 26), (.op (.bin .neq (some .int) (.tmp 25) (.cst (.int .u8 165)))), none⟩] [])
          (.cond (.tmp 26)
            (.seq (.region [
              ⟨(some 4), (.op (.mv (.cst (.bool false)))), none⟩] [])
            .ret)
            .skip)))
        (.region [
          ⟨(some 20), (.op (.mv (.tmp 6))), none⟩,
          ⟨(some 21), (.op (.bin .add none (.tmp 20) (.cst (.int .i64 1)))), none⟩,
          ⟨(some 6), (.op (.mv (.tmp 21))), none⟩] []))))))
    (.seq (.region [
      ⟨(some 4), (.op (.mv (.cst (.bool true)))), none⟩] [])
    .ret)))))⟩
theorem c15 : cFn Tryd.prog [] Tryd.f15 = some h15 := by kernel_rfl
/-- (*stint/stintlaw08.held).holds -/
def h16 : HFn :=
  ⟨29, [(.tmp 2)],
    (.seq (.region [
      ⟨(some 2), (.op (.mv (.cst (.bool false)))), none⟩] [])
    (.seq (.seq (.region [
      ⟨(some 3), (.op (.mv (.cst (.int .i64 0)))), none⟩] [])
    (.block 0
      (.loop
        (.seq (.seq (.region [
          ⟨(some 4), (.op (.mv (.tmp 3))), none⟩,
          ⟨(some 5), (.op (.mv (.tmp 0))), none⟩,
          ⟨(some 6), (.op (.nilc (.tmp 5))), none⟩,
          ⟨(some 7), (.op (.faddr 0 (.tmp 6))), none⟩,
          ⟨(some 8), (.op (.load none (.tmp 7))), none⟩,
          ⟨(some 9), (.op (.len .slice (.tmp 8))), none⟩,
          ⟨(some 10), (.op (.bin .lss none (.tmp 4) (.tmp 9))), none⟩] [])
        (.cond (.tmp 10)
          .skip
          (.exit 0)))
        (.seq (.block 1
          (.seq (.draw [
            ⟨(some 13), (.op (.mv (.tmp 0))), none⟩,
            ⟨(some 14), (.op (.nilc (.tmp 13))), none⟩,
            ⟨(some 15), (.op (.faddr 0 (.tmp 14))), none⟩,
            ⟨(some 16), (.op (.load none (.tmp 15))), none⟩,
            ⟨(some 17), (.op (.mv (.tmp 3))), none⟩,
            ⟨(some 18), (.op (.idxS 1 (.tmp 16) (.tmp 17))), none⟩,
            ⟨(some 19), (.op (.load none (.tmp 18))), none⟩,
            ⟨(some 20), (.op (.mv (.tmp 0))), none⟩,
            ⟨(some 21), (.op (.nilc (.tmp 20))), none⟩,
            ⟨(some 22), (.op (.faddr 1 (.tmp 21))), none⟩,
            ⟨(some 23), (.op (.load none (.tmp 22))), none⟩,
            ⟨(some 24), (.op (.mv (.tmp 3))), none⟩,
            ⟨(some 25), (.op (.idxS 1 (.tmp 23) (.tmp 24))), none⟩,
            ⟨(some 26), (.op (.load none (.tmp 25))), none⟩,
            ⟨(some 27), (.call (.cst (.func (.func 14) [] [])) [(.tmp 19), (.tmp 26)]), none⟩,
            ⟨(some 28), (.op (.un .not (.tmp 27))), none⟩] [0, 1, 2, 3, 4, 5, 6, 7, 8, 9, 10, 11, 12, 13, 14, 15] [[], [], [], [], [], [], [], [], [], [], [], [], [], [], [6, 5, 3, 13, 12, 10], []] [])
          (.cond (.tmp 28)
            (.seq (.region [
              ⟨(some 2), (.op (.mv (.cst (.bool false)))), none⟩] [])
            .ret)
            .skip)))
        (.region [
          ⟨(some 11), (.op (.mv (.tmp 3))), none⟩,
          ⟨(some 12), (.op (.bin .add none (.tmp 11) (.cst (.int .i64 1)))), none⟩,
          ⟨(some 3), (.op (.mv (.tmp 12))), none⟩] []))))))
    (.seq (.region [
      ⟨(some 2), (.op (.mv (.cst (.bool true)))), none⟩] [])
    .ret)))⟩
theorem c16 : cFn Tryd.prog [] Tryd.f16 = some h16 := by kernel_rfl
/-- (*stint/stintlaw08.held).keep -/
def h17 : HFn :=
  ⟨27, [],
    (.seq (.region [
      ⟨(some 5), (.op (.mv (.tmp 1))), none⟩,
      ⟨(some 6), (.call (.cst (.func (.func 18) [] [])) [(.tmp 5)]), none⟩,
      ⟨(some 4), (.op (.mv (.tmp 6))), none⟩] [])
    (.seq (.region [
      ⟨(some 7), (.op (.mv (.tmp 0))), none⟩,
      ⟨(some 8), (.op (.mv (.tmp 0))), none⟩,
      ⟨(some 9), (.op (.nilc (.tmp 8))), none⟩,
      ⟨(some 10), (.op (.faddr 0 (.tmp 9))), none⟩,
      ⟨(some 11), (.op (.load none (.tmp 10))), none⟩,
      ⟨(some 12), (.op (.mv (.tmp 1))), none⟩,
      ⟨(some 13), (.op (.bslice 1 1 [.nilSlice] [(0, 1, (.tmp 12))])), none⟩,
      ⟨(some 14), (.op (.append 1 24 (.tmp 11) (.tmp 13))), none⟩,
      ⟨(some 15), (.op (.nilc (.tmp 7))), none⟩,
      ⟨(some 16), (.op (.faddr 0 (.tmp 15))), none⟩,
      ⟨none, (.op (.store 1 (.tmp 16) (.tmp 14))), none⟩] [])
    (.region [
      ⟨(some 17), (.op (.mv (.tmp 0))), none⟩,
      ⟨(some 18), (.op (.mv (.tmp 0))), none⟩,
      ⟨(some 19), (.op (.nilc (.tmp 18))), none⟩,
      ⟨(some 20), (.op (.faddr 1 (.tmp 19))), none⟩,
      ⟨(some 21), (.op (.load none (.tmp 20))), none⟩,
      ⟨(some 22), (.op (.mv (.tmp 4))), none⟩,
      ⟨(some 23), (.op (.bslice 1 1 [.nilSlice] [(0, 1, (.tmp 22))])), none⟩,
      ⟨(some 24), (.op (.append 1 24 (.tmp 21) (.tmp 23))), none⟩,
      ⟨(some 25), (.op (.nilc (.tmp 17))), none⟩,
      ⟨(some 26), (.op (.faddr 1 (.tmp 25))), none⟩,
      ⟨none, (.op (.store 1 (.tmp 26) (.tmp 24))), none⟩] [])))⟩
theorem c17 : cFn Tryd.prog [] Tryd.f17 = some h17 := by kernel_rfl
/-- stint/stintlaw08.copied -/
def h18 : HFn :=
  ⟨9, [(.tmp 2)],
    (.seq (.region [
      ⟨(some 2), (.op (.mv (.cst .nilSlice))), none⟩] [])
    (.seq (.region [
      ⟨(some 4), (.op (.bslice 1 0 [] [])), none⟩,
      ⟨(some 3), (.op (.mv (.tmp 4))), none⟩] [])
    (.seq (.region [
      ⟨(some 5), (.op (.mv (.tmp 3))), none⟩,
      ⟨(some 6), (.op (.mv (.tmp 0))), none⟩,
      ⟨(some 7), (.op (.append 1 1 (.tmp 5) (.tmp 6))), none⟩,
      ⟨(some 3), (.op (.mv (.tmp 7))), none⟩] [])
    (.seq (.region [
      ⟨(some 8), (.op (.mv (.tmp 3))), none⟩,
      ⟨(some 2), (.op (.mv (.tmp 8))), none⟩] [])
    .ret))))⟩
theorem c18 : cFn Tryd.prog [] Tryd.f18 = some h18 := by kernel_rfl
/-- (*stint/stintlaw08.held).spoil -/
def h19 : HFn :=
  ⟨124, [(.tmp 2)],
    (.seq (.region [
      ⟨(some 2), (.op (.mv (.cst (.bool false)))), none⟩] [])
    (.seq (.seq (.region [
      ⟨(some 10), (.op (.mv (.tmp 0))), none⟩,
      ⟨(some 11), (.call (.cst (.func (.func 16) [] [])) [(.tmp 10)]), none⟩,
      ⟨(some 12), (.op (.un .not (.tmp 11))), none⟩] [])
    (.cond (.tmp 12)
      (.seq (.region [
        ⟨(some 2), (.op (.mv (.cst (.bool false)))), none⟩] [])
      .ret)
      .skip))
    (.seq (.region [
      ⟨(some 13), (.op (.mv (.tmp 0))), none⟩,
      ⟨(some 14), (.op (.nilc (.tmp 13))), none⟩,
      ⟨(some 15), (.op (.faddr 0 (.tmp 14))), none⟩,
      ⟨(some 16), (.op (.load none (.tmp 15))), none⟩,
      ⟨(some 17), (.op (.len .slice (.tmp 16))), none⟩,
      ⟨(some 3), (.op (.mv (.tmp 17))), none⟩] [])
    (.seq (.seq (.region [
      ⟨(some 4), (.op (.mv (.cst (.int .i64 0)))), none⟩] [])
    (.block 0
      (.loop
        (.seq (.seq (.region [
          ⟨(some 18), (.op (.mv (.tmp 4))), none⟩,
          ⟨(some 19), (.op (.mv (.tmp 3))), none⟩,
          ⟨(some 20), (.op (.bin .lss none (.tmp 18) (.tmp 19))), none⟩] [])
        (.cond (.tmp 20)
          .skip
          (.exit 0)))
        (.seq (.block 1
          (.seq (.region [
            ⟨(some 5), (.op (.mv (.cst (.int .i64 0)))), none⟩] [])
          (.block 2
            (.loop
              (.seq (.seq (.region [
                ⟨(some 23), (.op (.mv (.tmp 5))), none⟩,
                ⟨(some 24), (.op (.mv (.tmp 0))), none⟩,
                ⟨(some 25), (.op (.nilc (.tmp 24))), none⟩,
                ⟨(some 26), (.op (.faddr 0 (.tmp 25))), none⟩,
                ⟨(some 27), (.op (.load none (.tmp 26))), none⟩,
                ⟨(some 28), (.op (.mv (.tmp 4))), none⟩,
                ⟨(some 29), (.op (.idxS 1 (.tmp 27) (.tmp 28))), none⟩,
                ⟨(some 30), (.op (.load none (.tmp 29))), none⟩,
                ⟨(some 31), (.op (.len .slice (.tmp 30))), none⟩,
                ⟨(some 32), (.op (.bin .lss none (.tmp 23) (.tmp 31))), none⟩] [])
              (.cond (.tmp 32)
                .skip
                (.exit 2)))
              (.seq (.block 3
                (.seq (.region [
                  ⟨(some 35), (.op (.mv (.tmp 0))), none⟩,
                  ⟨(some 36), (.op (.nilc (.tmp 35))), none⟩,
                  ⟨(some 37), (.op (.faddr 0 (.tmp 36))), none⟩,
                  ⟨(some 38), (.op (.load none (.tmp 37))), none⟩,
                  ⟨(some 39), (.op (.mv (.tmp 4))), none⟩,
                  ⟨(some 40), (.op (.idxS 1 (.tmp 38) (.tmp 39))), none⟩,
                  ⟨(some 41), (.op (.load none (.tmp 40))), none⟩,
                  ⟨(some 42), (.op (.mv (.tmp 5))), none⟩,
                  ⟨(some 43), (.op (.mv (.tmp 4))), none⟩,
                  ⟨(some 44), (.op (.bin .mul none (.tmp 43) (.cst (.int .i64 7)))), none⟩,
                  ⟨(some 45), (.op (.bin .add none (.tmp 44) (.cst (.int .i64 1)))), none⟩,
                  ⟨(some 46), (.op (.cInt .u8 (.tmp 45))), none⟩,
                  ⟨(some 47), (.op (.idxS 1 (.tmp 41) (.tmp 42))), none⟩,
                  ⟨none, (.op (.store 1 (.tmp 47) (.tmp 46))), none⟩] [])
                (.region [
                  ⟨(some 48), (.op (.mv (.tmp 0))), none⟩,
                  ⟨(some 49), (.op (.nilc (.tmp 48))), none⟩,
                  ⟨(some 50), (.op (.faddr 1 (.tmp 49))), none⟩,
                  ⟨(some 51), (.op (.load none (.tmp 50))), none⟩,
                  ⟨(some 52), (.op (.mv (.tmp 4))), none⟩,
                  ⟨(some 53), (.op (.idxS 1 (.tmp 51) (.tmp 52))), none⟩,
                  ⟨(some 54), (.op (.load none (.tmp 53))), none⟩,
                  ⟨(some 55), (.op (.mv (.tmp 5))), none⟩,
                  ⟨(some 56), (.op (.mv (.tmp 4))), none⟩,
                  ⟨(some 57), (.op (.bin .mul none (.tmp 56) (.cst (.int .i64 7)))), none⟩,
                  ⟨(some 58), (.op (.bin .add none (.tmp 57) (.cst (.int .i64 1)))), none⟩,
                  ⟨(some 59), (.op (.cInt .u8 (.tmp 58))), none⟩,
                  ⟨(some 60), (.op (.idxS 1 (.tmp 54) (.tmp 55))), none⟩,
                  ⟨none, (.op (.store 1 (.tmp 60) (.tmp 59))), none⟩] [])))
              (.region [
                ⟨(some 33), (.op (.mv (.tmp 5))), none⟩,
                ⟨(some 34), (.op (.bin .add none (.tmp 33) (.cst (.int .i64 1)))), none⟩,
                ⟨(some 5), (.op (.mv (.tmp 34))), none⟩] [])))))))
        (.region [
          ⟨(some 21), (.op (.mv (.tmp 4))), none⟩,
          ⟨(some 22), (.op (.bin .add none (.tmp 21) (.cst (.int .i64 1)))), none⟩,
          ⟨(some 4), (.op (.mv (.tmp 22))), none⟩] []))))))
    (.seq (.seq (.region [
      ⟨(some 61), (.op (.mv (.tmp 0))), none⟩,
      ⟨(some 62), (.call (.cst (.func (.func 16) [] [])) [(.tmp 61)]), none⟩,
      ⟨(some 63), (.op (.un .not (.tmp 62))), none⟩] [])
    (.cond (.tmp 63)
      (.seq (.region [
        ⟨(some 2), (.op (.mv (.cst (.bool false)))), none⟩] [])
      .ret)
      .skip))
    (.seq (.seq (.region [
      ⟨(some 6), (.op (.mv (.cst (.int .i64 0)))), none⟩] [])
    (.block 4
      (.loop
        (.seq (.seq (.region [
          ⟨(some 64), (.op (.mv (.tmp 6))), none⟩,
          ⟨(some 65), (.op (.mv (.tmp 3))), none⟩,
          ⟨(some 66), (.op (.bin .lss none (.tmp 64) (.tmp 65))), none⟩] [])
        (.cond (.tmp 66)
          .skip
          (.exit 4)))
        (.seq (.block 5
          (.seq (.region [
            ⟨(some 69), (.op (.mv (.tmp 0))), none⟩,
            ⟨(some 70), (.op (.nilc (.tmp 69))), none⟩,
            ⟨(some 71), (.op (.faddr 0 (.tmp 70))), none⟩,
            ⟨(some 72), (.op (.load none (.tmp 71))), none⟩,
            ⟨(some 73), (.op (.mv (.tmp 6))), none⟩,
            ⟨(some 74), (.op (.idxS 1 (.tmp 72) (.tmp 73))), none⟩,
            ⟨(some 75), (.op (.load none (.tmp 74))), none⟩,
            ⟨(some 7), (.op (.mv (.tmp 75))), none⟩] [])
          (.seq (.region [
            ⟨(some 76), (.op (.mv (.tmp 0))), none⟩,
            ⟨(some 77), (.op (.nilc (.tmp 76))), none⟩,
            ⟨(some 78), (.op (.faddr 1 (.tmp 77))), none⟩,
            ⟨(some 79), (.op (.load none (.tmp 78))), none⟩,
            ⟨(some 80), (.op (.mv (.tmp 6))), none⟩,
            ⟨(some 81), (.op (.idxS 1 (.tmp 79) (.tmp 80))), none⟩,
            ⟨(some 82), (.op (.load none (.tmp 81))), none⟩,
            ⟨(some 83), (.call (.cst (.func (.func 18) [] [])) [(.tmp 82)]), none⟩,
            ⟨(some 8), (.op (.mv (.tmp 83))), none⟩] [])
          (.seq (.seq (.region [
            ⟨(some 9), (.op (.mv (.cst (.int .i64 0)))), none⟩] [])
          (.block 6
            (.loop
              (.seq (.seq (.region [
                ⟨(some 84), (.op (.mv (.tmp 9))), none⟩,
                ⟨(some 85), (.op (.bin .lss none (.tmp 84) (.cst (.int .i64 100)))), none⟩] [])
              (.cond (.tmp 85)
                .skip
                (.exit 6)))
              (.seq (.block 7
                (.seq (.region [
                  ⟨(some 88), (.op (.mv (.tmp 7))), none⟩,
                  ⟨(some 89), (.op (.mv (.tmp 6))), none⟩,
                  ⟨(some 90), (.op (.bin .mul none (.tmp 89) (.cst (.int .i64 7)))), none⟩,
                  ⟨(some 91), (.op (.bin .add none (.tmp 90) (.cst (.int .i64 2)))), none⟩,
                  ⟨(some 92), (.op (.cInt .u8 (.tmp 91))), none⟩,
                  ⟨(some 93), (.op (.bslice 1 1 [(.int .u8 0)] [(0, 1, (.tmp 92))])), none⟩,
                  ⟨(some 94), (.op (.append 1 1 (.tmp 88) (.tmp 93))), none⟩,
                  ⟨(some 7), (.op (.mv (.tmp 94))), none⟩] [])
                (.region [
                  ⟨(some 95), (.op (.mv (.tmp 8))), none⟩,
                  ⟨(some 96), (.op (.mv (.tmp 6))), none⟩,
                  ⟨(some 97), (.op (.bin .mul none (.tmp 96) (.cst (.int .i64 7)))), none⟩,
                  ⟨(some 98), (.op (.bin .add none (.tmp 97) (.cst (.int .i64 2)))), none⟩,
                  ⟨(some 99), (.op (.cInt .u8 (.tmp 98))), none⟩,
                  ⟨(some 100), (.op (.bslice 1 1 [(.int .u8 0)] [(0, 1, (.tmp 99))])), none⟩,
                  ⟨(some 101), (.op (.append 1 1 (.tmp 95) (.tmp 100))), none⟩,
                  ⟨(some 8), (.op (.mv (.tmp 101))), none⟩] [])))
              (.region [
                ⟨(some 86), (.op (.mv (.tmp 9))), none⟩,
                ⟨(some 87), (.op (.bin .add none (.tmp 86) (.cst (.int .i64 1)))), none⟩,
                ⟨(some 9), (.op (.mv (.tmp 87))), none⟩] []))))))
          (.seq (.region [
            ⟨(some 102), (.op (.mv (.tmp 0))), none⟩,
            ⟨(some 103), (.op (.mv (.tmp 0))), none⟩,
            ⟨(some 104), (.op (.nilc (.tmp 103))), none⟩,
            ⟨(some 105), (.op (.faddr 0 (.tmp 104))), none⟩,
            ⟨(some 106), (.op (.load none (.tmp 105))), none⟩,
            ⟨(some 107), (.op (.mv (.tmp 7))), none⟩,
            ⟨(some 108), (.op (.bslice 1 1 [.nilSlice] [(0, 1, (.tmp 107))])), none⟩,
            ⟨(some 109), (.op (.append 1 24 (.tmp 106) (.tmp 108))), none⟩,
            ⟨(some 110), (.op (.nilc (.tmp 102))), none⟩,
            ⟨(some 111), (.op (.faddr 0 (.tmp 110))), none⟩,
            ⟨none, (.op (.store 1 (.tmp 111) (.tmp 109))), none⟩] [])
          (.region [
            ⟨(some 112), (.op (.mv (.tmp 0))), none⟩,
            ⟨(some 113), (.op (.mv (.tmp 0))), none⟩,
            ⟨(some 114), (.op (.nilc (.tmp 113))), none⟩,
            ⟨(some 115), (.op (.faddr 1 (.tmp 114))), none⟩,
            ⟨(some 116), (.op (.load none (.tmp 115))), none⟩,
            ⟨(some 117), (.op (.mv (.tmp 8))), none⟩,
            ⟨(some 118), (.op (.bslice 1 1 [.nilSlice] [(0, 1, (.tmp 117))])), none⟩,
            ⟨(some 119), (.op (.append 1 24 (.tmp 116) (.tmp 118))), none⟩,
            ⟨(some 120), (.op (.nilc (.tmp 112))), none⟩,
            ⟨(some 121), (.op (.faddr 1 (.tmp 120))), none⟩,
            ⟨none, (.op (.store 1 (.tmp 121) (.tmp 119))), none⟩] []))))))
        (.region [
          ⟨(some 67), (.op (.mv (.tmp 6))), none⟩,
          ⟨(some 68), (.op (.bin .add none (.tmp 67) (.cst (.int .i64 1)))), none⟩,
          ⟨(some 6), (.op (.mv (.tmp 68))), none⟩] []))))))
    (.seq (.region [
      ⟨(some 122), (.op (.mv (.tmp 0))), none⟩,
      ⟨(some 123), (.call (.cst (.func (.func 16) [] [])) [(.tmp 122)]), none⟩,
      ⟨(some 2), (.op (.mv (.tmp 123))), none⟩] [])
    .ret)))))))⟩
theorem c19 : cFn Tryd.prog [] Tryd.f19 = some h19 := by kernel_rfl
/-- stint/stintlaw08.sameReply -/
def h24 : HFn :=
  ⟨38, [(.tmp 4)],
    (.seq (.region [
      ⟨(some 2), (.op (.box (.tmp 0))), none⟩,
      ⟨(some 3), (.op (.box (.tmp 1))), none⟩,
      ⟨(some 4), (.op (.mv (.cst (.bool false)))), none⟩] [])
    (.seq (.region [
      ⟨(some 5), (.op (.faddr 0 (.tmp 2))), none⟩,
      ⟨(some 6), (.op (.load none (.tmp 5))), none⟩,
      ⟨(some 7), (.op (.faddr 0 (.tmp 3))), none⟩,
      ⟨(some 8), (.op (.load none (.tmp 7))), none⟩,
      ⟨(some 9), (.op (.bin .eql (some .int) (.tmp 6) (.tmp 8))), none⟩,
      ⟨(some 10), (.op (.mv (.tmp 9))), none⟩,
      ⟨(some 11), (.op (.faddr 1 (.tmp 2))), (some (10, true))⟩,
      ⟨(some 12), (.op (.load none (.tmp 11))), (some (10, true))⟩,
      ⟨(some 13), (.op (.faddr 1 (.tmp 3))), (some (10, true))⟩,
      ⟨(some 14), (.op (.load none (.tmp 13))), (some (10, true))⟩,
      ⟨(some 15), (.op (.bin .eql (some .int) (.tmp 12) (.tmp 14))), (some (10, true))⟩,
      ⟨(some 16), (.op (.pick (.tmp 10) (.tmp 15) (.cst (.bool false)))), none⟩,
      ⟨(some 17), (.op (.mv (.tmp 16))), none⟩,
      ⟨(some 18), (.op (.faddr 2 (.tmp 2))), (some (17, true))⟩,
      ⟨(some 19), (.op (.load none (.tmp 18))), (some (17, true))⟩,
      ⟨(some 20), (.op (.faddr 2 (.tmp 3))), (some (17, true))⟩,
      ⟨(some 21), (.op (.load none (.tmp 20))), (some (17, true))⟩,
      ⟨(some 22), (.op (.bin .eql (some .int) (.tmp 19) (.tmp 21))), (some (17, true))⟩,
      ⟨(some 23), (.op (.pick (.tmp 17) (.tmp 22) (.cst (.bool false)))), none⟩,
      ⟨(some 24), (.op (.mv (.tmp 23))), none⟩,
      ⟨(some 25), (.op (.faddr 3 (.tmp 2))), (some (24, true))⟩,
      ⟨(some 26), (.op (.load none (.tmp 25))), (some (24, true))⟩,
      ⟨(some 27), (.op (.faddr 3 (.tmp 3))), (some (24, true))⟩,
      ⟨(some 28), (.op (.load none (.tmp 27))), (some (24, true))⟩,
      ⟨(some 29), (.op (.bin .eql (some .str) (.tmp 26) (.tmp 28))), (some (24, true))⟩,
      ⟨(some 30), (.op (.pick (.tmp 24) (.tmp 29) (.cst (.bool false)))), none⟩,
      ⟨(some 31), (.op (.mv (.tmp 30))), none⟩,
      ⟨(some 32), (.op (.faddr 4 (.tmp 2))), (some (31, true))⟩,
      ⟨(some 33), (.op (.load none (.tmp 32))), (some (31, true))⟩,
      ⟨(some 34), (.op (.faddr 4 (.tmp 3))), (some (31, true))⟩,
      ⟨(some 35), (.op (.load none (.tmp 34))), (some (31, true))⟩,
      ⟨(some 36), (.call (.cst (.func (.func 14) [] [])) [(.tmp 33), (.tmp 35)]), (some (31, true))⟩,
      ⟨(some 37), (.op (.pick (.tmp 31) (.tmp 36) (.cst (.bool false)))), none⟩,
      ⟨(some 4), (.op (.mv (.tmp 37))), none⟩] [])
    .ret))⟩
theorem c24 : cFn Tryd.prog [] Tryd.f24 = some h24 := by kernel_rfl
/-- stint/stintlaw08.lent -/
def h34 : HFn :=
  ⟨15, [(.tmp 2)],
    (.seq (.region [
      ⟨(some 2), (.op (.mv (.cst .nilSlice))), none⟩] [])
    (.seq (.region [
      ⟨(some 5), (.op (.mv (.tmp 0))), none⟩,
      ⟨(some 6), (.call (.cst (.func (.func 18) [] [])) [(.tmp 5)]), none⟩,
      ⟨(some 3), (.op (.mv (.tmp 6))), none⟩] [])
    (.seq (.seq (.region [
      ⟨(some 4), (.op (.mv (.cst (.int .i64 0)))), none⟩] [])
    (.block 0
      (.loop
        (.seq (.seq (.region [
          ⟨(some 7), (.op (.mv (.tmp 4))), none⟩,
          ⟨(some 8), (.op (.bin .lss none (.tmp 7) (.cst (.int .i64 8)))), none⟩] [])
        (.cond (.tmp 8)
          .skip
          (.exit 0)))
        (.seq (.block 1
          (.region [
            ⟨(some 11), (.op (.mv (.tmp 3))), none⟩,
            ⟨(some 12), (.op (.bslice 1 1 [(.int .u8 0)] [(0, 1, (.cst (.int .u8 165)))])), none⟩,
            ⟨(some 13), (.op (.append 1 1 (.tmp 11) (.tmp 12))), none⟩,
            ⟨(some 3), (.op (.mv (.tmp 13))), none⟩] []))
        (.region [
          ⟨(some 9), (.op (.mv (.tmp 4))), none⟩,
          ⟨(some 10), (.op (.bin .add none (.tmp 9) (.cst (.int .i64 1)))), none⟩,
          ⟨(some 4), (.op (.mv (.tmp 10))), none⟩] []))))))
    (.seq (.region [
      ⟨(some 14), (.op (.mv (.tmp 3))), none⟩,
      ⟨(some 2), (.op (.mv (.tmp 14))), none⟩] [])
    .ret))))⟩
theorem c34 : cFn Tryd.prog [] Tryd.f34 = some h34 := by kernel_rfl
/-- stint/answers.word -/
def h35 : HFn :=
  ⟨14, [(.tmp 2)],
    (.seq (.region [
      ⟨(some 2), (.op (.mv (.cst (.str [])))), none⟩] [])
    (.seq (.region [
      ⟨(some 4), (.op (.build [(.str []), (.str []), (.str []), (.str []), (.str []), (.str []), (.str []), (.str []), (.str []), (.str []), (.str []), (.str []), (.str []), (.str []), (.str []), (.str []), (.str []), (.str []), (.str []), (.str []), (.str []), (.str []), (.str []), (.str [])] [(1, 1, (.cst (.str [73, 78, 83, 69, 82, 84, 69, 68]))), (2, 1, (.cst (.str [85, 83, 73, 78, 71]))), (3, 1, (.cst (.str [82, 69, 83, 69, 82, 86, 69, 68]))), (4, 1, (.cst (.str [68, 69, 65, 68, 76, 73, 78, 69, 95, 83, 79, 79, 78]))), (5, 1, (.cst (.str [84, 73, 77, 69, 68, 95, 79, 85, 84]))), (6, 1, (.cst (.str [68, 69, 76, 69, 84, 69, 68]))), (7, 1, (.cst (.str [82, 69, 76, 69, 65, 83, 69, 68]))), (8, 1, (.cst (.str [66, 85, 82, 73, 69, 68]))), (9, 1, (.cst (.str [84, 79, 85, 67, 72, 69, 68]))), (10, 1, (.cst (.str [87, 65, 84, 67, 72, 73, 78, 71]))), (11, 1, (.cst (.str [78, 79, 84, 95, 73, 71, 78, 79, 82, 69, 68]))), (12, 1, (.cst (.str [70, 79, 85, 78, 68]))), (13, 1, (.cst (.str [75, 73, 67, 75, 69, 68]))), (14, 1, (.cst (.str [75, 73, 67, 75, 69, 68]))), (15, 1, (.cst (.str [80, 65, 85, 83, 69, 68]))), (16, 1, (.cst (.str [79, 75]))), (17, 1, (.cst (.str [78, 79, 84, 95, 70, 79, 85, 78, 68]))), (18, 1, (.cst (.str [79, 85, 84, 95, 79, 70, 95, 77, 69, 77, 79, 82, 89]))), (19, 1, (.cst (.str [66, 65, 68, 95, 70, 79, 82, 77, 65, 84]))), (20, 1, (.cst (.str [85, 78, 75, 78, 79, 87, 78, 95, 67, 79, 77, 77, 65, 78, 68]))), (21, 1, (.cst (.str [69, 88, 80, 69, 67, 84, 69, 68, 95, 67, 82, 76, 70]))), (22, 1, (.cst (.str [74, 79, 66, 95, 84, 79, 79, 95, 66, 73, 71]))), (23, 1, (.cst (.str [68, 82, 65, 73, 78, 73, 78, 71])))])), none⟩,
      ⟨(some 3), (.op (.box (.cst (.agg [(.str []), (.str []), (.str []), (.str []), (.str []), (.str []), (.str []), (.str []), (.str []), (.str []), (.str []), (.str []), (.str []), (.str []), (.str []), (.str []), (.str []), (.str []), (.str []), (.str []), (.str []), (.str []), (.str []), (.str [])])))), none⟩,
      ⟨none, (.op (.store 24 (.tmp 3) (.tmp 4))), none⟩] [])
    (.seq (.seq (.region [
      ⟨(some 5), (.op (.mv (.tmp 0))), none⟩,
      ⟨(some 6), (.op (.bin .lss none (.tmp 5) (.cst (.int .i64 1)))), none⟩,
      ⟨(some 7), (.op (.mv (.tmp 6))), none⟩,
      ⟨(some 8), (.op (.mv (.tmp 0))), (some (7, false))⟩,
      ⟨(some 9), (.op (.bin .geq none (.tmp 8) (.cst (.int .i64 24)))), (some (7, false))⟩,
      ⟨(some 10), (.op (.pick (.tmp 7) (.cst (.bool true)) (.tmp 9))), none⟩] [])
    (.cond (.tmp 10)
      (.seq (.region [
        ⟨(some 2), (.op (.mv (.cst (.str [])))), none⟩] [])
      .ret)
      .skip))
    (.seq (.region [
      ⟨(some 11), (.op (.mv (.tmp 0))), none⟩,
      ⟨(some 12), (.op (.idxA 24 1 (.tmp 3) (.tmp 11))), none⟩,
      ⟨(some 13), (.op (.load none (.tmp 12))), none⟩,
      ⟨(some 2), (.op (.mv (.tmp 13))), none⟩] [])
    .ret))))⟩
theorem c35 : cFn Tryd.prog [] Tryd.f35 = some h35 := by kernel_rfl
/-- stint/answers.most -/
def h36 : HFn :=
  ⟨5, [(.tmp 2)],
    (.seq (.region [
      ⟨(some 2), (.op (.mv (.cst (.int .i64 0)))), none⟩] [])
    (.seq (.seq (.region [
      ⟨(some 3), (.op (.mv (.tmp 0))), none⟩,
      ⟨(some 4), (.op (.bin .eql (some .int) (.tmp 3) (.cst (.int .i64 16)))), none⟩] [])
    (.cond (.tmp 4)
      (.seq (.region [
        ⟨(some 2), (.op (.mv (.cst (.int .i64 4294967295)))), none⟩] [])
      .ret)
      .skip))
    (.seq (.region [
      ⟨(some 2), (.op (.mv (.cst (.int .i64 65535)))), none⟩] [])
    .ret)))⟩
theorem c36 : cFn Tryd.prog [] Tryd.f36 = some h36 := by kernel_rfl
/-- stint/names.Valid -/
def h37 : HFn :=
  ⟨28, [(.tmp 2)],
    (.seq (.region [
      ⟨(some 2), (.op (.mv (.cst (.bool false)))), none⟩] [])
    (.seq (.seq (.region [
      ⟨(some 4), (.op (.mv (.tmp 0))), none⟩,
      ⟨(some 5), (.op (.len .str (.tmp 4))), none⟩,
      ⟨(some 6), (.op (.bin .lss none (.tmp 5) (.cst (.int .i64 1)))), none⟩,
      ⟨(some 7), (.op (.mv (.tmp 6))), none⟩,
      ⟨(some 8), (.op (.mv (.tmp 0))), (some (7, false))⟩,
      ⟨(some 9), (.op (.len .str (.tmp 8))), (some (7, false))⟩,
      ⟨(some 10), (.op (.bin .gtr none (.tmp 9) (.cst (.int .i64 200)))), (some (7, false))⟩,
      ⟨(some 11), (.op (.pick (.tmp 7) (.cst (.bool true)) (.tmp 10))), none⟩,
      ⟨(some 12), (.op (.mv (.tmp 11))), none⟩,
      ⟨(some 13), (.op (.mv (.tmp 0))), (some (12, false))⟩,
      ⟨(some 14), (.op (.idxStr (.tmp 13) (.cst (.int .i64 0)))), (some (12, false))⟩,
      ⟨(some 15), (.op (.bin .eql (some .int) (.tmp 14) (.cst (.int .u8 45)))), (some (12, false))⟩,
      ⟨(some 16), (.op (.pick (.tmp 12) (.cst (.bool true)) (.tmp 15))), none⟩] [])
    (.cond (.tmp 16)
      (.seq (.region [
        ⟨(some 2), (.op (.mv (.cst (.bool false)))), none⟩] [])
      .ret)
      .skip))
    (.seq (.seq (.region [
      ⟨(some 17), (.op (.mv (.tmp 0))), none⟩,
      ⟨(some 18), (.op (.len .str (.tmp 17))), none⟩,
      ⟨(some 19), (.op (.mv (.cst (.int .i64 0)))), none⟩] [])
    (.block 0
      (.loop
        (.seq (.region [
          ⟨(some 20), (.op (.bin .lss none (.tmp 19) (.tmp 18))), none⟩] [])
        (.seq (.cond (.tmp 20)
          .skip
          (.exit 0))
        (.seq (.block 1
          (.seq (.region [
            ⟨(some 21), (.op (.mv (.tmp 19))), none⟩,
            ⟨(some 3), (.op (.mv (.tmp 21))), none⟩] [])
          (.seq (.region [
            ⟨(some 22), (.op (.mv (.tmp 0))), none⟩,
            ⟨(some 23), (.op (.mv (.tmp 3))), none⟩,
            ⟨(some 24), (.op (.idxStr (.tmp 22) (.tmp 23))), none⟩,
            ⟨(some 25), (.call (.cst (.func (.func 52) [] [])) [(.tmp 24)]), none⟩,
            ⟨(some 26), (.op (.un .not (.tmp 25))), none⟩] [])
          (.cond (.tmp 26)
            (.seq (.region [
              ⟨(some 2), (.op (.mv (.cst (.bool false)))), none⟩] [])
            .ret)
            .skip))))
        (.region [
          ⟨(some 27), (.op (.bin .add none (.tmp 19) (.cst (.int .i64 1)))), none⟩,
          ⟨(some 19), (.op (.mv (.tmp 27))), none⟩] [])))))))
    (.seq (.region [
      ⟨(some 2), (.op (.mv (.cst (.bool true)))), none⟩] [])
    .ret))))⟩
theorem c37 : cFn Tryd.prog [] Tryd.f37 = some h37 := by kernel_rfl
/-- stint/digits.Print -/
def h38 : HFn :=
  ⟨7, [(.tmp 2)],
    (.seq (.region [
      ⟨(some 2), (.op (.mv (.cst (.str [])))), none⟩] [])
    (.seq (.seq (.region [
      ⟨(some 3), (.op (.mv (.tmp 0))), none⟩,
      ⟨(some 4), (.op (.bin .lss none (.tmp 3) (.cst (.int .i64 0)))), none⟩] [])
    (.cond (.tmp 4)
      (.seq (.region [
        ⟨(some 2), (.op (.mv (.cst (.str [])))), none⟩] [])
      .ret)
      .skip))
    (.seq (.region [
      ⟨(some 5), (.op (.mv (.tmp 0))), none⟩,
      ⟨(some 6), (.call (.cst (.func (.func 53) [] [])) [(.tmp 5)]), none⟩,
      ⟨(some 2), (.op (.mv (.tmp 6))), none⟩] [])
    .ret)))⟩
theorem c38 : cFn Tryd.prog [] Tryd.f38 = some h38 := by kernel_rfl
/-- stint/stintref08.Check -/
def h39 : HFn :=
  ⟨55, [(.tmp 2)],
    (.seq (.region [
      ⟨(some 1), (.op (.box (.tmp 0))), none⟩,
      ⟨(some 2), (.op (.mv (.cst (.int .i64 0)))), none⟩] [])
    (.seq (.seq (.region [
      ⟨(some 6), (.op (.faddr 0 (.tmp 1))), none⟩,
      ⟨(some 7), (.op (.load none (.tmp 6))), none⟩,
      ⟨(some 8), (.call (.cst (.func (.func 40) [] [])) [(.tmp 7)]), none⟩,
      ⟨(some 9), (.op (.bin .eql (some .str) (.tmp 8) (.cst (.str [])))), none⟩] [])
    (.cond (.tmp 9)
      (.seq (.region [
        ⟨(some 2), (.op (.mv (.cst (.int .i64 80)))), none⟩] [])
      .ret)
      .skip))
    (.seq (.region [
      ⟨(some 3), (.op (.mv (.cst (.str [73, 78, 66])))), none⟩] [])
    (.seq (.seq (.region [
      ⟨(some 4), (.op (.mv (.cst (.int .i64 0)))), none⟩] [])
    (.block 0
      (.loop
        (.seq (.seq (.region [
          ⟨(some 10), (.op (.mv (.tmp 4))), none⟩,
          ⟨(some 11), (.op (.mv (.tmp 3))), none⟩,
          ⟨(some 12), (.op (.len .str (.tmp 11))), none⟩,
          ⟨(some 13), (.op (.bin .lss none (.tmp 10) (.tmp 12))), none⟩] [])
        (.cond (.tmp 13)
          .skip
          (.exit 0)))
        (.seq (.block 1
          (.seq (.draw [
            ⟨(some 16), (.op (.load (some 5) (.tmp 1))), none⟩,
            ⟨(some 17), (.op (.mv (.tmp 3))), none⟩,
            ⟨(some 18), (.op (.mv (.tmp 4))), none⟩,
            ⟨(some 19), (.op (.idxStr (.tmp 17) (.tmp 18))), none⟩,
            ⟨(some 20), (.call (.cst (.func (.func 43) [] [])) [(.tmp 16), (.tmp 19)]), none⟩,
            ⟨(some 5), (.op (.mv (.tmp 20))), none⟩] [0, 1, 2, 3, 4, 5] [[], [], [], [], [0], []] [])
          (.seq (.draw [
            ⟨(some 21), (.op (.faddr 0 (.tmp 1))), none⟩,
            ⟨(some 22), (.op (.load none (.tmp 21))), none⟩,
            ⟨(some 23), (.op (.mv (.tmp 3))), none⟩,
            ⟨(some 24), (.op (.mv (.tmp 4))), none⟩,
            ⟨(some 25), (.op (.idxStr (.tmp 23) (.tmp 24))), none⟩,
            ⟨(some 26), (.call (.cst (.func (.func 44) [] [])) [(.tmp 22), (.tmp 25)]), none⟩] [0, 1, 2, 3, 4, 5] [[], [], [], [], [], [1]] [])
          (.cond (.tmp 26)
            (.seq (.draw [
              ⟨(some 27), (.op (.mv (.tmp 5))), none⟩,
              ⟨(some 28), (.op (.mv (.tmp 3))), none⟩,
              ⟨(some 29), (.op (.mv (.tmp 4))), none⟩,
              ⟨(some 30), (.op (.idxStr (.tmp 28) (.tmp 29))), none⟩,
              ⟨(some 31), (.call (.cst (.func (.func 54) [] [])) [(.tmp 30)]), none⟩,
              ⟨(some 32), (.op (.bin .lss none (.tmp 27) (.tmp 31))), none⟩,
              ⟨(some 33), (.op (.mv (.tmp 32))), none⟩,
              ⟨(some 34), (.op (.mv (.tmp 5))), (some (33, false))⟩,
              ⟨(some 35), (.op (.faddr 0 (.tmp 1))), (some (33, false))⟩,
              ⟨(some 36), (.op (.load none (.tmp 35))), (some (33, false))⟩,
              ⟨(some 37), (.op (.mv (.tmp 3))), (some (33, false))⟩,
              ⟨(some 38), (.op (.mv (.tmp 4))), (some (33, false))⟩,
              ⟨(some 39), (.op (.idxStr (.tmp 37) (.tmp 38))), (some (33, false))⟩,
              ⟨(some 40), (.call (.cst (.func (.func 55) [] [])) [(.tmp 36), (.tmp 39)]), (some (33, false))⟩,
              ⟨(some 41), (.op (.bin .gtr none (.tmp 34) (.tmp 40))), (some (33, false))⟩,
              ⟨(some 42), (.op (.pick (.tmp 33) (.cst (.bool true)) (.tmp 41))), none⟩] [0, 1, 2, 3, 4, 5, 6, 7, 8, 9, 10, 11, 12, 13, 14, 15] [[], [], [], [], [], [], [], [], [], [], [], [], [], [9], [], []] [])
            (.cond (.tmp 42)
              (.seq (.region [
                ⟨(some 2), (.op (.mv (.cst (.int .i64 81)))), none⟩] [])
              .ret)
              .skip))
            (.seq (.region [
              ⟨(some 43), (.op (.mv (.tmp 5))), none⟩,
              ⟨(some 44), (.op (.bin .neq (some .int) (.tmp 43) (.cst (.int .i64 0)))), none⟩] [])
            (.cond (.tmp 44)
              (.seq (.region [
                ⟨(some 2), (.op (.mv (.cst (.int .i64 81)))), none⟩] [])
              .ret)
              .skip))))))
        (.region [
          ⟨(some 14), (.op (.mv (.tmp 4))), none⟩,
          ⟨(some 15), (.op (.bin .add none (.tmp 14) (.cst (.int .i64 1)))), none⟩,
          ⟨(some 4), (.op (.mv (.tmp 15))), none⟩] []))))))
    (.seq (.seq (.region [
      ⟨(some 45), (.op (.faddr 0 (.tmp 1))), none⟩,
      ⟨(some 46), (.op (.load none (.tmp 45))), none⟩,
      ⟨(some 47), (.call (.cst (.func (.func 44) [] [])) [(.tmp 46), (.cst (.int .u8 84))]), none⟩] [])
    (.cond (.tmp 47)
      (.seq (.region [
        ⟨(some 48), (.op (.faddr 3 (.tmp 1))), none⟩,
        ⟨(some 49), (.op (.load none (.tmp 48))), none⟩,
        ⟨(some 50), (.call (.cst (.func (.func 56) [] [])) [(.tmp 49)]), none⟩,
        ⟨(some 51), (.op (.un .not (.tmp 50))), none⟩] [])
      (.cond (.tmp 51)
        (.seq (.region [
          ⟨(some 2), (.op (.mv (.cst (.int .i64 81)))), none⟩] [])
        .ret)
        .skip))
      (.seq (.region [
        ⟨(some 52), (.op (.faddr 3 (.tmp 1))), none⟩,
        ⟨(some 53), (.op (.load none (.tmp 52))), none⟩,
        ⟨(some 54), (.op (.bin .neq (some .str) (.tmp 53) (.cst (.str [])))), none⟩] [])
      (.cond (.tmp 54)
        (.seq (.region [
          ⟨(some 2), (.op (.mv (.cst (.int .i64 81)))), none⟩] [])
        .ret)
        .skip))))
    (.seq (.region [
      ⟨(some 2), (.op (.mv (.cst (.int .i64 0)))), none⟩] [])
    .ret))))))⟩
theorem c39 : cFn Tryd.prog [] Tryd.f39 = some h39 := by kernel_rfl
/-- stint/stintref08.word -/
def h40 : HFn :=
  ⟨18, [(.tmp 2)],
    (.seq (.region [
      ⟨(some 2), (.op (.mv (.cst (.str [])))), none⟩] [])
    (.seq (.region [
      ⟨(some 4), (.op (.bslice 1 23 [(.str []), (.str []), (.str []), (.str []), (.str []), (.str []), (.str []), (.str []), (.str []), (.str []), (.str []), (.str []), (.str []), (.str []), (.str []), (.str []), (.str []), (.str []), (.str []), (.str []), (.str []), (.str []), (.str [])] [(0, 1, (.cst (.str [73, 78, 83, 69, 82, 84, 69, 68]))), (1, 1, (.cst (.str [85, 83, 73, 78, 71]))), (2, 1, (.cst (.str [82, 69, 83, 69, 82, 86, 69, 68]))), (3, 1, (.cst (.str [68, 69, 65, 68, 76, 73, 78, 69, 95, 83, 79, 79, 78]))), (4, 1, (.cst (.str [84, 73, 77, 69, 68, 95, 79, 85, 84]))), (5, 1, (.cst (.str [68, 69, 76, 69, 84, 69, 68]))), (6, 1, (.cst (.str [82, 69, 76, 69, 65, 83, 69, 68]))), (7, 1, (.cst (.str [66, 85, 82, 73, 69, 68]))), (8, 1, (.cst (.str [84, 79, 85, 67, 72, 69, 68]))), (9, 1, (.cst (.str [87, 65, 84, 67, 72, 73, 78, 71]))), (10, 1, (.cst (.str [78, 79, 84, 95, 73, 71, 78, 79, 82, 69, 68]))), (11, 1, (.cst (.str [70, 79, 85, 78, 68]))), (12, 1, (.cst (.str [75, 73, 67, 75, 69, 68]))), (13, 1, (.cst (.str [75, 73, 67, 75, 69, 68]))), (14, 1, (.cst (.str [80, 65, 85, 83, 69, 68]))), (15, 1, (.cst (.str [79, 75]))), (16, 1, (.cst (.str [78, 79, 84, 95, 70, 79, 85, 78, 68]))), (17, 1, (.cst (.str [79, 85, 84, 95, 79, 70, 95, 77, 69, 77, 79, 82, 89]))), (18, 1, (.cst (.str [66, 65, 68, 95, 70, 79, 82, 77, 65, 84]))), (19, 1, (.cst (.str [85, 78, 75, 78, 79, 87, 78, 95, 67, 79, 77, 77, 65, 78, 68]))), (20, 1, (.cst (.str [69, 88, 80, 69, 67, 84, 69, 68, 95, 67, 82, 76, 70]))), (21, 1, (.cst (.str [74, 79, 66, 95, 84, 79, 79, 95, 66, 73, 71]))), (22, 1, (.cst (.str [68, 82, 65, 73, 78, 73, 78, 71])))])), none⟩,
      ⟨(some 3), (.op (.mv (.tmp 4))), none⟩] [])
    (.seq (.seq (.region [
      ⟨(some 5), (.op (.mv (.tmp 0))), none⟩,
      ⟨(some 6), (.op (.bin .lss none (.tmp 5) (.cst (.int .i64 1)))), none⟩,
      ⟨(some 7), (.op (.mv (.tmp 6))), none⟩,
      ⟨(some 8), (.op (.mv (.tmp 0))), (some (7, false))⟩,
      ⟨(some 9), (.op (.mv (.tmp 3))), (some (7, false))⟩,
      ⟨(some 10), (.op (.len .slice (.tmp 9))), (some (7, false))⟩,
      ⟨(some 11), (.op (.bin .gtr none (.tmp 8) (.tmp 10))), (some (7, false))⟩,
      ⟨(some 12), (.op (.pick (.tmp 7) (.cst (.bool true)) (.tmp 11))), none⟩] [])
    (.cond (.tmp 12)
      (.seq (.region [
        ⟨(some 2), (.op (.mv (.cst (.str [])))), none⟩] [])
      .ret)
      .skip))
    (.seq (.region [
      ⟨(some 13), (.op (.mv (.tmp 3))), none⟩,
      ⟨(some 14), (.op (.mv (.tmp 0))), none⟩,
      ⟨(some 15), (.op (.bin .sub none (.tmp 14) (.cst (.int .i64 1)))), none⟩,
      ⟨(some 16), (.op (.idxS 1 (.tmp 13) (.tmp 15))), none⟩,
      ⟨(some 17), (.op (.load none (.tmp 16))), none⟩,
      ⟨(some 2), (.op (.mv (.tmp 17))), none⟩] [])
    .ret))))⟩
theorem c40 : cFn Tryd.prog [] Tryd.f40 = some h40 := by kernel_rfl
/-- stint/stintref08.fields -/
def h41 : HFn :=
  ⟨16, [(.tmp 2)],
    (.seq (.region [
      ⟨(some 2), (.op (.mv (.cst (.str [])))), none⟩] [])
    (.seq (.seq (.region [
      ⟨(some 3), (.op (.mv (.tmp 0))), none⟩] [])
    (.block 0
      (.seq (.region [
        ⟨(some 5), (.op (.bin .eql (some .int) (.tmp 3) (.cst (.int .i64 1)))), none⟩,
        ⟨(some 4), (.op (.mv (.tmp 5))), none⟩] [])
      (.cond (.tmp 4)
        (.seq (.region [
          ⟨(some 2), (.op (.mv (.cst (.str [73])))), none⟩] [])
        .ret)
        (.seq (.region [
          ⟨(some 7), (.op (.bin .eql (some .int) (.tmp 3) (.cst (.int .i64 2)))), none⟩,
          ⟨(some 6), (.op (.mv (.tmp 7))), none⟩] [])
        (.cond (.tmp 6)
          (.seq (.region [
            ⟨(some 2), (.op (.mv (.cst (.str [84])))), none⟩] [])
          .ret)
          (.seq (.seq (.region [
            ⟨(some 9), (.op (.bin .eql (some .int) (.tmp 3) (.cst (.int .i64 3)))), none⟩,
            ⟨(some 8), (.op (.mv (.tmp 9))), none⟩] [])
          (.cond (.tmp 8)
            .skip
            (.region [
              ⟨(some 10), (.op (.bin .eql (some .int) (.tmp 3) (.cst (.int .i64 12)))), none⟩,
              ⟨(some 8), (.op (.mv (.tmp 10))), none⟩] [])))
          (.cond (.tmp 8)
            (.seq (.region [
              ⟨(some 2), (.op (.mv (.cst (.str [73, 66])))), none⟩] [])
            .ret)
            (.seq (.seq (.region [
              ⟨(some 12), (.op (.bin .eql (some .int) (.tmp 3) (.cst (.int .i64 10)))), none⟩,
              ⟨(some 11), (.op (.mv (.tmp 12))), none⟩] [])
            (.cond (.tmp 11)
              .skip
              (.region [
                ⟨(some 13), (.op (.bin .eql (some .int) (.tmp 3) (.cst (.int .i64 13)))), none⟩,
                ⟨(some 11), (.op (.mv (.tmp 13))), none⟩] [])))
            (.cond (.tmp 11)
              (.seq (.region [
                ⟨(some 2), (.op (.mv (.cst (.str [78])))), none⟩] [])
              .ret)
              (.seq (.region [
                ⟨(some 15), (.op (.bin .eql (some .int) (.tmp 3) (.cst (.int .i64 16)))), none⟩,
                ⟨(some 14), (.op (.mv (.tmp 15))), none⟩] [])
              (.cond (.tmp 14)
                (.seq (.region [
                  ⟨(some 2), (.op (.mv (.cst (.str [66])))), none⟩] [])
                .ret)
                .skip))))))))))))
    (.seq (.region [
      ⟨(some 2), (.op (.mv (.cst (.str [])))), none⟩] [])
    .ret)))⟩
theorem c41 : cFn Tryd.prog [] Tryd.f41 = some h41 := by kernel_rfl
/-- stint/stintref01.Print -/
def h42 : HFn :=
  ⟨25, [(.tmp 2)],
    (.seq (.region [
      ⟨(some 2), (.op (.mv (.cst (.str [])))), none⟩] [])
    (.seq (.seq (.region [
      ⟨(some 4), (.op (.mv (.tmp 0))), none⟩,
      ⟨(some 5), (.op (.bin .lss none (.tmp 4) (.cst (.int .i64 0)))), none⟩] [])
    (.cond (.tmp 5)
      (.seq (.region [
        ⟨(some 2), (.op (.mv (.cst (.str [])))), none⟩] [])
      .ret)
      .skip))
    (.seq (.region [
      ⟨(some 6), (.op (.mv (.tmp 0))), none⟩,
      ⟨(some 7), (.op (.bin .rem none (.tmp 6) (.cst (.int .i64 10)))), none⟩,
      ⟨(some 8), (.op (.bin .add none (.cst (.int .i64 48)) (.tmp 7))), none⟩,
      ⟨(some 9), (.op (.cInt .u8 (.tmp 8))), none⟩,
      ⟨(some 10), (.op (.bslice 1 1 [(.int .u8 0)] [(0, 1, (.tmp 9))])), none⟩,
      ⟨(some 11), (.op (.b2s (.tmp 10))), none⟩,
      ⟨(some 3), (.op (.mv (.tmp 11))), none⟩] [])
    (.seq (.block 0
      (.loop
        (.seq (.seq (.region [
          ⟨(some 12), (.op (.mv (.tmp 0))), none⟩,
          ⟨(some 13), (.op (.bin .geq none (.tmp 12) (.cst (.int .i64 10)))), none⟩] [])
        (.cond (.tmp 13)
          .skip
          (.exit 0)))
        (.block 1
          (.seq (.region [
            ⟨(some 14), (.op (.mv (.tmp 0))), none⟩,
            ⟨(some 15), (.op (.bin .quo none (.tmp 14) (.cst (.int .i64 10)))), none⟩,
            ⟨(some 0), (.op (.mv (.tmp 15))), none⟩] [])
          (.region [
            ⟨(some 16), (.op (.mv (.tmp 0))), none⟩,
            ⟨(some 17), (.op (.bin .rem none (.tmp 16) (.cst (.int .i64 10)))), none⟩,
            ⟨(some 18), (.op (.bin .add none (.cst (.int .i64 48)) (.tmp 17))), none⟩,
            ⟨(some 19), (.op (.cInt .u8 (.tmp 18))), none⟩,
            ⟨(some 20), (.op (.bslice 1 1 [(.int .u8 0)] [(0, 1, (.tmp 19))])), none⟩,
            ⟨(some 21), (.op (.b2s (.tmp 20))), none⟩,
            ⟨(some 22), (.op (.mv (.tmp 3))), none⟩,
            ⟨(some 23), (.op (.bin .add none (.tmp 21) (.tmp 22))), none⟩,
            ⟨(some 3), (.op (.mv (.tmp 23))), none⟩] []))))))
    (.seq (.region [
      ⟨(some 24), (.op (.mv (.tmp 3))), none⟩,
      ⟨(some 2), (.op (.mv (.tmp 24))), none⟩] [])
    .ret)))))⟩
theorem c42 : cFn Tryd.prog [] Tryd.f42 = some h42 := by kernel_rfl
/-- stint/stintref08.field -/
def h43 : HFn :=
  ⟨17, [(.tmp 4)],
    (.seq (.region [
      ⟨(some 2), (.op (.box (.tmp 0))), none⟩,
      ⟨(some 4), (.op (.mv (.cst (.int .i64 0)))), none⟩] [])
    (.seq (.seq (.region [
      ⟨(some 5), (.op (.mv (.tmp 1))), none⟩] [])
    (.block 0
      (.seq (.region [
        ⟨(some 7), (.op (.bin .eql (some .int) (.tmp 5) (.cst (.int .u8 73)))), none⟩,
        ⟨(some 6), (.op (.mv (.tmp 7))), none⟩] [])
      (.cond (.tmp 6)
        (.seq (.region [
          ⟨(some 8), (.op (.faddr 1 (.tmp 2))), none⟩,
          ⟨(some 9), (.op (.load none (.tmp 8))), none⟩,
          ⟨(some 4), (.op (.mv (.tmp 9))), none⟩] [])
        .ret)
        (.seq (.region [
          ⟨(some 11), (.op (.bin .eql (some .int) (.tmp 5) (.cst (.int .u8 78)))), none⟩,
          ⟨(some 10), (.op (.mv (.tmp 11))), none⟩] [])
        (.cond (.tmp 10)
          (.seq (.region [
            ⟨(some 12), (.op (.faddr 2 (.tmp 2))), none⟩,
            ⟨(some 13), (.op (.load none (.tmp 12))), none⟩,
            ⟨(some 4), (.op (.mv (.tmp 13))), none⟩] [])
          .ret)
          .skip))))))
    (.seq (.region [
      ⟨(some 14), (.op (.faddr 4 (.tmp 2))), none⟩,
      ⟨(some 15), (.op (.load none (.tmp 14))), none⟩,
      ⟨(some 16), (.op (.len .slice (.tmp 15))), none⟩,
      ⟨(some 4), (.op (.mv (.tmp 16))), none⟩] [])
    .ret)))⟩
theorem c43 : cFn Tryd.prog [] Tryd.f43 = some h43 := by kernel_rfl
/-- stint/stintref08.has -/
def h44 : HFn :=
  ⟨20, [(.tmp 4)],
    (.seq (.region [
      ⟨(some 4), (.op (.mv (.cst (.bool false)))), none⟩] [])
    (.seq (.region [
      ⟨(some 7), (.op (.mv (.tmp 0))), none⟩,
      ⟨(some 8), (.call (.cst (.func (.func 41) [] [])) [(.tmp 7)]), none⟩,
      ⟨(some 5), (.op (.mv (.tmp 8))), none⟩] [])
    (.seq (.seq (.region [
      ⟨(some 6), (.op (.mv (.cst (.int .i64 0)))), none⟩] [])
    (.block 0
      (.loop
        (.seq (.seq (.region [
          ⟨(some 9), (.op (.mv (.tmp 6))), none⟩,
          ⟨(some 10), (.op (.mv (.tmp 5))), none⟩,
          ⟨(some 11), (.op (.len .str (.tmp 10))), none⟩,
          ⟨(some 12), (.op (.bin .lss none (.tmp 9) (.tmp 11))), none⟩] [])
        (.cond (.tmp 12)
          .skip
          (.exit 0)))
        (.seq (.block 1
          (.seq (.region [
            ⟨(some 15), (.op (.mv (.tmp 5))), none⟩,
            ⟨(some 16), (.op (.mv (.tmp 6))), none⟩,
            ⟨(some 17), (.op (.idxStr (.tmp 15) (.tmp 16))), none⟩,
            ⟨(some 18), (.op (.mv (.tmp 1))), none⟩,
            ⟨(some 19), (.op (.bin .eql (some .int) (.tmp 17) (.tmp 18))), none⟩] [])
          (.cond (.tmp 19)
            (.seq (.region [
              ⟨(some 4), (.op (.mv (.cst (.bool true)))), none⟩] [])
            .ret)
            .skip)))
        (.region [
          ⟨(some 13), (.op (.mv (.tmp 6))), none⟩,
          ⟨(some 14), (.op (.bin .add none (.tmp 13) (.cst (.int .i64 1)))), none⟩,
          ⟨(some 6), (.op (.mv (.tmp 14))), none⟩] []))))))
    (.seq (.region [
      ⟨(some 4), (.op (.mv (.cst (.bool false)))), none⟩] [])
    .ret))))⟩
theorem c44 : cFn Tryd.prog [] Tryd.f44 = some h44 := by kernel_rfl
/-- stint/names.may -/
def h52 : HFn :=
  ⟨25, [(.tmp 2)],
    (.seq (.region [
      ⟨(some 2), (.op (.mv (.cst (.bool false)))), none⟩] [])
    (.seq (.block 0
      (.seq (.seq (.region [
        ⟨(some 4), (.op (.mv (.tmp 0))), none⟩,
        ⟨(some 5), (.op (.bin .geq none (.tmp 4) (.cst (.int .u8 97)))), none⟩,
        ⟨(some 6), (.op (.mv (.tmp 5))), none⟩,
        ⟨(some 7), (.op (.mv (.tmp 0))), (some (6, true))⟩,
        ⟨(some 8), (.op (.bin .leq none (.tmp 7) (.cst (.int .u8 122)))), (some (6, true))⟩,
        ⟨(some 9), (.op (.pick (.tmp 6) (.tmp 8) (.cst (.bool false)))), none⟩,
        ⟨(some 3), (.op (.mv (.tmp 9))), none⟩] [])
      (.cond (.tmp 3)
        .skip
        (.seq (.region [
          ⟨(some 10), (.op (.mv (.tmp 0))), none⟩,
          ⟨(some 11), (.op (.bin .geq none (.tmp 10) (.cst (.int .u8 65)))), none⟩,
          ⟨(some 12), (.op (.mv (.tmp 11))), none⟩,
          ⟨(some 13), (.op (.mv (.tmp 0))), (some (12, true))⟩,
          ⟨(some 14), (.op (.bin .leq none (.tmp 13) (.cst (.int .u8 90)))), (some (12, true))⟩,
          ⟨(some 15), (.op (.pick (.tmp 12) (.tmp 14) (.cst (.bool false)))), none⟩,
          ⟨(some 3), (.op (.mv (.tmp 15))), none⟩] [])
        (.cond (.tmp 3)
          .skip
          (.region [
            ⟨(some 16), (.op (.mv (.tmp 0))), none⟩,
            ⟨(some 17), (.op (.bin .geq none (.tmp 16) (.cst (.int .u8 48)))), none⟩,
            ⟨(some 18), (.op (.mv (.tmp 17))), none⟩,
            ⟨(some 19), (.op (.mv (.tmp 0))), (some (18, true))⟩,
            ⟨(some 20), (.op (.bin .leq none (.tmp 19) (.cst (.int .u8 57)))), (some (18, true))⟩,
            ⟨(some 21), (.op (.pick (.tmp 18) (.tmp 20) (.cst (.bool false)))), none⟩,
            ⟨(some 3), (.op (.mv (.tmp 21))), none⟩] [])))))
      (.cond (.tmp 3)
        (.seq (.region [
          ⟨(some 2), (.op (.mv (.cst (.bool true)))), none⟩] [])
        .ret)
        .skip)))
    (.seq (.region [
      ⟨(some 22), (.op (.mv (.tmp 0))), none⟩,
      ⟨(some 23), (.call (.cst (.func (.func 59) [] [])) [(.cst (.str [45, 43, 47, 59, 46, 36, 95, 40, 41])), (.tmp 22)]), none⟩,
      ⟨(some 24), (.op (.bin .geq none (.tmp 23) (.cst (.int .i64 0)))), none⟩,
      ⟨(some 2), (.op (.mv (.tmp 24))), none⟩] [])
    .ret)))⟩
theorem c52 : cFn Tryd.prog [] Tryd.f52 = some h52 := by kernel_rfl
/-- strconv.Itoa -/
def h53 : HFn :=
  ⟨5, [(.tmp 2)],
    (.seq (.region [
      ⟨(some 2), (.op (.mv (.cst (.str [])))), none⟩] [])
    (.seq (.region [
      ⟨(some 3), (.op (.mv (.tmp 0))), none⟩,
      ⟨(some 4), (.call (.cst (.func (.func 60) [] [])) [(.tmp 3)]), none⟩,
      ⟨(some 2), (.op (.mv (.tmp 4))), none⟩] [])
    .ret))⟩
theorem c53 : cFn Tryd.prog [] Tryd.f53 = some h53 := by kernel_rfl
/-- stint/stintref08.least -/
def h54 : HFn :=
  ⟨5, [(.tmp 2)],
    (.seq (.region [
      ⟨(some 2), (.op (.mv (.cst (.int .i64 0)))), none⟩] [])
    (.seq (.seq (.region [
      ⟨(some 3), (.op (.mv (.tmp 0))), none⟩,
      ⟨(some 4), (.op (.bin .eql (some .int) (.tmp 3) (.cst (.int .u8 73)))), none⟩] [])
    (.cond (.tmp 4)
      (.seq (.region [
        ⟨(some 2), (.op (.mv (.cst (.int .i64 1)))), none⟩] [])
      .ret)
      .skip))
    (.seq (.region [
      ⟨(some 2), (.op (.mv (.cst (.int .i64 0)))), none⟩] [])
    .ret)))⟩
theorem c54 : cFn Tryd.prog [] Tryd.f54 = some h54 := by kernel_rfl
/-- stint/stintref08.most -/
def h55 : HFn :=
  ⟨15, [(.tmp 4)],
    (.seq (.region [
      ⟨(some 4), (.op (.mv (.cst (.int .i64 0)))), none⟩] [])
    (.seq (.block 0
      (.seq (.region [
        ⟨(some 6), (.op (.mv (.tmp 1))), none⟩,
        ⟨(some 7), (.op (.bin .eql (some .int) (.tmp 6) (.cst (.int .u8 73)))), none⟩,
        ⟨(some 5), (.op (.mv (.tmp 7))), none⟩] [])
      (.cond (.tmp 5)
        (.seq (.region [
          ⟨(some 4), (.op (.mv (.cst (.int .i64 1099511627776)))), none⟩] [])
        .ret)
        (.seq (.region [
          ⟨(some 9), (.op (.mv (.tmp 1))), none⟩,
          ⟨(some 10), (.op (.bin .eql (some .int) (.tmp 9) (.cst (.int .u8 66)))), none⟩,
          ⟨(some 11), (.op (.mv (.tmp 10))), none⟩,
          ⟨(some 12), (.op (.mv (.tmp 0))), (some (11, true))⟩,
          ⟨(some 13), (.op (.bin .neq (some .int) (.tmp 12) (.cst (.int .i64 16)))), (some (11, true))⟩,
          ⟨(some 14), (.op (.pick (.tmp 11) (.tmp 13) (.cst (.bool false)))), none⟩,
          ⟨(some 8), (.op (.mv (.tmp 14))), none⟩] [])
        (.cond (.tmp 8)
          (.seq (.region [
            ⟨(some 4), (.op (.mv (.cst (.int .i64 65535)))), none⟩] [])
          .ret)
          .skip)))))
    (.seq (.region [
      ⟨(some 4), (.op (.mv (.cst (.int .i64 4294967295)))), none⟩] [])
    .ret)))⟩
theorem c55 : cFn Tryd.prog [] Tryd.f55 = some h55 := by kernel_rfl
/-- stint/stintref05.Valid -/
def h56 : HFn :=
  ⟨68, [(.tmp 2)],
    (.seq (.region [
      ⟨(some 2), (.op (.mv (.cst (.bool false)))), none⟩] [])
    (.seq (.seq (.region [
      ⟨(some 8), (.op (.mv (.tmp 0))), none⟩,
      ⟨(some 9), (.op (.len .str (.tmp 8))), none⟩,
      ⟨(some 10), (.op (.bin .lss none (.tmp 9) (.cst (.int .i64 1)))), none⟩,
      ⟨(some 11), (.op (.mv (.tmp 10))), none⟩,
      ⟨(some 12), (.op (.mv (.tmp 0))), (some (11, false))⟩,
      ⟨(some 13), (.op (.len .str (.tmp 12))), (some (11, false))⟩,
      ⟨(some 14), (.op (.bin .gtr none (.tmp 13) (.cst (.int .i64 200)))), (some (11, false))⟩,
      ⟨(some 15), (.op (.pick (.tmp 11) (.cst (.bool true)) (.tmp 14))), none⟩,
      ⟨(some 16), (.op (.mv (.tmp 15))), none⟩,
      ⟨(some 17), (.op (.mv (.tmp 0))), (some (16, false))⟩,
      ⟨(some 18), (.op (.idxStr (.tmp 17) (.cst (.int .i64 0)))), (some (16, false))⟩,
      ⟨(some 19), (.op (.bin .eql (some .int) (.tmp 18) (.cst (.int .u8 45)))), (some (16, false))⟩,
      ⟨(some 20), (.op (.pick (.tmp 16) (.cst (.bool true)) (.tmp 19))), none⟩] [])
    (.cond (.tmp 20)
      (.seq (.region [
        ⟨(some 2), (.op (.mv (.cst (.bool false)))), none⟩] [])
      .ret)
      .skip))
    (.seq (.region [
      ⟨(some 3), (.op (.mv (.cst (.str [45, 43, 47, 59, 46, 36, 95, 40, 41])))), none⟩] [])
    (.seq (.seq (.region [
      ⟨(some 4), (.op (.mv (.cst (.int .i64 0)))), none⟩] [])
    (.block 0
      (.loop
        (.seq (.seq (.region [
          ⟨(some 21), (.op (.mv (.tmp 4))), none⟩,
          ⟨(some 22), (.op (.mv (.tmp 0))), none⟩,
          ⟨(some 23), (.op (.len .str (.tmp 22))), none⟩,
          ⟨(some 24), (.op (.bin .lss none (.tmp 21) (.tmp 23))), none⟩] [])
        (.cond (.tmp 24)
          .skip
          (.exit 0)))
        (.seq (.block 1
          (.seq (.region [
            ⟨(some 27), (.op (.mv (.tmp 0))), none⟩,
            ⟨(some 28), (.op (.mv (.tmp 4))), none⟩,
            ⟨(some 29), (.op (.idxStr (.tmp 27) (.tmp 28))), none⟩,
            ⟨(some 5), (.op (.mv (.tmp 29))), none⟩] [])
          (.seq (.region [
            ⟨(some 30), (.op (.mv (.tmp 5))), none⟩,
            ⟨(some 31), (.op (.bin .geq none (.tmp 30) (.cst (.int .u8 97)))), none⟩,
            ⟨(some 32), (.op (.mv (.tmp 31))), none⟩,
            ⟨(some 33), (.op (.mv (.tmp 5))), (some (32, true))⟩,
            ⟨(some 34), (.op (.bin .leq none (.tmp 33) (.cst (.int .u8 122)))), (some (32, true))⟩,
            ⟨(some 35), (.op (.pick (.tmp 32) (.tmp 34) (.cst (.bool false)))), none⟩,
            ⟨(some 36), (.op (.mv (.tmp 35))), none⟩,
            ⟨(some 37), (.op (.mv (.tmp 5))), (some (36, false))⟩,
            ⟨(some 38), (.op (.bin .geq none (.tmp 37) (.cst (.int .u8 65)))), (some (36, false))⟩,
            ⟨(some 39), (.op (.mv (.tmp 38))), (some (36, false))⟩,
            ⟨(some 40), (.op (.mv (.tmp 5))), (some (39, true))⟩,
            ⟨(some 41), (.op (.bin .leq none (.tmp 40) (.cst (.int .u8 90)))), (some (39, true))⟩,
            ⟨(some 42), (.op (.pick (.tmp 39) (.tmp 41) (.cst (.bool false)))), (some (36, false))⟩,
            ⟨(some 43), (.op (.pick (.tmp 36) (.cst (.bool true)) (.tmp 42))), none⟩,
            ⟨(some 44), (.op (.mv (.tmp 43))), none⟩,
            ⟨(some 45), (.op (.mv (.tmp 5))), (some (44, false))⟩,
            ⟨(some 46), (.op (.bin .geq none (.tmp 45) (.cst (.int .u8 48)))), (some (44, false))⟩,
            ⟨(some 47), (.op (.mv (.tmp 46))), (some (44, false))⟩,
            ⟨(some 48), (.op (.mv (.tmp 5))), (some (47, true))⟩,
            ⟨(some 49), (.op (.bin .leq none (.tmp 48) (.cst (.int .u8 57)))), (some (47, true))⟩,
            ⟨(some 50), (.op (.pick (.tmp 47) (.tmp 49) (.cst (.bool false)))), (some (44, false))⟩,
            ⟨(some 51), (.op (.pick (.tmp 44) (.cst (.bool true)) (.tmp 50))), none⟩,
            ⟨(some 6), (.op (.mv (.tmp 51))), none⟩] [])
          (.seq (.seq (.region [
            ⟨(some 7), (.op (.mv (.cst (.int .i64 0)))), none⟩] [])
          (.block 2
            (.loop
              (.seq (.seq (.region [
                ⟨(some 52), (.op (.mv (.tmp 7))), none⟩,
                ⟨(some 53), (.op (.mv (.tmp 3))), none⟩,
                ⟨(some 54), (.op (.len .str (.tmp 53))), none⟩,
                ⟨(some 55), (.op (.bin .lss none (.tmp 52) (.tmp 54))), none⟩] [])
              (.cond (.tmp 55)
                .skip
                (.exit 2)))
              (.seq (.block 3
                (.region [
                  ⟨(some 58), (.op (.mv (.tmp 6))), none⟩,
                  ⟨(some 59), (.op (.mv (.tmp 58))), none⟩,
                  ⟨(some 60), (.op (.mv (.tmp 5))), (some (59, false))⟩,
                  ⟨(some 61), (.op (.mv (.tmp 3))), (some (59, false))⟩,
                  ⟨(some 62), (.op (.mv (.tmp 7))), (some (59, false))⟩,
                  ⟨(some 63), (.op (.idxStr (.tmp 61) (.tmp 62))), (some (59, false))⟩,
                  ⟨(some 64), (.op (.bin .eql (some .int) (.tmp 60) (.tmp 63))), (some (59, false))⟩,
                  ⟨(some 65), (.op (.pick (.tmp 59) (.cst (.bool true)) (.tmp 64))), none⟩,
                  ⟨(some 6), (.op (.mv (.tmp 65))), none⟩] []))
              (.region [
                ⟨(some 56), (.op (.mv (.tmp 7))), none⟩,
                ⟨(some 57), (.op (.bin .add none (.tmp 56) (.cst (.int .i64 1)))), none⟩,
                ⟨(some 7), (.op (.mv (.tmp 57))), none⟩] []))))))
          (.seq (.region [
            ⟨(some 66), (.op (.mv (.tmp 6))), none⟩,
            ⟨(some 67), (.op (.un .not (.tmp 66))), none⟩] [])
          (.cond (.tmp 67)
            (.seq (.region [
              ⟨(some 2), (.op (.mv (.cst (.bool false)))), none⟩] [])
            .ret)
            .skip))))))
        (.region [
          ⟨(some 25), (.op (.mv (.tmp 4))), none⟩,
          ⟨(some 26), (.op (.bin .add none (.tmp 25) (.cst (.int .i64 1)))), none⟩,
          ⟨(some 4), (.op (.mv (.tmp 26))), none⟩] []))))))
    (.seq (.region [
      ⟨(some 2), (.op (.mv (.cst (.bool true)))), none⟩] [])
    .ret)))))⟩
theorem c56 : cFn Tryd.prog [] Tryd.f56 = some h56 := by kernel_rfl
/-- strings.IndexByte -/
def h59 : HFn :=
  ⟨8, [(.tmp 4)],
    (.seq (.region [
      ⟨(some 4), (.op (.mv (.cst (.int .i64 0)))), none⟩] [])
    (.seq (.region [
      ⟨(some 5), (.op (.mv (.tmp 0))), none⟩,
      ⟨(some 6), (.op (.mv (.tmp 1))), none⟩,
      ⟨(some 7), (.call (.cst (.func (.func 68) [] [])) [(.tmp 5), (.tmp 6)]), none⟩,
      ⟨(some 4), (.op (.mv (.tmp 7))), none⟩] [])
    .ret))⟩
theorem c59 : cFn Tryd.prog [] Tryd.f59 = some h59 := by kernel_rfl
/-- internal/strconv.Itoa -/
def h60 : HFn :=
  ⟨5, [(.tmp 2)],
    (.seq (.region [
      ⟨(some 2), (.op (.mv (.cst (.str [])))), none⟩] [])
    (.seq (.region [
      ⟨(some 3), (.op (.mv (.tmp 0))), none⟩,
      ⟨(some 4), (.call (.cst (.func (.func 69) [] [])) [(.tmp 3), (.cst (.int .i64 10))]), none⟩,
      ⟨(some 2), (.op (.mv (.tmp 4))), none⟩] [])
    .ret))⟩
theorem c60 : cFn Tryd.prog [] Tryd.f60 = some h60 := by kernel_rfl
/-- internal/stringslite.IndexByte -/
def h68 : HFn :=
  ⟨8, [(.tmp 4)],
    (.seq (.region [
      ⟨(some 4), (.op (.mv (.cst (.int .i64 0)))), none⟩] [])
    (.seq (.region [
      ⟨(some 5), (.op (.mv (.tmp 0))), none⟩,
      ⟨(some 6), (.op (.mv (.tmp 1))), none⟩,
      ⟨(some 7), (.call (.cst (.func (.func 73) [] [])) [(.tmp 5), (.tmp 6)]), none⟩,
      ⟨(some 4), (.op (.mv (.tmp 7))), none⟩] [])
    .ret))⟩
theorem c68 : cFn Tryd.prog [] Tryd.f68 = some h68 := by kernel_rfl
/-- internal/strconv.FormatInt -/
def h69 : HFn :=
  ⟨54, [(.tmp 4)],
    (.seq (.region [
      ⟨(some 4), (.op (.mv (.cst (.str [])))), none⟩] [])
    (.seq (.seq (.region [
      ⟨(some 10), (.op (.mv (.tmp 1))), none⟩,
      ⟨(some 11), (.op (.bin .eql (some .int) (.tmp 10) (.cst (.int .i64 10)))), none⟩] [])
    (.cond (.tmp 11)
      (.seq (.seq (.region [
        ⟨(some 12), (.op (.mv (.tmp 0))), none⟩,
        ⟨(some 13), (.op (.bin .leq none (.cst (.int .i64 0)) (.tmp 12))), none⟩,
        ⟨(some 14), (.op (.mv (.tmp 13))), none⟩,
        ⟨(some 15), (.op (.mv (.tmp 0))), (some (14, true))⟩,
        ⟨(some 16), (.op (.bin .lss none (.tmp 15) (.cst (.int .i64 100)))), (some (14, true))⟩,
        ⟨(some 17), (.op (.pick (.tmp 14) (.tmp 16) (.cst (.bool false)))), none⟩] [])
      (.cond (.tmp 17)
        (.seq (.region [
          ⟨(some 18), (.op (.mv (.tmp 0))), none⟩,
          ⟨(some 19), (.call (.cst (.func (.func 74) [] [])) [(.tmp 18)]), none⟩,
          ⟨(some 4), (.op (.mv (.tmp 19))), none⟩] [])
        .ret)
        .skip))
      (.seq (.region [
        ⟨(some 5), (.op (.box (.cst (.agg [(.int .u8 0), (.int .u8 0), (.int .u8 0), (.int .u8 0), (.int .u8 0), (.int .u8 0), (.int .u8 0), (.int .u8 0), (.int .u8 0), (.int .u8 0), (.int .u8 0), (.int .u8 0), (.int .u8 0), (.int .u8 0), (.int .u8 0), (.int .u8 0), (.int .u8 0), (.int .u8 0), (.int .u8 0), (.int .u8 0), (.int .u8 0), (.int .u8 0), (.int .u8 0), (.int .u8 0)])))), none⟩] [])
      (.seq (.region [
        ⟨(some 20), (.op (.mv (.tmp 0))), none⟩,
        ⟨(some 21), (.op (.cInt .u64 (.tmp 20))), none⟩,
        ⟨(some 6), (.op (.mv (.tmp 21))), none⟩] [])
      (.seq (.seq (.region [
        ⟨(some 22), (.op (.mv (.tmp 0))), none⟩,
        ⟨(some 23), (.op (.bin .lss none (.tmp 22) (.cst (.int .i64 0)))), none⟩] [])
      (.cond (.tmp 23)
        (.region [
          ⟨(some 24), (.op (.mv (.tmp 6))), none⟩,
          ⟨(some 25), (.op (.un .neg (.tmp 24))), none⟩,
          ⟨(some 6), (.op (.mv (.tmp 25))), none⟩] [])
        .skip))
      (.seq (.region [
        ⟨(some 26), (.op (.mv (.tmp 6))), none⟩,
        ⟨(some 27), (.call (.cst (.func (.func 75) [] [])) [(.tmp 26)]), none⟩,
        ⟨(some 7), (.op (.mv (.tmp 27))), none⟩] [])
      (.seq (.region [
        ⟨(some 28), (.op (.mv (.tmp 7))), none⟩,
        ⟨(some 29), (.op (.bin .add none (.cst (.int .i64 1)) (.tmp 28))), none⟩,
        ⟨(some 30), (.op (.sliceArr 24 1 (.tmp 5) (some (.cst (.int .i64 1))) (some (.tmp 29)) none)), none⟩,
        ⟨(some 31), (.op (.mv (.tmp 6))), none⟩,
        ⟨(some 32), (.call (.cst (.func (.func 76) [] [])) [(.tmp 30), (.tmp 31)]), none⟩] [])
      (.seq (.seq (.region [
        ⟨(some 33), (.op (.mv (.tmp 0))), none⟩,
        ⟨(some 34), (.op (.bin .lss none (.tmp 33) (.cst (.int .i64 0)))), none⟩] [])
      (.cond (.tmp 34)
        (.seq (.region [
          ⟨(some 35), (.op (.idxA 24 1 (.tmp 5) (.cst (.int .i64 0)))), none⟩,
          ⟨none, (.op (.store 1 (.tmp 35) (.cst (.int .u8 45)))), none⟩] [])
        (.seq (.region [
          ⟨(some 36), (.op (.mv (.tmp 7))), none⟩,
          ⟨(some 37), (.op (.bin .add none (.cst (.int .i64 1)) (.tmp 36))), none⟩,
          ⟨(some 38), (.op (.sliceArr 24 1 (.tmp 5) none (some (.tmp 37)) none)), none⟩,
          ⟨(some 39), (.op (.b2s (.tmp 38))), none⟩,
          ⟨(some 4), (.op (.mv (.tmp 39))), none⟩] [])
        .ret))
        .skip))
      (.seq (.region [
        ⟨(some 40), (.op (.mv (.tmp 7))), none⟩,
        ⟨(some 41), (.op (.bin .add none (.cst (.int .i64 1)) (.tmp 40))), none⟩,
        ⟨(some 42), (.op (.sliceArr 24 1 (.tmp 5) (some (.cst (.int .i64 1))) (some (.tmp 41)) none)), none⟩,
        ⟨(some 43), (.op (.b2s (.tmp 42))), none⟩,
        ⟨(some 4), (.op (.mv (.tmp 43))), none⟩] [])
      .ret))))))))
      .skip))
    (.seq (.region [
      ⟨(some 45), (.op (.mv (.tmp 0))), none⟩,
      ⟨(some 46), (.op (.cInt .u64 (.tmp 45))), none⟩,
      ⟨(some 47), (.op (.mv (.tmp 1))), none⟩,
      ⟨(some 48), (.op (.mv (.tmp 0))), none⟩,
      ⟨(some 49), (.op (.bin .lss none (.tmp 48) (.cst (.int .i64 0)))), none⟩,
      ⟨(some 50), (.call (.cst (.func (.func 77) [] [])) [(.cst .nilSlice), (.tmp 46), (.tmp 47), (.tmp 49), (.cst (.bool false))]), none⟩,
      ⟨(some 44), (.op (.mv (.tmp 50))), none⟩,
      ⟨(some 51), (.op (.ext 0 (.tmp 44))), none⟩,
      ⟨(some 52), (.op (.ext 1 (.tmp 44))), none⟩,
      ⟨(some 8), (.op (.mv (.tmp 51))), none⟩,
      ⟨(some 9), (.op (.mv (.tmp 52))), none⟩] [])
    (.seq (.region [
      ⟨(some 53), (.op (.mv (.tmp 9))), none⟩,
      ⟨(some 4), (.op (.mv (.tmp 53))), none⟩] [])
    .ret))))⟩
theorem c69 : cFn Tryd.prog [] Tryd.f69 = some h69 := by kernel_rfl
def F : FuncId → Option HFn
  | 3 => some h3
  | 6 => some h6
  | 10 => some h10
  | 11 => some h11
  | 12 => some h12
  | 13 => some h13
  | 14 => some h14
  | 15 => some h15
  | 16 => some h16
  | 17 => some h17
  | 18 => some h18
  | 19 => some h19
  | 24 => some h24
  | 34 => some h34
  | 35 => some h35
  | 36 => some h36
  | 37 => some h37
  | 38 => some h38
  | 39 => some h39
  | 40 => some h40
  | 41 => some h41
  | 42 => some h42
  | 43 => some h43
  | 44 => some h44
  | 52 => some h52
  | 53 => some h53
  | 54 => some h54
  | 55 => some h55
  | 56 => some h56
  | 59 => some h59
  | 60 => some h60
  | 68 => some h68
  | 69 => some h69
  | _ => none
theorem F_ok : FOk Tryd.prog F := by
  intro f hf h
  unfold F at h
  split at h
  · simp at h; subst h; exact ⟨_, [], Tryd.func3, c3⟩
  · simp at h; subst h; exact ⟨_, [], Tryd.func6, c6⟩
  · simp at h; subst h; exact ⟨_, [], Tryd.func10, c10⟩
  · simp at h; subst h; exact ⟨_, [], Tryd.func11, c11⟩
  · simp at h; subst h; exact ⟨_, [], Tryd.func12, c12⟩
  · simp at h; subst h; exact ⟨_, [], Tryd.func13, c13⟩
  · simp at h; subst h; exact ⟨_, [], Tryd.func14, c14⟩
  · simp at h; subst h; exact ⟨_, [], Tryd.func15, c15⟩
  · simp at h; subst h; exact ⟨_, [], Tryd.func16, c16⟩
  · simp at h; subst h; exact ⟨_, [], Tryd.func17, c17⟩
  · simp at h; subst h; exact ⟨_, [], Tryd.func18, c18⟩
  · simp at h; subst h; exact ⟨_, [], Tryd.func19, c19⟩
  · simp at h; subst h; exact ⟨_, [], Tryd.func24, c24⟩
  · simp at h; subst h; exact ⟨_, [], Tryd.func34, c34⟩
  · simp at h; subst h; exact ⟨_, [], Tryd.func35, c35⟩
  · simp at h; subst h; exact ⟨_, [], Tryd.func36, c36⟩
  · simp at h; subst h; exact ⟨_, [], Tryd.func37, c37⟩
  · simp at h; subst h; exact ⟨_, [], Tryd.func38, c38⟩
  · simp at h; subst h; exact ⟨_, [], Tryd.func39, c39⟩
  · simp at h; subst h; exact ⟨_, [], Tryd.func40, c40⟩
  · simp at h; subst h; exact ⟨_, [], Tryd.func41, c41⟩
  · simp at h; subst h; exact ⟨_, [], Tryd.func42, c42⟩
  · simp at h; subst h; exact ⟨_, [], Tryd.func43, c43⟩
  · simp at h; subst h; exact ⟨_, [], Tryd.func44, c44⟩
  · simp at h; subst h; exact ⟨_, [], Tryd.func52, c52⟩
  · simp at h; subst h; exact ⟨_, [], Tryd.func53, c53⟩
  · simp at h; subst h; exact ⟨_, [], Tryd.func54, c54⟩
  · simp at h; subst h; exact ⟨_, [], Tryd.func55, c55⟩
  · simp at h; subst h; exact ⟨_, [], Tryd.func56, c56⟩
  · simp at h; subst h; exact ⟨_, [], Tryd.func59, c59⟩
  · simp at h; subst h; exact ⟨_, [], Tryd.func60, c60⟩
  · simp at h; subst h; exact ⟨_, [], Tryd.func68, c68⟩
  · simp at h; subst h; exact ⟨_, [], Tryd.func69, c69⟩
  · simp at h
end Go.Proofs.YthihchoccpnfeaaDoor
