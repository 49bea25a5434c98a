import Derived.Test.YtccfcegmaejlnaaHLRound
import Derived.Test.YtccfcegmaejlnaaHLVs
import Derived.Test.YtccfcegmaejlnaaProg
import Derived.KernelRfl
/- The functions, turned (written by program, each checked by the kernel). -/
namespace Go.Proofs.Ytccfcegmaejlnaa
open Go Go.HL
set_option linter.defProp false
/-- stint/stintlaw06.IntakeBounds -/
def b6_1 : HCode :=
  (.seq (.region [
        ⟨(some 30), (.op (.mv (.tmp 6))), none⟩,
        ⟨(some 31), (.op (.bin .eql (some .int) (.tmp 30) (.cst (.int .i64 60)))), none⟩,
        ⟨(some 32), (.op (.mv (.tmp 31))), none⟩,
        ⟨(some 33), (.op (.mv (.tmp 5))), (some (32, true))⟩,
        ⟨(some 34), (.op (.bin .eql (some .ptrN) (.tmp 33) (.cst .nilPtr))), (some (32, true))⟩,
        ⟨(some 35), (.op (.pick (.tmp 32) (.tmp 34) (.cst (.bool false)))), none⟩,
        ⟨(some 4), (.op (.mv (.tmp 35))), none⟩] []) .ret)
def b6_2 : HCode :=
  (.seq (.region [
                ⟨(some 9), (.op (.mv (.cst (.int .i64 223)))), none⟩] []) (.seq (.region [
                ⟨(some 59), (.op (.mv (.tmp 10))), none⟩,
                ⟨(some 60), (.op (.mv (.tmp 0))), none⟩,
                ⟨(some 61), (.op (.bin .leq none (.tmp 59) (.tmp 60))), none⟩] []) (.cond (.tmp 61) (.region [
                  ⟨(some 62), (.op (.mv (.tmp 10))), none⟩,
                  ⟨(some 63), (.op (.bin .add none (.tmp 62) (.cst (.int .i64 1)))), none⟩,
                  ⟨(some 9), (.op (.mv (.tmp 63))), none⟩] []) .skip)))
def b6_3 : HCode :=
  (.seq (.region [
              ⟨(some 52), (.op (.mv (.tmp 5))), none⟩,
              ⟨(some 53), (.op (.faddr 2 (.tmp 12))), none⟩,
              ⟨(some 54), (.op (.load none (.tmp 53))), none⟩,
              ⟨(some 55), (.call (.cst (.func (.func 27) [] [])) [(.tmp 52), (.tmp 54)]), none⟩,
              ⟨(some 56), (.op (.bin .eql (some .int) (.tmp 55) (.cst (.int .i64 0)))), none⟩] []) (.cond (.tmp 56) (.seq (.region [
                ⟨(some 57), (.op (.faddr 2 (.tmp 12))), none⟩,
                ⟨(some 58), (.op (.load none (.tmp 57))), none⟩,
                ⟨(some 10), (.op (.mv (.tmp 58))), none⟩] []) b6_2) .skip))
def b6_4 : HCode :=
  (.draw [
                      ⟨(some 84), (.op (.faddr 1 (.tmp 13))), none⟩,
                      ⟨(some 85), (.op (.load none (.tmp 84))), none⟩,
                      ⟨(some 86), (.op (.len .str (.tmp 85))), none⟩,
                      ⟨(some 87), (.op (.bin .gtr none (.tmp 86) (.cst (.int .i64 222)))), none⟩,
                      ⟨(some 88), (.op (.mv (.tmp 87))), none⟩,
                      ⟨(some 89), (.op (.faddr 1 (.tmp 13))), (some (88, false))⟩,
                      ⟨(some 90), (.op (.load none (.tmp 89))), (some (88, false))⟩,
                      ⟨(some 91), (.call (.cst (.func (.func 23) [] [])) [(.tmp 90)]), (some (88, false))⟩,
                      ⟨(some 92), (.op (.faddr 1 (.tmp 13))), (some (88, false))⟩,
                      ⟨(some 93), (.op (.load none (.tmp 92))), (some (88, false))⟩,
                      ⟨(some 94), (.op (.bin .neq (some .str) (.tmp 91) (.tmp 93))), (some (88, false))⟩,
                      ⟨(some 95), (.op (.pick (.tmp 88) (.cst (.bool true)) (.tmp 94))), none⟩] [0, 1, 2, 3, 4, 5, 6, 8, 9, 7, 10, 11] [[], [], [], [], [], [], [], [6, 2, 1], [], [], [], []] [])
def b6_5 : HCode :=
  (.region [
                      ⟨(some 96), (.op (.mv (.tmp 8))), none⟩,
                      ⟨(some 97), (.op (.faddr 1 (.tmp 13))), none⟩,
                      ⟨(some 98), (.op (.load none (.tmp 97))), none⟩,
                      ⟨(some 99), (.op (.len .str (.tmp 98))), none⟩,
                      ⟨(some 100), (.op (.bin .add none (.tmp 99) (.cst (.int .i64 2)))), none⟩,
                      ⟨(some 101), (.op (.bin .add none (.tmp 96) (.tmp 100))), none⟩,
                      ⟨(some 8), (.op (.mv (.tmp 101))), none⟩] [])
def b6_6 : HCode :=
  (.region [
                          ⟨(some 110), (.op (.faddr 0 (.tmp 13))), none⟩,
                          ⟨(some 111), (.op (.load none (.tmp 110))), none⟩,
                          ⟨(some 112), (.op (.bin .eql (some .int) (.tmp 111) (.cst (.int .i64 3)))), none⟩,
                          ⟨(some 113), (.op (.mv (.tmp 112))), none⟩,
                          ⟨(some 114), (.op (.faddr 2 (.tmp 13))), (some (113, true))⟩,
                          ⟨(some 115), (.op (.load none (.tmp 114))), (some (113, true))⟩,
                          ⟨(some 116), (.op (.len .slice (.tmp 115))), (some (113, true))⟩,
                          ⟨(some 117), (.op (.mv (.tmp 10))), (some (113, true))⟩,
                          ⟨(some 118), (.op (.bin .neq (some .int) (.tmp 116) (.tmp 117))), (some (113, true))⟩,
                          ⟨(some 119), (.op (.pick (.tmp 113) (.tmp 118) (.cst (.bool false)))), none⟩,
                          ⟨(some 120), (.op (.mv (.tmp 119))), none⟩,
                          ⟨(some 121), (.op (.faddr 0 (.tmp 13))), (some (120, false))⟩,
                          ⟨(some 122), (.op (.load none (.tmp 121))), (some (120, false))⟩,
                          ⟨(some 123), (.op (.bin .eql (some .int) (.tmp 122) (.cst (.int .i64 4)))), (some (120, false))⟩,
                          ⟨(some 124), (.op (.mv (.tmp 10))), (some (120, false))⟩,
                          ⟨(some 125), (.op (.mv (.tmp 0))), (some (120, false))⟩,
                          ⟨(some 126), (.op (.bin .gtr none (.tmp 124) (.tmp 125))), (some (120, false))⟩,
                          ⟨(some 127), (.op (.bin .neq (some .bool) (.tmp 123) (.tmp 126))), (some (120, false))⟩,
                          ⟨(some 128), (.op (.pick (.tmp 120) (.cst (.bool true)) (.tmp 127))), none⟩] [])
def b6_7 : HCode :=
  (.seq (.seq b6_6 (.cond (.tmp 128) (.seq (.region [
                            ⟨(some 4), (.op (.mv (.cst (.bool false)))), none⟩] []) .ret) .skip)) (.region [
                          ⟨(some 129), (.op (.mv (.tmp 8))), none⟩,
                          ⟨(some 130), (.op (.mv (.tmp 10))), none⟩,
                          ⟨(some 131), (.op (.bin .add none (.tmp 130) (.cst (.int .i64 2)))), none⟩,
                          ⟨(some 132), (.op (.bin .add none (.tmp 129) (.tmp 131))), none⟩,
                          ⟨(some 8), (.op (.mv (.tmp 132))), none⟩] []))
def b6_8 : HCode :=
  (.seq (.region [
                        ⟨(some 107), (.op (.bin .eql (some .int) (.tmp 81) (.cst (.int .i64 3)))), none⟩,
                        ⟨(some 106), (.op (.mv (.tmp 107))), none⟩] []) (.cond (.tmp 106) .skip (.seq (.region [
                          ⟨(some 108), (.op (.bin .eql (some .int) (.tmp 81) (.cst (.int .i64 5)))), none⟩,
                          ⟨(some 106), (.op (.mv (.tmp 108))), none⟩] []) (.cond (.tmp 106) .skip (.region [
                            ⟨(some 109), (.op (.bin .eql (some .int) (.tmp 81) (.cst (.int .i64 4)))), none⟩,
                            ⟨(some 106), (.op (.mv (.tmp 109))), none⟩] [])))))
def b6_9 : HCode :=
  (.seq (.region [
                      ⟨(some 103), (.op (.bin .eql (some .int) (.tmp 81) (.cst (.int .i64 2)))), none⟩,
                      ⟨(some 102), (.op (.mv (.tmp 103))), none⟩] []) (.cond (.tmp 102) (.region [
                        ⟨(some 104), (.op (.mv (.tmp 8))), none⟩,
                        ⟨(some 105), (.op (.bin .add none (.tmp 104) (.cst (.int .i64 225)))), none⟩,
                        ⟨(some 8), (.op (.mv (.tmp 105))), none⟩] []) (.seq b6_8 (.cond (.tmp 106) b6_7 (.seq (.region [
                          ⟨(some 4), (.op (.mv (.cst (.bool false)))), none⟩] []) .ret)))))
def b6_10 : HCode :=
  (.seq (.region [
                  ⟨(some 80), (.op (.faddr 0 (.tmp 13))), none⟩,
                  ⟨(some 81), (.op (.load none (.tmp 80))), none⟩] []) (.block 4 (.seq (.region [
                    ⟨(some 83), (.op (.bin .eql (some .int) (.tmp 81) (.cst (.int .i64 1)))), none⟩,
                    ⟨(some 82), (.op (.mv (.tmp 83))), none⟩] []) (.cond (.tmp 82) (.seq (.seq b6_4 (.cond (.tmp 95) (.seq (.region [
                        ⟨(some 4), (.op (.mv (.cst (.bool false)))), none⟩] []) .ret) .skip)) b6_5) b6_9))))
def b6_11 : HCode :=
  (.region [
                  ⟨(some 74), (.op (.mv (.tmp 5))), none⟩,
                  ⟨(some 75), (.call (.cst (.func (.func 26) [] [])) [(.tmp 74)]), none⟩,
                  ⟨(some 73), (.op (.mv (.tmp 75))), none⟩,
                  ⟨(some 76), (.op (.ext 0 (.tmp 73))), none⟩,
                  ⟨(some 77), (.op (.ext 1 (.tmp 73))), none⟩,
                  ⟨(some 13), (.op (.box (.cst (.agg [(.int .i64 0), (.str []), .nilSlice])))), none⟩,
                  ⟨none, (.op (.store 3 (.tmp 13) (.tmp 76))), none⟩,
                  ⟨(some 14), (.op (.mv (.tmp 77))), none⟩] [])
def b6_12 : HCode :=
  (.region [
            ⟨(some 133), (.op (.mv (.tmp 5))), none⟩,
            ⟨(some 134), (.call (.cst (.func (.func 14) [] [])) [(.tmp 133)]), none⟩,
            ⟨(some 135), (.op (.mv (.tmp 9))), none⟩,
            ⟨(some 136), (.op (.bin .gtr none (.tmp 134) (.tmp 135))), none⟩,
            ⟨(some 137), (.op (.mv (.tmp 136))), none⟩,
            ⟨(some 138), (.op (.mv (.tmp 8))), (some (137, false))⟩,
            ⟨(some 139), (.op (.mv (.tmp 5))), (some (137, false))⟩,
            ⟨(some 140), (.call (.cst (.func (.func 14) [] [])) [(.tmp 139)]), (some (137, false))⟩,
            ⟨(some 141), (.op (.bin .add none (.tmp 138) (.tmp 140))), (some (137, false))⟩,
            ⟨(some 142), (.op (.mv (.tmp 7))), (some (137, false))⟩,
            ⟨(some 143), (.op (.bin .gtr none (.tmp 141) (.tmp 142))), (some (137, false))⟩,
            ⟨(some 144), (.op (.pick (.tmp 137) (.cst (.bool true)) (.tmp 143))), none⟩] [])
def b6_13 : HCode :=
  (.seq (.region [
            ⟨(some 68), (.op (.mv (.tmp 7))), none⟩,
            ⟨(some 69), (.op (.faddr 3 (.tmp 12))), none⟩,
            ⟨(some 70), (.op (.load none (.tmp 69))), none⟩,
            ⟨(some 71), (.op (.len .slice (.tmp 70))), none⟩,
            ⟨(some 72), (.op (.bin .add none (.tmp 68) (.tmp 71))), none⟩,
            ⟨(some 7), (.op (.mv (.tmp 72))), none⟩] []) (.seq (.block 2 (.loop (.block 3 (.seq b6_11 (.seq (.seq (.region [
                  ⟨(some 78), (.op (.mv (.tmp 14))), none⟩,
                  ⟨(some 79), (.op (.un .not (.tmp 78))), none⟩] []) (.cond (.tmp 79) (.exit 2) .skip)) (.seq (.region [
                  ⟨(some 9), (.op (.mv (.cst (.int .i64 223)))), none⟩] []) b6_10)))))) (.seq b6_12 (.cond (.tmp 144) (.seq (.region [
              ⟨(some 4), (.op (.mv (.cst (.bool false)))), none⟩] []) .ret) .skip))))
def b6_14 : HCode :=
  (.seq (.seq (.region [
            ⟨(some 48), (.op (.faddr 0 (.tmp 12))), none⟩,
            ⟨(some 49), (.op (.load none (.tmp 48))), none⟩,
            ⟨(some 50), (.call (.cst (.func (.func 20) [] [])) [(.tmp 49), (.cst (.int .i64 4))]), none⟩,
            ⟨(some 51), (.op (.bin .eql (some .int) (.tmp 50) (.cst (.int .i64 3)))), none⟩] []) (.cond (.tmp 51) (.seq b6_3 (.exit 1)) .skip)) (.seq (.region [
            ⟨(some 64), (.op (.mv (.tmp 5))), none⟩,
            ⟨(some 65), (.op (.faddr 3 (.tmp 12))), none⟩,
            ⟨(some 66), (.op (.load none (.tmp 65))), none⟩,
            ⟨(some 67), (.call (.cst (.func (.func 18) [] [])) [(.tmp 64), (.tmp 66)]), none⟩] []) b6_13))
def b6_15 : HCode :=
  (.seq (.block 1 (.seq (.region [
            ⟨(some 46), (.op (.idxS 4 (.tmp 42) (.tmp 44))), none⟩,
            ⟨(some 47), (.op (.load (some 4) (.tmp 46))), none⟩,
            ⟨(some 12), (.op (.box (.cst (.agg [(.int .i64 0), (.int .i64 0), (.int .i64 0), .nilSlice])))), none⟩,
            ⟨none, (.op (.store 4 (.tmp 12) (.tmp 47))), none⟩] []) b6_14)) (.region [
          ⟨(some 145), (.op (.bin .add none (.tmp 44) (.cst (.int .i64 1)))), none⟩,
          ⟨(some 44), (.op (.mv (.tmp 145))), none⟩] []))
def b6_16 : HCode :=
  (.seq (.region [
      ⟨(some 36), (.op (.mv (.tmp 6))), none⟩,
      ⟨(some 37), (.op (.bin .neq (some .int) (.tmp 36) (.cst (.int .i64 0)))), none⟩,
      ⟨(some 38), (.op (.mv (.tmp 37))), none⟩,
      ⟨(some 39), (.op (.mv (.tmp 5))), (some (38, false))⟩,
      ⟨(some 40), (.op (.bin .eql (some .ptrN) (.tmp 39) (.cst .nilPtr))), (some (38, false))⟩,
      ⟨(some 41), (.op (.pick (.tmp 38) (.cst (.bool true)) (.tmp 40))), none⟩] []) (.cond (.tmp 41) (.seq (.region [
        ⟨(some 4), (.op (.mv (.cst (.bool false)))), none⟩] []) .ret) .skip))
def b6_17 : HCode :=
  (.seq (.region [
      ⟨(some 7), (.op (.mv (.cst (.int .i64 0)))), none⟩,
      ⟨(some 8), (.op (.mv (.cst (.int .i64 0)))), none⟩,
      ⟨(some 9), (.op (.mv (.cst (.int .i64 223)))), none⟩,
      ⟨(some 10), (.op (.mv (.cst (.int .i64 0)))), none⟩] []) (.seq (.seq (.region [
      ⟨(some 42), (.op (.mv (.tmp 1))), none⟩,
      ⟨(some 43), (.op (.len .slice (.tmp 42))), none⟩,
      ⟨(some 44), (.op (.mv (.cst (.int .i64 0)))), none⟩] []) (.block 0 (.loop (.seq (.region [
          ⟨(some 45), (.op (.bin .lss none (.tmp 44) (.tmp 43))), none⟩] []) (.seq (.cond (.tmp 45) .skip (.exit 0)) b6_15))))) (.seq (.region [
      ⟨(some 4), (.op (.mv (.cst (.bool true)))), none⟩] []) .ret)))
def b6_18 : HCode :=
  (.seq (.region [
      ⟨(some 20), (.op (.mv (.tmp 0))), none⟩,
      ⟨(some 21), (.call (.cst (.func (.func 17) [] [])) [(.tmp 20)]), none⟩,
      ⟨(some 19), (.op (.mv (.tmp 21))), none⟩,
      ⟨(some 22), (.op (.ext 0 (.tmp 19))), none⟩,
      ⟨(some 23), (.op (.ext 1 (.tmp 19))), none⟩,
      ⟨(some 5), (.op (.mv (.tmp 22))), none⟩,
      ⟨(some 6), (.op (.mv (.tmp 23))), none⟩] []) (.seq (.seq (.region [
      ⟨(some 24), (.op (.mv (.tmp 0))), none⟩,
      ⟨(some 25), (.op (.bin .lss none (.tmp 24) (.cst (.int .i64 1)))), none⟩,
      ⟨(some 26), (.op (.mv (.tmp 25))), none⟩,
      ⟨(some 27), (.op (.mv (.tmp 0))), (some (26, false))⟩,
      ⟨(some 28), (.op (.bin .gtr none (.tmp 27) (.cst (.int .i64 65535)))), (some (26, false))⟩,
      ⟨(some 29), (.op (.pick (.tmp 26) (.cst (.bool true)) (.tmp 28))), none⟩] []) (.cond (.tmp 29) b6_1 .skip)) (.seq b6_16 b6_17)))
def b6_19 : HCode :=
  (.seq (.seq (.region [
      ⟨(some 15), (.op (.mv (.tmp 1))), none⟩,
      ⟨(some 16), (.call (.cst (.func (.func 8) [] [])) [(.tmp 15)]), none⟩] []) (.cond (.tmp 16) (.seq (.region [
        ⟨(some 4), (.op (.mv (.cst (.bool true)))), none⟩] []) .ret) .skip)) (.seq (.seq (.region [
      ⟨(some 17), (.call (.cst (.func (.func 9) [] [])) []), none⟩,
      ⟨(some 18), (.op (.un .not (.tmp 17))), none⟩] []) (.cond (.tmp 18) (.seq (.region [
        ⟨(some 4), (.op (.mv (.cst (.bool false)))), none⟩] []) .ret) .skip)) b6_18))
def ub6 :=
  And.intro (hw_unf b6_1.eq_1) <|
  And.intro (hw_unf b6_2.eq_1) <|
  And.intro (hw_unf b6_3.eq_1) <|
  And.intro (hw_unf b6_4.eq_1) <|
  And.intro (hw_unf b6_5.eq_1) <|
  And.intro (hw_unf b6_6.eq_1) <|
  And.intro (hw_unf b6_7.eq_1) <|
  And.intro (hw_unf b6_8.eq_1) <|
  And.intro (hw_unf b6_9.eq_1) <|
  And.intro (hw_unf b6_10.eq_1) <|
  And.intro (hw_unf b6_11.eq_1) <|
  And.intro (hw_unf b6_12.eq_1) <|
  And.intro (hw_unf b6_13.eq_1) <|
  And.intro (hw_unf b6_14.eq_1) <|
  And.intro (hw_unf b6_15.eq_1) <|
  And.intro (hw_unf b6_16.eq_1) <|
  And.intro (hw_unf b6_17.eq_1) <|
  And.intro (hw_unf b6_18.eq_1) <|
  hw_unf b6_19.eq_1
def h6 : HFn :=
  ⟨146, [(.tmp 4)], (.seq (.region [
      ⟨(some 4), (.op (.mv (.cst (.bool false)))), none⟩] []) b6_19)⟩
theorem c6 : cFn Try.prog [] Try.f6 = some h6 := by kernel_rfl
/-- stint/stintlaw06.beyond -/
def b8_1 : HCode :=
  (.region [
          ⟨(some 7), (.op (.mv (.tmp 4))), none⟩,
          ⟨(some 8), (.op (.mv (.tmp 0))), none⟩,
          ⟨(some 9), (.op (.len .slice (.tmp 8))), none⟩,
          ⟨(some 10), (.op (.bin .lss none (.tmp 7) (.tmp 9))), none⟩,
          ⟨(some 11), (.op (.mv (.tmp 10))), none⟩,
          ⟨(some 12), (.op (.mv (.tmp 3))), (some (11, true))⟩,
          ⟨(some 13), (.op (.bin .leq none (.tmp 12) (.cst (.int .i64 2147483647)))), (some (11, true))⟩,
          ⟨(some 14), (.op (.pick (.tmp 11) (.tmp 13) (.cst (.bool false)))), none⟩] [])
def b8_2 : HCode :=
  (.region [
            ⟨(some 17), (.op (.mv (.tmp 3))), none⟩,
            ⟨(some 18), (.op (.mv (.tmp 0))), none⟩,
            ⟨(some 19), (.op (.mv (.tmp 4))), none⟩,
            ⟨(some 20), (.op (.idxS 4 (.tmp 18) (.tmp 19))), none⟩,
            ⟨(some 21), (.op (.faddr 3 (.tmp 20))), none⟩,
            ⟨(some 22), (.op (.load none (.tmp 21))), none⟩,
            ⟨(some 23), (.op (.len .slice (.tmp 22))), none⟩,
            ⟨(some 24), (.op (.bin .add none (.tmp 17) (.tmp 23))), none⟩,
            ⟨(some 3), (.op (.mv (.tmp 24))), none⟩] [])
def b8_3 : HCode :=
  (.seq (.seq (.region [
      ⟨(some 4), (.op (.mv (.cst (.int .i64 0)))), none⟩] []) (.block 0 (.loop (.seq (.seq b8_1 (.cond (.tmp 14) .skip (.exit 0))) (.seq (.block 1 b8_2) (.region [
          ⟨(some 15), (.op (.mv (.tmp 4))), none⟩,
          ⟨(some 16), (.op (.bin .add none (.tmp 15) (.cst (.int .i64 1)))), none⟩,
          ⟨(some 4), (.op (.mv (.tmp 16))), none⟩] [])))))) (.seq (.region [
      ⟨(some 25), (.op (.mv (.tmp 3))), none⟩,
      ⟨(some 26), (.op (.bin .gtr none (.tmp 25) (.cst (.int .i64 2147483647)))), none⟩,
      ⟨(some 2), (.op (.mv (.tmp 26))), none⟩] []) .ret))
def ub8 :=
  And.intro (hw_unf b8_1.eq_1) <|
  And.intro (hw_unf b8_2.eq_1) <|
  hw_unf b8_3.eq_1
def h8 : HFn :=
  ⟨27, [(.tmp 2)], (.seq (.region [
      ⟨(some 2), (.op (.mv (.cst (.bool false)))), none⟩] []) (.seq (.region [
      ⟨(some 5), (.op (.mv (.tmp 0))), none⟩,
      ⟨(some 6), (.op (.len .slice (.tmp 5))), none⟩,
      ⟨(some 3), (.op (.mv (.tmp 6))), none⟩] []) b8_3))⟩
theorem c8 : cFn Try.prog [] Try.f8 = some h8 := by kernel_rfl
/-- stint/stintlaw06.shown -/
def b9_1 : HCode :=
  (.region [
      ⟨(some 12), (.op (.mv (.tmp 2))), none⟩,
      ⟨(some 13), (.op (.bin .neq (some .int) (.tmp 12) (.cst (.int .i64 0)))), none⟩,
      ⟨(some 14), (.op (.mv (.tmp 13))), none⟩,
      ⟨(some 15), (.op (.mv (.tmp 1))), (some (14, false))⟩,
      ⟨(some 16), (.op (.bin .eql (some .ptrN) (.tmp 15) (.cst .nilPtr))), (some (14, false))⟩,
      ⟨(some 17), (.op (.pick (.tmp 14) (.cst (.bool true)) (.tmp 16))), none⟩,
      ⟨(some 18), (.op (.mv (.tmp 17))), none⟩,
      ⟨(some 19), (.op (.mv (.tmp 1))), (some (18, false))⟩,
      ⟨(some 20), (.call (.cst (.func (.func 28) [] [])) [(.tmp 19)]), (some (18, false))⟩,
      ⟨(some 21), (.op (.bin .eql (some .ptrN) (.tmp 20) (.cst .nilPtr))), (some (18, false))⟩,
      ⟨(some 22), (.op (.pick (.tmp 18) (.cst (.bool true)) (.tmp 21))), none⟩] [])
def b9_2 : HCode :=
  (.region [
      ⟨(some 39), (.op (.mv (.tmp 4))), none⟩,
      ⟨(some 40), (.op (.mv (.tmp 39))), none⟩,
      ⟨(some 41), (.op (.faddr 0 (.tmp 3))), (some (40, true))⟩,
      ⟨(some 42), (.op (.load none (.tmp 41))), (some (40, true))⟩,
      ⟨(some 43), (.op (.bin .eql (some .int) (.tmp 42) (.cst (.int .i64 1)))), (some (40, true))⟩,
      ⟨(some 44), (.op (.pick (.tmp 40) (.tmp 43) (.cst (.bool false)))), none⟩,
      ⟨(some 45), (.op (.mv (.tmp 44))), none⟩,
      ⟨(some 46), (.op (.faddr 1 (.tmp 3))), (some (45, true))⟩,
      ⟨(some 47), (.op (.load none (.tmp 46))), (some (45, true))⟩,
      ⟨(some 48), (.op (.bin .eql (some .str) (.tmp 47) (.cst (.str [97, 98])))), (some (45, true))⟩,
      ⟨(some 49), (.op (.pick (.tmp 45) (.tmp 48) (.cst (.bool false)))), none⟩,
      ⟨(some 50), (.op (.mv (.tmp 49))), none⟩,
      ⟨(some 51), (.op (.mv (.tmp 5))), (some (50, true))⟩,
      ⟨(some 52), (.op (.bin .eql (some .int) (.tmp 51) (.cst (.int .i64 0)))), (some (50, true))⟩,
      ⟨(some 53), (.op (.pick (.tmp 50) (.tmp 52) (.cst (.bool false)))), none⟩,
      ⟨(some 54), (.op (.mv (.tmp 53))), none⟩,
      ⟨(some 55), (.op (.mv (.tmp 7))), (some (54, true))⟩,
      ⟨(some 56), (.op (.pick (.tmp 54) (.tmp 55) (.cst (.bool false)))), none⟩,
      ⟨(some 57), (.op (.mv (.tmp 56))), none⟩,
      ⟨(some 58), (.op (.faddr 0 (.tmp 6))), (some (57, true))⟩,
      ⟨(some 59), (.op (.load none (.tmp 58))), (some (57, true))⟩,
      ⟨(some 60), (.op (.bin .eql (some .int) (.tmp 59) (.cst (.int .i64 3)))), (some (57, true))⟩,
      ⟨(some 61), (.op (.pick (.tmp 57) (.tmp 60) (.cst (.bool false)))), none⟩,
      ⟨(some 62), (.op (.mv (.tmp 61))), none⟩,
      ⟨(some 63), (.op (.faddr 2 (.tmp 6))), (some (62, true))⟩,
      ⟨(some 64), (.op (.load none (.tmp 63))), (some (62, true))⟩,
      ⟨(some 65), (.op (.b2s (.tmp 64))), (some (62, true))⟩,
      ⟨(some 66), (.op (.bin .eql (some .str) (.tmp 65) (.cst (.str [120, 121, 122])))), (some (62, true))⟩,
      ⟨(some 67), (.op (.pick (.tmp 62) (.tmp 66) (.cst (.bool false)))), none⟩,
      ⟨(some 68), (.op (.mv (.tmp 67))), none⟩,
      ⟨(some 69), (.op (.mv (.tmp 1))), (some (68, true))⟩,
      ⟨(some 70), (.call (.cst (.func (.func 14) [] [])) [(.tmp 69)]), (some (68, true))⟩,
      ⟨(some 71), (.op (.bin .eql (some .int) (.tmp 70) (.cst (.int .i64 1)))), (some (68, true))⟩,
      ⟨(some 72), (.op (.pick (.tmp 68) (.tmp 71) (.cst (.bool false)))), none⟩,
      ⟨(some 0), (.op (.mv (.tmp 72))), none⟩] [])
def b9_3 : HCode :=
  (.seq (.region [
      ⟨(some 35), (.op (.mv (.tmp 1))), none⟩,
      ⟨(some 36), (.call (.cst (.func (.func 26) [] [])) [(.tmp 35)]), none⟩,
      ⟨(some 34), (.op (.mv (.tmp 36))), none⟩,
      ⟨(some 37), (.op (.ext 0 (.tmp 34))), none⟩,
      ⟨(some 38), (.op (.ext 1 (.tmp 34))), none⟩,
      ⟨(some 6), (.op (.box (.cst (.agg [(.int .i64 0), (.str []), .nilSlice])))), none⟩,
      ⟨none, (.op (.store 3 (.tmp 6) (.tmp 37))), none⟩,
      ⟨(some 7), (.op (.mv (.tmp 38))), none⟩] []) (.seq b9_2 .ret))
def b9_4 : HCode :=
  (.region [
      ⟨(some 23), (.op (.mv (.tmp 1))), none⟩,
      ⟨(some 24), (.op (.bslice 1 10 [(.int .u8 0), (.int .u8 0), (.int .u8 0), (.int .u8 0), (.int .u8 0), (.int .u8 0), (.int .u8 0), (.int .u8 0), (.int .u8 0), (.int .u8 0)] [(0, 1, (.cst (.int .u8 97))), (1, 1, (.cst (.int .u8 98))), (2, 1, (.cst (.int .u8 13))), (3, 1, (.cst (.int .u8 10))), (4, 1, (.cst (.int .u8 120))), (5, 1, (.cst (.int .u8 121))), (6, 1, (.cst (.int .u8 122))), (7, 1, (.cst (.int .u8 13))), (8, 1, (.cst (.int .u8 10))), (9, 1, (.cst (.int .u8 113)))])), none⟩,
      ⟨(some 25), (.op (.mark (.tmp 24))), none⟩,
      ⟨(some 26), (.call (.cst (.func (.func 18) [] [])) [(.tmp 23), (.tmp 25)]), none⟩] [])
def b9_5 : HCode :=
  (.seq (.region [
      ⟨(some 28), (.op (.mv (.tmp 1))), none⟩,
      ⟨(some 29), (.call (.cst (.func (.func 26) [] [])) [(.tmp 28)]), none⟩,
      ⟨(some 27), (.op (.mv (.tmp 29))), none⟩,
      ⟨(some 30), (.op (.ext 0 (.tmp 27))), none⟩,
      ⟨(some 31), (.op (.ext 1 (.tmp 27))), none⟩,
      ⟨(some 3), (.op (.box (.cst (.agg [(.int .i64 0), (.str []), .nilSlice])))), none⟩,
      ⟨none, (.op (.store 3 (.tmp 3) (.tmp 30))), none⟩,
      ⟨(some 4), (.op (.mv (.tmp 31))), none⟩] []) (.seq (.region [
      ⟨(some 32), (.op (.mv (.tmp 1))), none⟩,
      ⟨(some 33), (.call (.cst (.func (.func 27) [] [])) [(.tmp 32), (.cst (.int .i64 3))]), none⟩,
      ⟨(some 5), (.op (.mv (.tmp 33))), none⟩] []) b9_3))
def ub9 :=
  And.intro (hw_unf b9_1.eq_1) <|
  And.intro (hw_unf b9_2.eq_1) <|
  And.intro (hw_unf b9_3.eq_1) <|
  And.intro (hw_unf b9_4.eq_1) <|
  hw_unf b9_5.eq_1
def h9 : HFn :=
  ⟨73, [(.tmp 0)], (.seq (.region [
      ⟨(some 0), (.op (.mv (.cst (.bool false)))), none⟩] []) (.seq (.region [
      ⟨(some 9), (.call (.cst (.func (.func 17) [] [])) [(.cst (.int .i64 4))]), none⟩,
      ⟨(some 8), (.op (.mv (.tmp 9))), none⟩,
      ⟨(some 10), (.op (.ext 0 (.tmp 8))), none⟩,
      ⟨(some 11), (.op (.ext 1 (.tmp 8))), none⟩,
      ⟨(some 1), (.op (.mv (.tmp 10))), none⟩,
      ⟨(some 2), (.op (.mv (.tmp 11))), none⟩] []) (.seq (.seq b9_1 (.cond (.tmp 22) (.seq (.region [
        ⟨(some 0), (.op (.mv (.cst (.bool false)))), none⟩] []) .ret) .skip)) (.seq b9_4 b9_5))))⟩
theorem c9 : cFn Try.prog [] Try.f9 = some h9 := by kernel_rfl
/-- (*stint/stintlaw06.book).holds -/
def b12_1 : HCode :=
  (.region [
            ⟨(some 15), (.op (.mv (.tmp 4))), none⟩,
            ⟨(some 16), (.op (.mv (.tmp 0))), none⟩,
            ⟨(some 17), (.op (.nilc (.tmp 16))), none⟩,
            ⟨(some 18), (.op (.faddr 1 (.tmp 17))), none⟩,
            ⟨(some 19), (.op (.load none (.tmp 18))), none⟩,
            ⟨(some 20), (.op (.mv (.tmp 3))), none⟩,
            ⟨(some 21), (.op (.idxS 1 (.tmp 19) (.tmp 20))), none⟩,
            ⟨(some 22), (.op (.load none (.tmp 21))), none⟩,
            ⟨(some 23), (.call (.cst (.func (.func 33) [] [])) [(.tmp 15), (.tmp 22)]), none⟩,
            ⟨(some 24), (.op (.un .not (.tmp 23))), none⟩] [])
def b12_2 : HCode :=
  (.seq (.block 1 (.seq (.region [
            ⟨(some 12), (.op (.mv (.tmp 10))), none⟩,
            ⟨(some 13), (.op (.idxS 1 (.tmp 8) (.tmp 10))), none⟩,
            ⟨(some 14), (.op (.load none (.tmp 13))), none⟩,
            ⟨(some 3), (.op (.mv (.tmp 12))), none⟩,
            ⟨(some 4), (.op (.mv (.tmp 14))), none⟩] []) (.seq b12_1 (.cond (.tmp 24) (.seq (.region [
              ⟨(some 2), (.op (.mv (.cst (.bool false)))), none⟩] []) .ret) .skip)))) (.region [
          ⟨(some 25), (.op (.bin .add none (.tmp 10) (.cst (.int .i64 1)))), none⟩,
          ⟨(some 10), (.op (.mv (.tmp 25))), none⟩] []))
def b12_3 : HCode :=
  (.seq (.seq (.region [
      ⟨(some 5), (.op (.mv (.tmp 0))), none⟩,
      ⟨(some 6), (.op (.nilc (.tmp 5))), none⟩,
      ⟨(some 7), (.op (.faddr 0 (.tmp 6))), none⟩,
      ⟨(some 8), (.op (.load none (.tmp 7))), none⟩,
      ⟨(some 9), (.op (.len .slice (.tmp 8))), none⟩,
      ⟨(some 10), (.op (.mv (.cst (.int .i64 0)))), none⟩] []) (.block 0 (.loop (.seq (.region [
          ⟨(some 11), (.op (.bin .lss none (.tmp 10) (.tmp 9))), none⟩] []) (.seq (.cond (.tmp 11) .skip (.exit 0)) b12_2))))) (.seq (.region [
      ⟨(some 2), (.op (.mv (.cst (.bool true)))), none⟩] []) .ret))
def ub12 :=
  And.intro (hw_unf b12_1.eq_1) <|
  And.intro (hw_unf b12_2.eq_1) <|
  hw_unf b12_3.eq_1
def h12 : HFn :=
  ⟨26, [(.tmp 2)], (.seq (.region [
      ⟨(some 2), (.op (.mv (.cst (.bool false)))), none⟩] []) b12_3)⟩
theorem c12 : cFn Try.prog [] Try.f12 = some h12 := by kernel_rfl
/-- (*stint/intake.Intake).Held -/
def h14 : HFn :=
  ⟨8, [(.tmp 2)], (.seq (.region [
      ⟨(some 2), (.op (.mv (.cst (.int .i64 0)))), none⟩] []) (.seq (.region [
      ⟨(some 3), (.op (.mv (.tmp 0))), none⟩,
      ⟨(some 4), (.op (.nilc (.tmp 3))), none⟩,
      ⟨(some 5), (.op (.faddr 2 (.tmp 4))), none⟩,
      ⟨(some 6), (.op (.load none (.tmp 5))), none⟩,
      ⟨(some 7), (.op (.len .slice (.tmp 6))), none⟩,
      ⟨(some 2), (.op (.mv (.tmp 7))), none⟩] []) .ret))⟩
theorem c14 : cFn Try.prog [] Try.f14 = some h14 := by kernel_rfl
/-- (*stint/stintlaw06.book).write -/
def b16_1 : HCode :=
  (.region [
                  ⟨(some 39), (.op (.mv (.tmp 0))), none⟩,
                  ⟨(some 40), (.op (.nilc (.tmp 39))), none⟩,
                  ⟨(some 41), (.op (.faddr 0 (.tmp 40))), none⟩,
                  ⟨(some 42), (.op (.load none (.tmp 41))), none⟩,
                  ⟨(some 43), (.op (.mv (.tmp 6))), none⟩,
                  ⟨(some 44), (.op (.idxS 1 (.tmp 42) (.tmp 43))), none⟩,
                  ⟨(some 45), (.op (.load none (.tmp 44))), none⟩,
                  ⟨(some 46), (.op (.mv (.tmp 7))), none⟩,
                  ⟨(some 47), (.op (.mv (.tmp 6))), none⟩,
                  ⟨(some 48), (.op (.bin .mul none (.cst (.int .i64 7)) (.tmp 47))), none⟩,
                  ⟨(some 49), (.op (.bin .add none (.tmp 48) (.cst (.int .i64 1)))), none⟩,
                  ⟨(some 50), (.op (.cInt .u8 (.tmp 49))), none⟩,
                  ⟨(some 51), (.op (.idxS 1 (.tmp 45) (.tmp 46))), none⟩,
                  ⟨none, (.op (.store 1 (.tmp 51) (.tmp 50))), none⟩] [])
def b16_2 : HCode :=
  (.region [
                  ⟨(some 52), (.op (.mv (.tmp 0))), none⟩,
                  ⟨(some 53), (.op (.nilc (.tmp 52))), none⟩,
                  ⟨(some 54), (.op (.faddr 1 (.tmp 53))), none⟩,
                  ⟨(some 55), (.op (.load none (.tmp 54))), none⟩,
                  ⟨(some 56), (.op (.mv (.tmp 6))), none⟩,
                  ⟨(some 57), (.op (.idxS 1 (.tmp 55) (.tmp 56))), none⟩,
                  ⟨(some 58), (.op (.load none (.tmp 57))), none⟩,
                  ⟨(some 59), (.op (.mv (.tmp 7))), none⟩,
                  ⟨(some 60), (.op (.mv (.tmp 6))), none⟩,
                  ⟨(some 61), (.op (.bin .mul none (.cst (.int .i64 7)) (.tmp 60))), none⟩,
                  ⟨(some 62), (.op (.bin .add none (.tmp 61) (.cst (.int .i64 1)))), none⟩,
                  ⟨(some 63), (.op (.cInt .u8 (.tmp 62))), none⟩,
                  ⟨(some 64), (.op (.idxS 1 (.tmp 58) (.tmp 59))), none⟩,
                  ⟨none, (.op (.store 1 (.tmp 64) (.tmp 63))), none⟩] [])
def b16_3 : HCode :=
  (.region [
            ⟨(some 28), (.op (.mv (.tmp 0))), none⟩,
            ⟨(some 29), (.op (.nilc (.tmp 28))), none⟩,
            ⟨(some 30), (.op (.faddr 0 (.tmp 29))), none⟩,
            ⟨(some 31), (.op (.load none (.tmp 30))), none⟩,
            ⟨(some 32), (.op (.mv (.tmp 6))), none⟩,
            ⟨(some 33), (.op (.idxS 1 (.tmp 31) (.tmp 32))), none⟩,
            ⟨(some 34), (.op (.load none (.tmp 33))), none⟩,
            ⟨(some 35), (.op (.len .slice (.tmp 34))), none⟩,
            ⟨(some 36), (.op (.mv (.cst (.int .i64 0)))), none⟩] [])
def b16_4 : HCode :=
  (.block 2 (.loop (.seq (.region [
                ⟨(some 37), (.op (.bin .lss none (.tmp 36) (.tmp 35))), none⟩] []) (.seq (.cond (.tmp 37) .skip (.exit 2)) (.seq (.block 3 (.seq (.region [
                  ⟨(some 38), (.op (.mv (.tmp 36))), none⟩,
                  ⟨(some 7), (.op (.mv (.tmp 38))), none⟩] []) (.seq b16_1 b16_2))) (.region [
                ⟨(some 65), (.op (.bin .add none (.tmp 36) (.cst (.int .i64 1)))), none⟩,
                ⟨(some 36), (.op (.mv (.tmp 65))), none⟩] []))))))
def b16_5 : HCode :=
  (.region [
                  ⟨(some 89), (.op (.mv (.tmp 9))), none⟩,
                  ⟨(some 90), (.op (.mv (.tmp 8))), none⟩,
                  ⟨(some 91), (.op (.bin .mul none (.cst (.int .i64 7)) (.tmp 90))), none⟩,
                  ⟨(some 92), (.op (.bin .add none (.tmp 91) (.cst (.int .i64 2)))), none⟩,
                  ⟨(some 93), (.op (.cInt .u8 (.tmp 92))), none⟩,
                  ⟨(some 94), (.op (.bslice 1 1 [(.int .u8 0)] [(0, 1, (.tmp 93))])), none⟩,
                  ⟨(some 95), (.op (.append 1 1 (.tmp 89) (.tmp 94))), none⟩,
                  ⟨(some 9), (.op (.mv (.tmp 95))), none⟩] [])
def b16_6 : HCode :=
  (.region [
                  ⟨(some 96), (.op (.mv (.tmp 10))), none⟩,
                  ⟨(some 97), (.op (.mv (.tmp 8))), none⟩,
                  ⟨(some 98), (.op (.bin .mul none (.cst (.int .i64 7)) (.tmp 97))), none⟩,
                  ⟨(some 99), (.op (.bin .add none (.tmp 98) (.cst (.int .i64 2)))), none⟩,
                  ⟨(some 100), (.op (.cInt .u8 (.tmp 99))), none⟩,
                  ⟨(some 101), (.op (.bslice 1 1 [(.int .u8 0)] [(0, 1, (.tmp 100))])), none⟩,
                  ⟨(some 102), (.op (.append 1 1 (.tmp 96) (.tmp 101))), none⟩,
                  ⟨(some 10), (.op (.mv (.tmp 102))), none⟩] [])
def b16_7 : HCode :=
  (.region [
            ⟨(some 104), (.op (.mv (.tmp 0))), none⟩,
            ⟨(some 105), (.op (.mv (.tmp 0))), none⟩,
            ⟨(some 106), (.op (.nilc (.tmp 105))), none⟩,
            ⟨(some 107), (.op (.faddr 0 (.tmp 106))), none⟩,
            ⟨(some 108), (.op (.load none (.tmp 107))), none⟩,
            ⟨(some 109), (.op (.mv (.tmp 9))), none⟩,
            ⟨(some 110), (.op (.bslice 1 1 [.nilSlice] [(0, 1, (.tmp 109))])), none⟩,
            ⟨(some 111), (.op (.append 1 24 (.tmp 108) (.tmp 110))), none⟩,
            ⟨(some 112), (.op (.nilc (.tmp 104))), none⟩,
            ⟨(some 113), (.op (.faddr 0 (.tmp 112))), none⟩,
            ⟨none, (.op (.store 1 (.tmp 113) (.tmp 111))), none⟩] [])
def b16_8 : HCode :=
  (.region [
            ⟨(some 114), (.op (.mv (.tmp 0))), none⟩,
            ⟨(some 115), (.op (.mv (.tmp 0))), none⟩,
            ⟨(some 116), (.op (.nilc (.tmp 115))), none⟩,
            ⟨(some 117), (.op (.faddr 1 (.tmp 116))), none⟩,
            ⟨(some 118), (.op (.load none (.tmp 117))), none⟩,
            ⟨(some 119), (.op (.mv (.tmp 10))), none⟩,
            ⟨(some 120), (.op (.bslice 1 1 [.nilSlice] [(0, 1, (.tmp 119))])), none⟩,
            ⟨(some 121), (.op (.append 1 24 (.tmp 118) (.tmp 120))), none⟩,
            ⟨(some 122), (.op (.nilc (.tmp 114))), none⟩,
            ⟨(some 123), (.op (.faddr 1 (.tmp 122))), none⟩,
            ⟨none, (.op (.store 1 (.tmp 123) (.tmp 121))), none⟩] [])
def b16_9 : HCode :=
  (.draw [
            ⟨(some 72), (.op (.mv (.tmp 0))), none⟩,
            ⟨(some 73), (.op (.nilc (.tmp 72))), none⟩,
            ⟨(some 74), (.op (.faddr 0 (.tmp 73))), none⟩,
            ⟨(some 75), (.op (.load none (.tmp 74))), none⟩,
            ⟨(some 76), (.op (.mv (.tmp 8))), none⟩,
            ⟨(some 77), (.op (.idxS 1 (.tmp 75) (.tmp 76))), none⟩,
            ⟨(some 78), (.op (.load none (.tmp 77))), none⟩,
            ⟨(some 79), (.op (.mv (.tmp 0))), none⟩,
            ⟨(some 80), (.op (.nilc (.tmp 79))), none⟩,
            ⟨(some 81), (.op (.faddr 1 (.tmp 80))), none⟩,
            ⟨(some 82), (.op (.load none (.tmp 81))), none⟩,
            ⟨(some 83), (.op (.mv (.tmp 8))), none⟩,
            ⟨(some 84), (.op (.idxS 1 (.tmp 82) (.tmp 83))), none⟩,
            ⟨(some 85), (.op (.load none (.tmp 84))), none⟩,
            ⟨(some 86), (.op (.append 1 1 (.cst .nilSlice) (.tmp 85))), none⟩,
            ⟨(some 9), (.op (.mv (.tmp 78))), none⟩,
            ⟨(some 10), (.op (.mv (.tmp 86))), none⟩] [0, 1, 2, 3, 4, 5, 6, 7, 8, 9, 10, 11, 12, 13, 14, 15, 16] [[], [], [], [], [], [], [], [], [], [], [], [], [], [], [13, 12, 10], [], []] [])
def b16_10 : HCode :=
  (.seq b16_9 (.seq (.seq (.region [
            ⟨(some 87), (.op (.mv (.cst (.int .i64 0)))), none⟩] []) (.block 6 (.loop (.seq (.region [
                ⟨(some 88), (.op (.bin .lss none (.tmp 87) (.cst (.int .i64 40)))), none⟩] []) (.seq (.cond (.tmp 88) .skip (.exit 6)) (.seq (.block 7 (.seq b16_5 b16_6)) (.region [
                ⟨(some 103), (.op (.bin .add none (.tmp 87) (.cst (.int .i64 1)))), none⟩,
                ⟨(some 87), (.op (.mv (.tmp 103))), none⟩] []))))))) (.seq b16_7 b16_8)))
def b16_11 : HCode :=
  (.seq (.region [
      ⟨(some 66), (.op (.mv (.tmp 4))), none⟩,
      ⟨(some 8), (.op (.mv (.tmp 66))), none⟩] []) (.block 4 (.loop (.seq (.seq (.region [
          ⟨(some 67), (.op (.mv (.tmp 8))), none⟩,
          ⟨(some 68), (.op (.mv (.tmp 5))), none⟩,
          ⟨(some 69), (.op (.bin .lss none (.tmp 67) (.tmp 68))), none⟩] []) (.cond (.tmp 69) .skip (.exit 4))) (.seq (.block 5 b16_10) (.region [
          ⟨(some 70), (.op (.mv (.tmp 8))), none⟩,
          ⟨(some 71), (.op (.bin .add none (.tmp 70) (.cst (.int .i64 1)))), none⟩,
          ⟨(some 8), (.op (.mv (.tmp 71))), none⟩] []))))))
def b16_12 : HCode :=
  (.seq (.region [
      ⟨(some 124), (.op (.mv (.tmp 0))), none⟩,
      ⟨(some 125), (.op (.mv (.tmp 0))), none⟩,
      ⟨(some 126), (.op (.nilc (.tmp 125))), none⟩,
      ⟨(some 127), (.op (.faddr 0 (.tmp 126))), none⟩,
      ⟨(some 128), (.op (.load none (.tmp 127))), none⟩,
      ⟨(some 129), (.op (.len .slice (.tmp 128))), none⟩,
      ⟨(some 130), (.op (.nilc (.tmp 124))), none⟩,
      ⟨(some 131), (.op (.faddr 2 (.tmp 130))), none⟩,
      ⟨none, (.op (.store 1 (.tmp 131) (.tmp 129))), none⟩] []) (.seq (.region [
      ⟨(some 132), (.op (.mv (.tmp 3))), none⟩,
      ⟨(some 133), (.op (.mv (.tmp 132))), none⟩,
      ⟨(some 134), (.op (.mv (.tmp 0))), (some (133, true))⟩,
      ⟨(some 135), (.call (.cst (.func (.func 12) [] [])) [(.tmp 134)]), (some (133, true))⟩,
      ⟨(some 136), (.op (.pick (.tmp 133) (.tmp 135) (.cst (.bool false)))), none⟩,
      ⟨(some 2), (.op (.mv (.tmp 136))), none⟩] []) .ret))
def b16_13 : HCode :=
  (.seq (.region [
      ⟨(some 22), (.op (.mv (.tmp 4))), none⟩,
      ⟨(some 6), (.op (.mv (.tmp 22))), none⟩] []) (.block 0 (.loop (.seq (.seq (.region [
          ⟨(some 23), (.op (.mv (.tmp 6))), none⟩,
          ⟨(some 24), (.op (.mv (.tmp 5))), none⟩,
          ⟨(some 25), (.op (.bin .lss none (.tmp 23) (.tmp 24))), none⟩] []) (.cond (.tmp 25) .skip (.exit 0))) (.seq (.block 1 (.seq b16_3 b16_4)) (.region [
          ⟨(some 26), (.op (.mv (.tmp 6))), none⟩,
          ⟨(some 27), (.op (.bin .add none (.tmp 26) (.cst (.int .i64 1)))), none⟩,
          ⟨(some 6), (.op (.mv (.tmp 27))), none⟩] []))))))
def b16_14 : HCode :=
  (.draw [
      ⟨(some 13), (.op (.mv (.tmp 0))), none⟩,
      ⟨(some 14), (.op (.nilc (.tmp 13))), none⟩,
      ⟨(some 15), (.op (.faddr 2 (.tmp 14))), none⟩,
      ⟨(some 16), (.op (.load none (.tmp 15))), none⟩,
      ⟨(some 17), (.op (.mv (.tmp 0))), none⟩,
      ⟨(some 18), (.op (.nilc (.tmp 17))), none⟩,
      ⟨(some 19), (.op (.faddr 0 (.tmp 18))), none⟩,
      ⟨(some 20), (.op (.load none (.tmp 19))), none⟩,
      ⟨(some 21), (.op (.len .slice (.tmp 20))), none⟩,
      ⟨(some 4), (.op (.mv (.tmp 16))), none⟩,
      ⟨(some 5), (.op (.mv (.tmp 21))), none⟩] [0, 1, 2, 3, 4, 5, 6, 7, 8, 9, 10] [[], [], [], [], [], [], [], [], [], [], []] [])
def ub16 :=
  And.intro (hw_unf b16_1.eq_1) <|
  And.intro (hw_unf b16_2.eq_1) <|
  And.intro (hw_unf b16_3.eq_1) <|
  And.intro (hw_unf b16_4.eq_1) <|
  And.intro (hw_unf b16_5.eq_1) <|
  And.intro (hw_unf b16_6.eq_1) <|
  And.intro (hw_unf b16_7.eq_1) <|
  And.intro (hw_unf b16_8.eq_1) <|
  And.intro (hw_unf b16_9.eq_1) <|
  And.intro (hw_unf b16_10.eq_1) <|
  And.intro (hw_unf b16_11.eq_1) <|
  And.intro (hw_unf b16_12.eq_1) <|
  And.intro (hw_unf b16_13.eq_1) <|
  hw_unf b16_14.eq_1
def h16 : HFn :=
  ⟨137, [(.tmp 2)], (.seq (.region [
      ⟨(some 2), (.op (.mv (.cst (.bool false)))), none⟩] []) (.seq (.region [
      ⟨(some 11), (.op (.mv (.tmp 0))), none⟩,
      ⟨(some 12), (.call (.cst (.func (.func 12) [] [])) [(.tmp 11)]), none⟩,
      ⟨(some 3), (.op (.mv (.tmp 12))), none⟩] []) (.seq b16_14 (.seq b16_13 (.seq b16_11 b16_12)))))⟩
theorem c16 : cFn Try.prog [] Try.f16 = some h16 := by kernel_rfl
/-- stint/intake.New -/
def b17_1 : HCode :=
  (.seq (.region [
      ⟨(some 4), (.op (.mv (.tmp 0))), none⟩,
      ⟨(some 5), (.op (.bin .lss none (.tmp 4) (.cst (.int .i64 1)))), none⟩,
      ⟨(some 6), (.op (.mv (.tmp 5))), none⟩,
      ⟨(some 7), (.op (.mv (.tmp 0))), (some (6, false))⟩,
      ⟨(some 8), (.op (.bin .gtr none (.tmp 7) (.cst (.int .i64 65535)))), (some (6, false))⟩,
      ⟨(some 9), (.op (.pick (.tmp 6) (.cst (.bool true)) (.tmp 8))), none⟩] []) (.cond (.tmp 9) (.seq (.region [
        ⟨(some 2), (.op (.mv (.cst .nilPtr))), none⟩,
        ⟨(some 3), (.op (.mv (.cst (.int .i64 60)))), none⟩] []) .ret) .skip))
def ub17 :=
  hw_unf b17_1.eq_1
def h17 : HFn :=
  ⟨13, [(.tmp 2), (.tmp 3)], (.seq (.region [
      ⟨(some 2), (.op (.mv (.cst .nilPtr))), none⟩,
      ⟨(some 3), (.op (.mv (.cst (.int .i64 0)))), none⟩] []) (.seq b17_1 (.seq (.region [
      ⟨(some 10), (.op (.mv (.tmp 0))), none⟩,
      ⟨(some 11), (.op (.build [(.int .i64 0), (.int .i64 0), .nilSlice, (.int .i64 0), (.int .i64 0), (.bool false), (.bool false)] [(0, 1, (.tmp 10))])), none⟩,
      ⟨(some 12), (.op (.box (.tmp 11))), none⟩,
      ⟨(some 2), (.op (.mv (.tmp 12))), none⟩,
      ⟨(some 3), (.op (.mv (.cst (.int .i64 0)))), none⟩] []) .ret)))⟩
theorem c17 : cFn Try.prog [] Try.f17 = some h17 := by kernel_rfl
/-- (*stint/intake.Intake).Feed -/
def b18_1 : HCode :=
  (.seq (.region [
          ⟨(some 21), (.op (.mv (.tmp 0))), none⟩,
          ⟨(some 22), (.op (.nilc (.tmp 21))), none⟩,
          ⟨(some 23), (.op (.faddr 1 (.tmp 22))), none⟩,
          ⟨(some 24), (.op (.load none (.tmp 23))), none⟩,
          ⟨(some 25), (.op (.bin .eql (some .int) (.tmp 24) (.cst (.int .i64 3)))), none⟩,
          ⟨(some 20), (.op (.mv (.tmp 25))), none⟩] []) (.cond (.tmp 20) (.region [
            ⟨(some 26), (.op (.mv (.tmp 0))), none⟩,
            ⟨(some 27), (.op (.mv (.tmp 1))), none⟩,
            ⟨(some 28), (.call (.cst (.func (.func 37) [] [])) [(.tmp 26), (.tmp 27)]), none⟩,
            ⟨(some 1), (.op (.mv (.tmp 28))), none⟩] []) .skip))
def b18_2 : HCode :=
  (.region [
        ⟨(some 5), (.op (.mv (.tmp 0))), none⟩,
        ⟨(some 6), (.op (.nilc (.tmp 5))), none⟩,
        ⟨(some 7), (.op (.faddr 1 (.tmp 6))), none⟩,
        ⟨(some 8), (.op (.load none (.tmp 7))), none⟩,
        ⟨(some 9), (.op (.bin .eql (some .int) (.tmp 8) (.cst (.int .i64 1)))), none⟩,
        ⟨(some 10), (.op (.mv (.tmp 9))), none⟩,
        ⟨(some 11), (.op (.mv (.tmp 0))), (some (10, true))⟩,
        ⟨(some 12), (.op (.nilc (.tmp 11))), (some (10, true))⟩,
        ⟨(some 13), (.op (.faddr 6 (.tmp 12))), (some (10, true))⟩,
        ⟨(some 14), (.op (.load none (.tmp 13))), (some (10, true))⟩,
        ⟨(some 15), (.op (.un .not (.tmp 14))), (some (10, true))⟩,
        ⟨(some 16), (.op (.pick (.tmp 10) (.tmp 15) (.cst (.bool false)))), none⟩,
        ⟨(some 4), (.op (.mv (.tmp 16))), none⟩] [])
def b18_3 : HCode :=
  (.region [
      ⟨(some 29), (.op (.mv (.tmp 0))), none⟩,
      ⟨(some 30), (.op (.mv (.tmp 0))), none⟩,
      ⟨(some 31), (.op (.nilc (.tmp 30))), none⟩,
      ⟨(some 32), (.op (.faddr 2 (.tmp 31))), none⟩,
      ⟨(some 33), (.op (.load none (.tmp 32))), none⟩,
      ⟨(some 34), (.op (.mv (.tmp 1))), none⟩,
      ⟨(some 35), (.op (.append 1 1 (.tmp 33) (.tmp 34))), none⟩,
      ⟨(some 36), (.op (.nilc (.tmp 29))), none⟩,
      ⟨(some 37), (.op (.faddr 2 (.tmp 36))), none⟩,
      ⟨none, (.op (.store 1 (.tmp 37) (.tmp 35))), none⟩] [])
def ub18 :=
  And.intro (hw_unf b18_1.eq_1) <|
  And.intro (hw_unf b18_2.eq_1) <|
  hw_unf b18_3.eq_1
def h18 : HFn :=
  ⟨38, [], (.seq (.block 0 (.seq b18_2 (.cond (.tmp 4) (.region [
          ⟨(some 17), (.op (.mv (.tmp 0))), none⟩,
          ⟨(some 18), (.op (.mv (.tmp 1))), none⟩,
          ⟨(some 19), (.call (.cst (.func (.func 36) [] [])) [(.tmp 17), (.tmp 18)]), none⟩,
          ⟨(some 1), (.op (.mv (.tmp 19))), none⟩] []) b18_1))) b18_3)⟩
theorem c18 : cFn Try.prog [] Try.f18 = some h18 := by kernel_rfl
/-- stint/stintlaw06.among -/
def b20_1 : HCode :=
  (.seq (.seq (.region [
      ⟨(some 10), (.op (.mv (.tmp 0))), none⟩,
      ⟨(some 11), (.op (.bin .lss none (.tmp 10) (.cst (.int .i64 0)))), none⟩] []) (.cond (.tmp 11) (.region [
        ⟨(some 12), (.op (.mv (.tmp 0))), none⟩,
        ⟨(some 13), (.op (.mv (.tmp 1))), none⟩,
        ⟨(some 14), (.op (.bin .add none (.tmp 12) (.tmp 13))), none⟩,
        ⟨(some 0), (.op (.mv (.tmp 14))), none⟩] []) .skip)) (.seq (.region [
      ⟨(some 15), (.op (.mv (.tmp 0))), none⟩,
      ⟨(some 4), (.op (.mv (.tmp 15))), none⟩] []) .ret))
def ub20 :=
  hw_unf b20_1.eq_1
def h20 : HFn :=
  ⟨16, [(.tmp 4)], (.seq (.region [
      ⟨(some 4), (.op (.mv (.cst (.int .i64 0)))), none⟩] []) (.seq (.seq (.region [
      ⟨(some 5), (.op (.mv (.tmp 1))), none⟩,
      ⟨(some 6), (.op (.bin .lss none (.tmp 5) (.cst (.int .i64 1)))), none⟩] []) (.cond (.tmp 6) (.seq (.region [
        ⟨(some 4), (.op (.mv (.cst (.int .i64 0)))), none⟩] []) .ret) .skip)) (.seq (.region [
      ⟨(some 7), (.op (.mv (.tmp 0))), none⟩,
      ⟨(some 8), (.op (.mv (.tmp 1))), none⟩,
      ⟨(some 9), (.op (.bin .rem none (.tmp 7) (.tmp 8))), none⟩,
      ⟨(some 0), (.op (.mv (.tmp 9))), none⟩] []) b20_1)))⟩
theorem c20 : cFn Try.prog [] Try.f20 = some h20 := by kernel_rfl
/-- stint/stintlaw06.cut -/
def b23_1 : HCode :=
  (.region [
            ⟨(some 11), (.op (.mv (.tmp 0))), none⟩,
            ⟨(some 12), (.op (.mv (.tmp 3))), none⟩,
            ⟨(some 13), (.op (.idxStr (.tmp 11) (.tmp 12))), none⟩,
            ⟨(some 14), (.op (.bin .eql (some .int) (.tmp 13) (.cst (.int .u8 13)))), none⟩,
            ⟨(some 15), (.op (.mv (.tmp 14))), none⟩,
            ⟨(some 16), (.op (.mv (.tmp 0))), (some (15, true))⟩,
            ⟨(some 17), (.op (.mv (.tmp 3))), (some (15, true))⟩,
            ⟨(some 18), (.op (.bin .add none (.tmp 17) (.cst (.int .i64 1)))), (some (15, true))⟩,
            ⟨(some 19), (.op (.idxStr (.tmp 16) (.tmp 18))), (some (15, true))⟩,
            ⟨(some 20), (.op (.bin .eql (some .int) (.tmp 19) (.cst (.int .u8 10)))), (some (15, true))⟩,
            ⟨(some 21), (.op (.pick (.tmp 15) (.tmp 20) (.cst (.bool false)))), none⟩] [])
def b23_2 : HCode :=
  (.seq (.block 1 (.seq b23_1 (.cond (.tmp 21) (.seq (.region [
              ⟨(some 22), (.op (.mv (.tmp 0))), none⟩,
              ⟨(some 23), (.op (.mv (.tmp 3))), none⟩,
              ⟨(some 24), (.op (.sliceStr (.tmp 22) none (some (.tmp 23)))), none⟩,
              ⟨(some 2), (.op (.mv (.tmp 24))), none⟩] []) .ret) .skip))) (.region [
          ⟨(some 9), (.op (.mv (.tmp 3))), none⟩,
          ⟨(some 10), (.op (.bin .add none (.tmp 9) (.cst (.int .i64 1)))), none⟩,
          ⟨(some 3), (.op (.mv (.tmp 10))), none⟩] []))
def b23_3 : HCode :=
  (.seq (.seq (.region [
      ⟨(some 3), (.op (.mv (.cst (.int .i64 0)))), none⟩] []) (.block 0 (.loop (.seq (.seq (.region [
          ⟨(some 4), (.op (.mv (.tmp 3))), none⟩,
          ⟨(some 5), (.op (.bin .add none (.tmp 4) (.cst (.int .i64 1)))), none⟩,
          ⟨(some 6), (.op (.mv (.tmp 0))), none⟩,
          ⟨(some 7), (.op (.len .str (.tmp 6))), none⟩,
          ⟨(some 8), (.op (.bin .lss none (.tmp 5) (.tmp 7))), none⟩] []) (.cond (.tmp 8) .skip (.exit 0))) b23_2)))) (.seq (.region [
      ⟨(some 25), (.op (.mv (.tmp 0))), none⟩,
      ⟨(some 2), (.op (.mv (.tmp 25))), none⟩] []) .ret))
def ub23 :=
  And.intro (hw_unf b23_1.eq_1) <|
  And.intro (hw_unf b23_2.eq_1) <|
  hw_unf b23_3.eq_1
def h23 : HFn :=
  ⟨26, [(.tmp 2)], (.seq (.region [
      ⟨(some 2), (.op (.mv (.cst (.str [])))), none⟩] []) b23_3)⟩
theorem c23 : cFn Try.prog [] Try.f23 = some h23 := by kernel_rfl
/-- (*stint/intake.Intake).Next -/
def b26_1 : HCode :=
  (.region [
                    ⟨(some 27), (.op (.mv (.tmp 0))), none⟩,
                    ⟨(some 28), (.op (.mv (.tmp 5))), none⟩,
                    ⟨(some 29), (.op (.bin .add none (.tmp 28) (.cst (.int .i64 2)))), none⟩,
                    ⟨(some 30), (.call (.cst (.func (.func 39) [] [])) [(.tmp 27), (.tmp 29)]), none⟩,
                    ⟨(some 31), (.op (.mv (.tmp 5))), none⟩,
                    ⟨(some 32), (.op (.sliceSl 1 (.tmp 30) none (some (.tmp 31)) none)), none⟩,
                    ⟨(some 33), (.op (.b2s (.tmp 32))), none⟩,
                    ⟨(some 34), (.op (.build [(.int .i64 0), (.str []), .nilSlice] [(0, 1, (.cst (.int .i64 1))), (1, 1, (.tmp 33))])), none⟩,
                    ⟨none, (.op (.store 3 (.tmp 4) (.tmp 34))), none⟩] [])
def b26_2 : HCode :=
  (.draw [
                  ⟨(some 12), (.op (.mv (.tmp 0))), none⟩,
                  ⟨(some 13), (.op (.nilc (.tmp 12))), none⟩,
                  ⟨(some 14), (.op (.faddr 2 (.tmp 13))), none⟩,
                  ⟨(some 15), (.op (.load none (.tmp 14))), none⟩,
                  ⟨(some 16), (.op (.mv (.tmp 0))), none⟩,
                  ⟨(some 17), (.op (.nilc (.tmp 16))), none⟩,
                  ⟨(some 18), (.op (.faddr 2 (.tmp 17))), none⟩,
                  ⟨(some 19), (.op (.load none (.tmp 18))), none⟩,
                  ⟨(some 20), (.op (.len .slice (.tmp 19))), none⟩,
                  ⟨(some 21), (.op (.minmax true [(.cst (.int .i64 224)), (.tmp 20)])), none⟩,
                  ⟨(some 22), (.op (.sliceSl 1 (.tmp 15) none (some (.tmp 21)) none)), none⟩,
                  ⟨(some 23), (.op (.bslice 1 2 [(.int .u8 0), (.int .u8 0)] [(0, 1, (.cst (.int .u8 13))), (1, 1, (.cst (.int .u8 10)))])), none⟩,
                  ⟨(some 24), (.call (.cst (.func (.func 38) [] [])) [(.tmp 22), (.tmp 23)]), none⟩,
                  ⟨(some 5), (.op (.mv (.tmp 24))), none⟩] [0, 1, 2, 3, 4, 5, 6, 7, 8, 9, 10, 11, 12, 13] [[], [], [], [], [], [], [], [], [], [], [], [], [10, 3, 8, 7], []] [])
def b26_3 : HCode :=
  (.region [
                  ⟨(some 42), (.op (.mv (.tmp 0))), none⟩,
                  ⟨(some 43), (.op (.mv (.tmp 0))), none⟩,
                  ⟨(some 44), (.op (.mv (.tmp 0))), none⟩,
                  ⟨(some 45), (.op (.nilc (.tmp 42))), none⟩,
                  ⟨(some 46), (.op (.faddr 1 (.tmp 45))), none⟩,
                  ⟨none, (.op (.store 1 (.tmp 46) (.cst (.int .i64 1)))), none⟩,
                  ⟨(some 47), (.op (.nilc (.tmp 43))), none⟩,
                  ⟨(some 48), (.op (.faddr 5 (.tmp 47))), none⟩,
                  ⟨none, (.op (.store 1 (.tmp 48) (.cst (.bool false)))), none⟩,
                  ⟨(some 49), (.op (.nilc (.tmp 44))), none⟩,
                  ⟨(some 50), (.op (.faddr 6 (.tmp 49))), none⟩,
                  ⟨none, (.op (.store 1 (.tmp 50) (.cst (.bool false)))), none⟩] [])
def b26_4 : HCode :=
  (.region [
                  ⟨(some 51), (.op (.mv (.tmp 0))), none⟩,
                  ⟨(some 52), (.op (.mv (.tmp 0))), none⟩,
                  ⟨(some 53), (.op (.mv (.tmp 0))), none⟩,
                  ⟨(some 54), (.op (.nilc (.tmp 53))), none⟩,
                  ⟨(some 55), (.op (.faddr 2 (.tmp 54))), none⟩,
                  ⟨(some 56), (.op (.load none (.tmp 55))), none⟩,
                  ⟨(some 57), (.op (.len .slice (.tmp 56))), none⟩,
                  ⟨(some 58), (.call (.cst (.func (.func 39) [] [])) [(.tmp 52), (.tmp 57)]), none⟩,
                  ⟨(some 59), (.call (.cst (.func (.func 18) [] [])) [(.tmp 51), (.tmp 58)]), none⟩] [])
def b26_5 : HCode :=
  (.seq (.region [
                  ⟨(some 35), (.op (.mv (.tmp 0))), none⟩,
                  ⟨(some 36), (.op (.nilc (.tmp 35))), none⟩,
                  ⟨(some 37), (.op (.faddr 2 (.tmp 36))), none⟩,
                  ⟨(some 38), (.op (.load none (.tmp 37))), none⟩,
                  ⟨(some 39), (.op (.len .slice (.tmp 38))), none⟩,
                  ⟨(some 40), (.op (.bin .lss none (.tmp 39) (.cst (.int .i64 224)))), none⟩] []) (.cond (.tmp 40) (.seq (.region [
                    ⟨(some 41), (.op (.build [(.int .i64 0), (.str []), .nilSlice] [])), none⟩,
                    ⟨none, (.op (.store 3 (.tmp 2) (.tmp 41))), none⟩,
                    ⟨(some 3), (.op (.mv (.cst (.bool false)))), none⟩] []) .ret) .skip))
def b26_6 : HCode :=
  (.seq (.region [
                    ⟨(some 62), (.op (.mv (.tmp 0))), none⟩,
                    ⟨(some 63), (.op (.nilc (.tmp 62))), none⟩,
                    ⟨(some 64), (.op (.faddr 6 (.tmp 63))), none⟩,
                    ⟨(some 65), (.op (.load none (.tmp 64))), none⟩,
                    ⟨(some 66), (.op (.un .not (.tmp 65))), none⟩] []) (.cond (.tmp 66) (.seq (.region [
                      ⟨(some 67), (.op (.build [(.int .i64 0), (.str []), .nilSlice] [])), none⟩,
                      ⟨none, (.op (.store 3 (.tmp 2) (.tmp 67))), none⟩,
                      ⟨(some 3), (.op (.mv (.cst (.bool false)))), none⟩] []) .ret) .skip))
def b26_7 : HCode :=
  (.draw [
                      ⟨(some 71), (.op (.mv (.tmp 0))), none⟩,
                      ⟨(some 72), (.op (.nilc (.tmp 71))), none⟩,
                      ⟨(some 73), (.op (.faddr 2 (.tmp 72))), none⟩,
                      ⟨(some 74), (.op (.load none (.tmp 73))), none⟩,
                      ⟨(some 75), (.op (.len .slice (.tmp 74))), none⟩,
                      ⟨(some 76), (.op (.mv (.tmp 0))), none⟩,
                      ⟨(some 77), (.op (.nilc (.tmp 76))), none⟩,
                      ⟨(some 78), (.op (.faddr 3 (.tmp 77))), none⟩,
                      ⟨(some 79), (.op (.load none (.tmp 78))), none⟩,
                      ⟨(some 80), (.op (.bin .add none (.tmp 79) (.cst (.int .i64 2)))), none⟩,
                      ⟨(some 81), (.op (.bin .lss none (.tmp 75) (.tmp 80))), none⟩] [0, 1, 2, 3, 4, 5, 6, 7, 8, 9, 10] [[], [], [], [], [], [], [], [], [], [], []] [])
def b26_8 : HCode :=
  (.region [
                      ⟨(some 83), (.op (.mv (.tmp 0))), none⟩,
                      ⟨(some 84), (.op (.mv (.tmp 0))), none⟩,
                      ⟨(some 85), (.op (.nilc (.tmp 84))), none⟩,
                      ⟨(some 86), (.op (.faddr 3 (.tmp 85))), none⟩,
                      ⟨(some 87), (.op (.load none (.tmp 86))), none⟩,
                      ⟨(some 88), (.op (.bin .add none (.tmp 87) (.cst (.int .i64 2)))), none⟩,
                      ⟨(some 89), (.call (.cst (.func (.func 39) [] [])) [(.tmp 83), (.tmp 88)]), none⟩,
                      ⟨(some 90), (.call (.cst (.func (.func 40) [] [])) [(.tmp 89)]), none⟩,
                      ⟨none, (.op (.store 3 (.tmp 4) (.tmp 90))), none⟩] [])
def b26_9 : HCode :=
  (.seq (.region [
                        ⟨(some 93), (.op (.mv (.tmp 0))), none⟩,
                        ⟨(some 94), (.op (.nilc (.tmp 93))), none⟩,
                        ⟨(some 95), (.op (.faddr 4 (.tmp 94))), none⟩,
                        ⟨(some 96), (.op (.load none (.tmp 95))), none⟩,
                        ⟨(some 97), (.op (.bin .gtr none (.tmp 96) (.cst (.int .i64 0)))), none⟩] []) (.cond (.tmp 97) (.seq (.region [
                          ⟨(some 98), (.op (.build [(.int .i64 0), (.str []), .nilSlice] [])), none⟩,
                          ⟨none, (.op (.store 3 (.tmp 2) (.tmp 98))), none⟩,
                          ⟨(some 3), (.op (.mv (.cst (.bool false)))), none⟩] []) .ret) .skip))
def b26_10 : HCode :=
  (.cond (.tmp 69) (.seq (.seq b26_7 (.cond (.tmp 81) (.seq (.region [
                        ⟨(some 82), (.op (.build [(.int .i64 0), (.str []), .nilSlice] [])), none⟩,
                        ⟨none, (.op (.store 3 (.tmp 2) (.tmp 82))), none⟩,
                        ⟨(some 3), (.op (.mv (.cst (.bool false)))), none⟩] []) .ret) .skip)) (.seq b26_8 (.exit 0))) (.seq (.region [
                      ⟨(some 92), (.op (.bin .eql (some .int) (.tmp 9) (.cst (.int .i64 3)))), none⟩,
                      ⟨(some 91), (.op (.mv (.tmp 92))), none⟩] []) (.cond (.tmp 91) (.seq b26_9 (.seq (.region [
                        ⟨(some 99), (.op (.build [(.int .i64 0), (.str []), .nilSlice] [(0, 1, (.cst (.int .i64 4)))])), none⟩,
                        ⟨none, (.op (.store 3 (.tmp 4) (.tmp 99))), none⟩] []) (.exit 0))) .skip)))
def b26_11 : HCode :=
  (.seq (.region [
                  ⟨(some 61), (.op (.bin .eql (some .int) (.tmp 9) (.cst (.int .i64 1)))), none⟩,
                  ⟨(some 60), (.op (.mv (.tmp 61))), none⟩] []) (.cond (.tmp 60) (.seq b26_6 (.seq (.region [
                    ⟨(some 68), (.op (.build [(.int .i64 0), (.str []), .nilSlice] [(0, 1, (.cst (.int .i64 2)))])), none⟩,
                    ⟨none, (.op (.store 3 (.tmp 4) (.tmp 68))), none⟩] []) (.exit 0))) (.seq (.region [
                    ⟨(some 70), (.op (.bin .eql (some .int) (.tmp 9) (.cst (.int .i64 2)))), none⟩,
                    ⟨(some 69), (.op (.mv (.tmp 70))), none⟩] []) b26_10)))
def b26_12 : HCode :=
  (.seq (.region [
              ⟨(some 6), (.op (.mv (.tmp 0))), none⟩,
              ⟨(some 7), (.op (.nilc (.tmp 6))), none⟩,
              ⟨(some 8), (.op (.faddr 1 (.tmp 7))), none⟩,
              ⟨(some 9), (.op (.load none (.tmp 8))), none⟩] []) (.block 2 (.seq (.region [
                ⟨(some 11), (.op (.bin .eql (some .int) (.tmp 9) (.cst (.int .i64 0)))), none⟩,
                ⟨(some 10), (.op (.mv (.tmp 11))), none⟩] []) (.cond (.tmp 10) (.seq (.seq b26_2 (.seq (.region [
                  ⟨(some 25), (.op (.mv (.tmp 5))), none⟩,
                  ⟨(some 26), (.op (.bin .geq none (.tmp 25) (.cst (.int .i64 0)))), none⟩] []) (.cond (.tmp 26) (.seq b26_1 (.exit 0)) .skip))) (.seq b26_5 (.seq b26_3 b26_4))) b26_11))))
def b26_13 : HCode :=
  (.seq (.block 0 (.loop (.block 1 b26_12))) (.seq (.region [
        ⟨(some 100), (.op (.mv (.tmp 0))), none⟩,
        ⟨(some 101), (.op (.nilc (.tmp 100))), none⟩,
        ⟨(some 102), (.op (.faddr 1 (.tmp 101))), none⟩,
        ⟨none, (.op (.store 1 (.tmp 102) (.cst (.int .i64 0)))), none⟩] []) (.seq (.region [
        ⟨(some 103), (.op (.load (some 3) (.tmp 4))), none⟩,
        ⟨none, (.op (.store 3 (.tmp 2) (.tmp 103))), none⟩,
        ⟨(some 3), (.op (.mv (.cst (.bool true)))), none⟩] []) .ret)))
def ub26 :=
  And.intro (hw_unf b26_1.eq_1) <|
  And.intro (hw_unf b26_2.eq_1) <|
  And.intro (hw_unf b26_3.eq_1) <|
  And.intro (hw_unf b26_4.eq_1) <|
  And.intro (hw_unf b26_5.eq_1) <|
  And.intro (hw_unf b26_6.eq_1) <|
  And.intro (hw_unf b26_7.eq_1) <|
  And.intro (hw_unf b26_8.eq_1) <|
  And.intro (hw_unf b26_9.eq_1) <|
  And.intro (hw_unf b26_10.eq_1) <|
  And.intro (hw_unf b26_11.eq_1) <|
  And.intro (hw_unf b26_12.eq_1) <|
  hw_unf b26_13.eq_1
def h26 : HFn :=
  ⟨104, [(.cell 2 (some 3)), (.tmp 3)], (.seq (.region [
      ⟨(some 2), (.op (.box (.cst (.agg [(.int .i64 0), (.str []), .nilSlice])))), none⟩,
      ⟨(some 3), (.op (.mv (.cst (.bool false)))), none⟩] []) (.scope (.seq (.region [
        ⟨(some 4), (.op (.box (.cst (.agg [(.int .i64 0), (.str []), .nilSlice])))), none⟩] []) (.seq .lab b26_13))))⟩
theorem c26 : cFn Try.prog [] Try.f26 = some h26 := by kernel_rfl
/-- (*stint/intake.Intake).Body -/
def b27_1 : HCode :=
  (.region [
      ⟨(some 5), (.op (.mv (.tmp 1))), none⟩,
      ⟨(some 6), (.op (.bin .lss none (.tmp 5) (.cst (.int .i64 0)))), none⟩,
      ⟨(some 7), (.op (.mv (.tmp 6))), none⟩,
      ⟨(some 8), (.op (.mv (.tmp 1))), (some (7, false))⟩,
      ⟨(some 9), (.op (.bin .gtr none (.tmp 8) (.cst (.int .i64 4294967295)))), (some (7, false))⟩,
      ⟨(some 10), (.op (.pick (.tmp 7) (.cst (.bool true)) (.tmp 9))), none⟩,
      ⟨(some 11), (.op (.mv (.tmp 10))), none⟩,
      ⟨(some 12), (.op (.mv (.tmp 0))), (some (11, false))⟩,
      ⟨(some 13), (.op (.nilc (.tmp 12))), (some (11, false))⟩,
      ⟨(some 14), (.op (.faddr 1 (.tmp 13))), (some (11, false))⟩,
      ⟨(some 15), (.op (.load none (.tmp 14))), (some (11, false))⟩,
      ⟨(some 16), (.op (.bin .neq (some .int) (.tmp 15) (.cst (.int .i64 0)))), (some (11, false))⟩,
      ⟨(some 17), (.op (.pick (.tmp 11) (.cst (.bool true)) (.tmp 16))), none⟩] [])
def b27_2 : HCode :=
  (.region [
        ⟨(some 24), (.op (.mv (.tmp 0))), none⟩,
        ⟨(some 25), (.op (.mv (.tmp 0))), none⟩,
        ⟨(some 26), (.op (.mv (.tmp 1))), none⟩,
        ⟨(some 27), (.op (.nilc (.tmp 24))), none⟩,
        ⟨(some 28), (.op (.faddr 1 (.tmp 27))), none⟩,
        ⟨none, (.op (.store 1 (.tmp 28) (.cst (.int .i64 2)))), none⟩,
        ⟨(some 29), (.op (.nilc (.tmp 25))), none⟩,
        ⟨(some 30), (.op (.faddr 3 (.tmp 29))), none⟩,
        ⟨none, (.op (.store 1 (.tmp 30) (.tmp 26))), none⟩] [])
def b27_3 : HCode :=
  (.region [
      ⟨(some 39), (.op (.mv (.tmp 0))), none⟩,
      ⟨(some 40), (.op (.mv (.tmp 0))), none⟩,
      ⟨(some 41), (.op (.mv (.tmp 0))), none⟩,
      ⟨(some 42), (.op (.nilc (.tmp 41))), none⟩,
      ⟨(some 43), (.op (.faddr 2 (.tmp 42))), none⟩,
      ⟨(some 44), (.op (.load none (.tmp 43))), none⟩,
      ⟨(some 45), (.call (.cst (.func (.func 37) [] [])) [(.tmp 40), (.tmp 44)]), none⟩,
      ⟨(some 46), (.op (.nilc (.tmp 39))), none⟩,
      ⟨(some 47), (.op (.faddr 2 (.tmp 46))), none⟩,
      ⟨none, (.op (.store 1 (.tmp 47) (.tmp 45))), none⟩] [])
def b27_4 : HCode :=
  (.region [
      ⟨(some 31), (.op (.mv (.tmp 0))), none⟩,
      ⟨(some 32), (.op (.mv (.tmp 0))), none⟩,
      ⟨(some 33), (.op (.mv (.tmp 1))), none⟩,
      ⟨(some 34), (.op (.bin .add none (.tmp 33) (.cst (.int .i64 2)))), none⟩,
      ⟨(some 35), (.op (.nilc (.tmp 31))), none⟩,
      ⟨(some 36), (.op (.faddr 1 (.tmp 35))), none⟩,
      ⟨none, (.op (.store 1 (.tmp 36) (.cst (.int .i64 3)))), none⟩,
      ⟨(some 37), (.op (.nilc (.tmp 32))), none⟩,
      ⟨(some 38), (.op (.faddr 4 (.tmp 37))), none⟩,
      ⟨none, (.op (.store 1 (.tmp 38) (.tmp 34))), none⟩] [])
def b27_5 : HCode :=
  (.seq (.seq (.region [
      ⟨(some 18), (.op (.mv (.tmp 1))), none⟩,
      ⟨(some 19), (.op (.mv (.tmp 0))), none⟩,
      ⟨(some 20), (.op (.nilc (.tmp 19))), none⟩,
      ⟨(some 21), (.op (.faddr 0 (.tmp 20))), none⟩,
      ⟨(some 22), (.op (.load none (.tmp 21))), none⟩,
      ⟨(some 23), (.op (.bin .leq none (.tmp 18) (.tmp 22))), none⟩] []) (.cond (.tmp 23) (.seq b27_2 (.seq (.region [
        ⟨(some 4), (.op (.mv (.cst (.int .i64 0)))), none⟩] []) .ret)) .skip)) (.seq b27_4 (.seq b27_3 (.seq (.region [
      ⟨(some 4), (.op (.mv (.cst (.int .i64 0)))), none⟩] []) .ret))))
def ub27 :=
  And.intro (hw_unf b27_1.eq_1) <|
  And.intro (hw_unf b27_2.eq_1) <|
  And.intro (hw_unf b27_3.eq_1) <|
  And.intro (hw_unf b27_4.eq_1) <|
  hw_unf b27_5.eq_1
def h27 : HFn :=
  ⟨48, [(.tmp 4)], (.seq (.region [
      ⟨(some 4), (.op (.mv (.cst (.int .i64 0)))), none⟩] []) (.seq (.seq b27_1 (.cond (.tmp 17) (.seq (.region [
        ⟨(some 4), (.op (.mv (.cst (.int .i64 61)))), none⟩] []) .ret) .skip)) b27_5))⟩
theorem c27 : cFn Try.prog [] Try.f27 = some h27 := by kernel_rfl
/-- (*stint/intake.Intake).Clone -/
def b28_1 : HCode :=
  (.seq (.region [
      ⟨(some 4), (.op (.mv (.tmp 0))), none⟩,
      ⟨(some 5), (.op (.nilc (.tmp 4))), none⟩,
      ⟨(some 6), (.op (.load (some 7) (.tmp 5))), none⟩,
      ⟨(some 3), (.op (.box (.cst (.agg [(.int .i64 0), (.int .i64 0), .nilSlice, (.int .i64 0), (.int .i64 0), (.bool false), (.bool false)])))), none⟩,
      ⟨none, (.op (.store 7 (.tmp 3) (.tmp 6))), none⟩] []) (.seq (.region [
      ⟨(some 7), (.op (.mv (.tmp 0))), none⟩,
      ⟨(some 8), (.op (.nilc (.tmp 7))), none⟩,
      ⟨(some 9), (.op (.faddr 2 (.tmp 8))), none⟩,
      ⟨(some 10), (.op (.load none (.tmp 9))), none⟩,
      ⟨(some 11), (.call (.cst (.func (.func 41) [] [])) [(.tmp 10)]), none⟩,
      ⟨(some 12), (.op (.faddr 2 (.tmp 3))), none⟩,
      ⟨none, (.op (.store 1 (.tmp 12) (.tmp 11))), none⟩] []) (.seq (.region [
      ⟨(some 2), (.op (.mv (.tmp 3))), none⟩] []) .ret)))
def ub28 :=
  hw_unf b28_1.eq_1
def h28 : HFn :=
  ⟨13, [(.tmp 2)], (.seq (.region [
      ⟨(some 2), (.op (.mv (.cst .nilPtr))), none⟩] []) b28_1)⟩
theorem c28 : cFn Try.prog [] Try.f28 = some h28 := by kernel_rfl
/-- stint/stintlaw06.same -/
def b33_1 : HCode :=
  (.draw [
            ⟨(some 16), (.op (.mv (.tmp 0))), none⟩,
            ⟨(some 17), (.op (.mv (.tmp 5))), none⟩,
            ⟨(some 18), (.op (.idxS 1 (.tmp 16) (.tmp 17))), none⟩,
            ⟨(some 19), (.op (.load none (.tmp 18))), none⟩,
            ⟨(some 20), (.op (.mv (.tmp 1))), none⟩,
            ⟨(some 21), (.op (.mv (.tmp 5))), none⟩,
            ⟨(some 22), (.op (.idxS 1 (.tmp 20) (.tmp 21))), none⟩,
            ⟨(some 23), (.op (.load none (.tmp 22))), none⟩,
            ⟨(some 24), (.op (.bin .neq (some .int) (.tmp 19) (.tmp 23))), none⟩] [0, 1, 2, 3, 4, 5, 6, 7, 8] [[], [], [], [], [], [], [], [], []] [])
def b33_2 : HCode :=
  (.seq (.region [
          ⟨(some 14), (.op (.bin .lss none (.tmp 13) (.tmp 12))), none⟩] []) (.seq (.cond (.tmp 14) .skip (.exit 0)) (.seq (.block 1 (.seq (.region [
            ⟨(some 15), (.op (.mv (.tmp 13))), none⟩,
            ⟨(some 5), (.op (.mv (.tmp 15))), none⟩] []) (.seq b33_1 (.cond (.tmp 24) (.seq (.region [
              ⟨(some 4), (.op (.mv (.cst (.bool false)))), none⟩] []) .ret) .skip)))) (.region [
          ⟨(some 25), (.op (.bin .add none (.tmp 13) (.cst (.int .i64 1)))), none⟩,
          ⟨(some 13), (.op (.mv (.tmp 25))), none⟩] []))))
def b33_3 : HCode :=
  (.seq (.seq (.region [
      ⟨(some 6), (.op (.mv (.tmp 0))), none⟩,
      ⟨(some 7), (.op (.len .slice (.tmp 6))), none⟩,
      ⟨(some 8), (.op (.mv (.tmp 1))), none⟩,
      ⟨(some 9), (.op (.len .slice (.tmp 8))), none⟩,
      ⟨(some 10), (.op (.bin .neq (some .int) (.tmp 7) (.tmp 9))), none⟩] []) (.cond (.tmp 10) (.seq (.region [
        ⟨(some 4), (.op (.mv (.cst (.bool false)))), none⟩] []) .ret) .skip)) (.seq (.seq (.region [
      ⟨(some 11), (.op (.mv (.tmp 0))), none⟩,
      ⟨(some 12), (.op (.len .slice (.tmp 11))), none⟩,
      ⟨(some 13), (.op (.mv (.cst (.int .i64 0)))), none⟩] []) (.block 0 (.loop b33_2))) (.seq (.region [
      ⟨(some 4), (.op (.mv (.cst (.bool true)))), none⟩] []) .ret)))
def ub33 :=
  And.intro (hw_unf b33_1.eq_1) <|
  And.intro (hw_unf b33_2.eq_1) <|
  hw_unf b33_3.eq_1
def h33 : HFn :=
  ⟨26, [(.tmp 4)], (.seq (.region [
      ⟨(some 4), (.op (.mv (.cst (.bool false)))), none⟩] []) b33_3)⟩
theorem c33 : cFn Try.prog [] Try.f33 = some h33 := by kernel_rfl
/-- (*stint/stintlaw06.book).keep -/
def b35_1 : HCode :=
  (.region [
      ⟨(some 4), (.op (.mv (.tmp 0))), none⟩,
      ⟨(some 5), (.op (.mv (.tmp 0))), none⟩,
      ⟨(some 6), (.op (.nilc (.tmp 5))), none⟩,
      ⟨(some 7), (.op (.faddr 0 (.tmp 6))), none⟩,
      ⟨(some 8), (.op (.load none (.tmp 7))), none⟩,
      ⟨(some 9), (.op (.mv (.tmp 1))), none⟩,
      ⟨(some 10), (.op (.bslice 1 1 [.nilSlice] [(0, 1, (.tmp 9))])), none⟩,
      ⟨(some 11), (.op (.append 1 24 (.tmp 8) (.tmp 10))), none⟩,
      ⟨(some 12), (.op (.nilc (.tmp 4))), none⟩,
      ⟨(some 13), (.op (.faddr 0 (.tmp 12))), none⟩,
      ⟨none, (.op (.store 1 (.tmp 13) (.tmp 11))), none⟩] [])
def b35_2 : HCode :=
  (.draw [
      ⟨(some 14), (.op (.mv (.tmp 0))), none⟩,
      ⟨(some 15), (.op (.mv (.tmp 0))), none⟩,
      ⟨(some 16), (.op (.nilc (.tmp 15))), none⟩,
      ⟨(some 17), (.op (.faddr 1 (.tmp 16))), none⟩,
      ⟨(some 18), (.op (.load none (.tmp 17))), none⟩,
      ⟨(some 19), (.op (.mv (.tmp 1))), none⟩,
      ⟨(some 20), (.op (.append 1 1 (.cst .nilSlice) (.tmp 19))), none⟩,
      ⟨(some 21), (.op (.bslice 1 1 [.nilSlice] [(0, 1, (.tmp 20))])), none⟩,
      ⟨(some 22), (.op (.append 1 24 (.tmp 18) (.tmp 21))), none⟩,
      ⟨(some 23), (.op (.nilc (.tmp 14))), none⟩,
      ⟨(some 24), (.op (.faddr 1 (.tmp 23))), none⟩,
      ⟨none, (.op (.store 1 (.tmp 24) (.tmp 22))), none⟩] [0, 1, 2, 3, 4, 5, 6, 7, 8, 9, 10, 11] [[], [], [], [], [], [], [], [], [4], [], [], [4]] [])
def ub35 :=
  And.intro (hw_unf b35_1.eq_1) <|
  hw_unf b35_2.eq_1
def h35 : HFn :=
  ⟨25, [], (.seq b35_1 b35_2)⟩
theorem c35 : cFn Try.prog [] Try.f35 = some h35 := by kernel_rfl
/-- (*stint/intake.Intake).skipLine -/
def b36_1 : HCode :=
  (.seq (.region [
              ⟨(some 22), (.op (.mv (.tmp 0))), none⟩,
              ⟨(some 23), (.op (.nilc (.tmp 22))), none⟩,
              ⟨(some 24), (.op (.faddr 6 (.tmp 23))), none⟩,
              ⟨none, (.op (.store 1 (.tmp 24) (.cst (.bool true)))), none⟩] []) (.seq (.region [
              ⟨(some 25), (.op (.mv (.tmp 1))), none⟩,
              ⟨(some 26), (.op (.mv (.tmp 5))), none⟩,
              ⟨(some 27), (.op (.bin .add none (.tmp 26) (.cst (.int .i64 1)))), none⟩,
              ⟨(some 28), (.op (.sliceSl 1 (.tmp 25) (some (.tmp 27)) none none)), none⟩,
              ⟨(some 4), (.op (.mv (.tmp 28))), none⟩] []) .ret))
def b36_2 : HCode :=
  (.region [
            ⟨(some 14), (.op (.mv (.tmp 0))), none⟩,
            ⟨(some 15), (.op (.nilc (.tmp 14))), none⟩,
            ⟨(some 16), (.op (.faddr 5 (.tmp 15))), none⟩,
            ⟨(some 17), (.op (.load none (.tmp 16))), none⟩,
            ⟨(some 18), (.op (.mv (.tmp 17))), none⟩,
            ⟨(some 19), (.op (.mv (.tmp 6))), (some (18, true))⟩,
            ⟨(some 20), (.op (.bin .eql (some .int) (.tmp 19) (.cst (.int .u8 10)))), (some (18, true))⟩,
            ⟨(some 21), (.op (.pick (.tmp 18) (.tmp 20) (.cst (.bool false)))), none⟩] [])
def b36_3 : HCode :=
  (.seq (.region [
            ⟨(some 11), (.op (.mv (.tmp 9))), none⟩,
            ⟨(some 12), (.op (.idxS 1 (.tmp 7) (.tmp 9))), none⟩,
            ⟨(some 13), (.op (.load none (.tmp 12))), none⟩,
            ⟨(some 5), (.op (.mv (.tmp 11))), none⟩,
            ⟨(some 6), (.op (.mv (.tmp 13))), none⟩] []) (.seq (.seq b36_2 (.cond (.tmp 21) b36_1 .skip)) (.region [
            ⟨(some 29), (.op (.mv (.tmp 0))), none⟩,
            ⟨(some 30), (.op (.mv (.tmp 6))), none⟩,
            ⟨(some 31), (.op (.bin .eql (some .int) (.tmp 30) (.cst (.int .u8 13)))), none⟩,
            ⟨(some 32), (.op (.nilc (.tmp 29))), none⟩,
            ⟨(some 33), (.op (.faddr 5 (.tmp 32))), none⟩,
            ⟨none, (.op (.store 1 (.tmp 33) (.tmp 31))), none⟩] [])))
def b36_4 : HCode :=
  (.seq (.region [
      ⟨(some 7), (.op (.mv (.tmp 1))), none⟩,
      ⟨(some 8), (.op (.len .slice (.tmp 7))), none⟩,
      ⟨(some 9), (.op (.mv (.cst (.int .i64 0)))), none⟩] []) (.block 0 (.loop (.seq (.region [
          ⟨(some 10), (.op (.bin .lss none (.tmp 9) (.tmp 8))), none⟩] []) (.seq (.cond (.tmp 10) .skip (.exit 0)) (.seq (.block 1 b36_3) (.region [
          ⟨(some 34), (.op (.bin .add none (.tmp 9) (.cst (.int .i64 1)))), none⟩,
          ⟨(some 9), (.op (.mv (.tmp 34))), none⟩] [])))))))
def ub36 :=
  And.intro (hw_unf b36_1.eq_1) <|
  And.intro (hw_unf b36_2.eq_1) <|
  And.intro (hw_unf b36_3.eq_1) <|
  hw_unf b36_4.eq_1
def h36 : HFn :=
  ⟨35, [(.tmp 4)], (.seq (.region [
      ⟨(some 4), (.op (.mv (.cst .nilSlice))), none⟩] []) (.seq b36_4 (.seq (.region [
      ⟨(some 4), (.op (.mv (.cst .nilSlice))), none⟩] []) .ret)))⟩
theorem c36 : cFn Try.prog [] Try.f36 = some h36 := by kernel_rfl
/-- (*stint/intake.Intake).skipBody -/
def b37_1 : HCode :=
  (.seq (.region [
      ⟨(some 13), (.op (.mv (.tmp 0))), none⟩,
      ⟨(some 14), (.op (.nilc (.tmp 13))), none⟩,
      ⟨(some 15), (.op (.faddr 4 (.tmp 14))), none⟩,
      ⟨(some 16), (.op (.load none (.tmp 15))), none⟩,
      ⟨(some 17), (.op (.mv (.tmp 5))), none⟩,
      ⟨(some 18), (.op (.bin .sub none (.tmp 16) (.tmp 17))), none⟩,
      ⟨(some 19), (.op (.nilc (.tmp 13))), none⟩,
      ⟨(some 20), (.op (.faddr 4 (.tmp 19))), none⟩,
      ⟨none, (.op (.store 1 (.tmp 20) (.tmp 18))), none⟩] []) (.seq (.region [
      ⟨(some 21), (.op (.mv (.tmp 1))), none⟩,
      ⟨(some 22), (.op (.mv (.tmp 5))), none⟩,
      ⟨(some 23), (.op (.sliceSl 1 (.tmp 21) (some (.tmp 22)) none none)), none⟩,
      ⟨(some 4), (.op (.mv (.tmp 23))), none⟩] []) .ret))
def ub37 :=
  hw_unf b37_1.eq_1
def h37 : HFn :=
  ⟨24, [(.tmp 4)], (.seq (.region [
      ⟨(some 4), (.op (.mv (.cst .nilSlice))), none⟩] []) (.seq (.region [
      ⟨(some 6), (.op (.mv (.tmp 0))), none⟩,
      ⟨(some 7), (.op (.nilc (.tmp 6))), none⟩,
      ⟨(some 8), (.op (.faddr 4 (.tmp 7))), none⟩,
      ⟨(some 9), (.op (.load none (.tmp 8))), none⟩,
      ⟨(some 10), (.op (.mv (.tmp 1))), none⟩,
      ⟨(some 11), (.op (.len .slice (.tmp 10))), none⟩,
      ⟨(some 12), (.op (.minmax true [(.tmp 9), (.tmp 11)])), none⟩,
      ⟨(some 5), (.op (.mv (.tmp 12))), none⟩] []) b37_1))⟩
theorem c37 : cFn Try.prog [] Try.f37 = some h37 := by kernel_rfl
/-- bytes.Index -/
def b38_1 : HCode :=
  (.region [
                          ⟨(some 76), (.op (.mv (.tmp 0))), none⟩,
                          ⟨(some 77), (.op (.mv (.tmp 8))), none⟩,
                          ⟨(some 78), (.op (.bin .add none (.tmp 77) (.cst (.int .i64 1)))), none⟩,
                          ⟨(some 79), (.op (.mv (.tmp 9))), none⟩,
                          ⟨(some 80), (.op (.sliceSl 1 (.tmp 76) (some (.tmp 78)) (some (.tmp 79)) none)), none⟩,
                          ⟨(some 81), (.op (.mv (.tmp 6))), none⟩,
                          ⟨(some 82), (.call (.cst (.func (.func 47) [] [])) [(.tmp 80), (.tmp 81)]), none⟩,
                          ⟨(some 11), (.op (.mv (.tmp 82))), none⟩] [])
def b38_2 : HCode :=
  (.seq (.seq (.region [
                          ⟨(some 83), (.op (.mv (.tmp 11))), none⟩,
                          ⟨(some 84), (.op (.bin .lss none (.tmp 83) (.cst (.int .i64 0)))), none⟩] []) (.cond (.tmp 84) (.seq (.region [
                            ⟨(some 4), (.op (.mv (.cst (.int .i64 (-1))))), none⟩] []) .ret) .skip)) (.region [
                          ⟨(some 85), (.op (.mv (.tmp 8))), none⟩,
                          ⟨(some 86), (.op (.mv (.tmp 11))), none⟩,
                          ⟨(some 87), (.op (.bin .add none (.tmp 86) (.cst (.int .i64 1)))), none⟩,
                          ⟨(some 88), (.op (.bin .add none (.tmp 85) (.tmp 87))), none⟩,
                          ⟨(some 8), (.op (.mv (.tmp 88))), none⟩] []))
def b38_3 : HCode :=
  (.region [
                        ⟨(some 89), (.op (.mv (.tmp 0))), none⟩,
                        ⟨(some 90), (.op (.mv (.tmp 8))), none⟩,
                        ⟨(some 91), (.op (.bin .add none (.tmp 90) (.cst (.int .i64 1)))), none⟩,
                        ⟨(some 92), (.op (.idxS 1 (.tmp 89) (.tmp 91))), none⟩,
                        ⟨(some 93), (.op (.load none (.tmp 92))), none⟩,
                        ⟨(some 94), (.op (.mv (.tmp 7))), none⟩,
                        ⟨(some 95), (.op (.bin .eql (some .int) (.tmp 93) (.tmp 94))), none⟩,
                        ⟨(some 96), (.op (.mv (.tmp 95))), none⟩,
                        ⟨(some 97), (.op (.mv (.tmp 0))), (some (96, true))⟩,
                        ⟨(some 98), (.op (.mv (.tmp 8))), (some (96, true))⟩,
                        ⟨(some 99), (.op (.mv (.tmp 8))), (some (96, true))⟩,
                        ⟨(some 100), (.op (.mv (.tmp 5))), (some (96, true))⟩,
                        ⟨(some 101), (.op (.bin .add none (.tmp 99) (.tmp 100))), (some (96, true))⟩,
                        ⟨(some 102), (.op (.sliceSl 1 (.tmp 97) (some (.tmp 98)) (some (.tmp 101)) none)), (some (96, true))⟩,
                        ⟨(some 103), (.op (.mv (.tmp 1))), (some (96, true))⟩,
                        ⟨(some 104), (.call (.cst (.func (.func 48) [] [])) [(.tmp 102), (.tmp 103)]), (some (96, true))⟩,
                        ⟨(some 105), (.op (.pick (.tmp 96) (.tmp 104) (.cst (.bool false)))), none⟩] [])
def b38_4 : HCode :=
  (.seq (.region [
                          ⟨(some 120), (.op (.mv (.tmp 12))), none⟩,
                          ⟨(some 121), (.op (.bin .geq none (.tmp 120) (.cst (.int .i64 0)))), none⟩] []) (.cond (.tmp 121) (.seq (.region [
                            ⟨(some 122), (.op (.mv (.tmp 12))), none⟩,
                            ⟨(some 123), (.op (.mv (.tmp 8))), none⟩,
                            ⟨(some 124), (.op (.bin .add none (.tmp 122) (.tmp 123))), none⟩,
                            ⟨(some 4), (.op (.mv (.tmp 124))), none⟩] []) .ret) .skip))
def b38_5 : HCode :=
  (.region [
                          ⟨(some 115), (.op (.mv (.tmp 0))), none⟩,
                          ⟨(some 116), (.op (.mv (.tmp 8))), none⟩,
                          ⟨(some 117), (.op (.sliceSl 1 (.tmp 115) (some (.tmp 116)) none none)), none⟩,
                          ⟨(some 118), (.op (.mv (.tmp 1))), none⟩,
                          ⟨(some 119), (.call (.cst (.func (.func 49) [] [])) [(.tmp 117), (.tmp 118)]), none⟩,
                          ⟨(some 12), (.op (.mv (.tmp 119))), none⟩] [])
def b38_6 : HCode :=
  (.seq (.region [
                        ⟨(some 111), (.op (.mv (.tmp 10))), none⟩,
                        ⟨(some 112), (.op (.mv (.tmp 8))), none⟩,
                        ⟨(some 113), (.call (.cst (.func (.func 50) [] [])) [(.tmp 112)]), none⟩,
                        ⟨(some 114), (.op (.bin .gtr none (.tmp 111) (.tmp 113))), none⟩] []) (.cond (.tmp 114) (.seq b38_5 (.seq b38_4 (.seq (.region [
                          ⟨(some 4), (.op (.mv (.cst (.int .i64 (-1))))), none⟩] []) .ret))) .skip))
def b38_7 : HCode :=
  (.seq (.region [
                        ⟨(some 107), (.op (.mv (.tmp 10))), none⟩,
                        ⟨(some 108), (.op (.bin .add none (.tmp 107) (.cst (.int .i64 1)))), none⟩,
                        ⟨(some 10), (.op (.mv (.tmp 108))), none⟩] []) (.seq (.region [
                        ⟨(some 109), (.op (.mv (.tmp 8))), none⟩,
                        ⟨(some 110), (.op (.bin .add none (.tmp 109) (.cst (.int .i64 1)))), none⟩,
                        ⟨(some 8), (.op (.mv (.tmp 110))), none⟩] []) b38_6))
def b38_8 : HCode :=
  (.seq (.region [
                        ⟨(some 70), (.op (.mv (.tmp 0))), none⟩,
                        ⟨(some 71), (.op (.mv (.tmp 8))), none⟩,
                        ⟨(some 72), (.op (.idxS 1 (.tmp 70) (.tmp 71))), none⟩,
                        ⟨(some 73), (.op (.load none (.tmp 72))), none⟩,
                        ⟨(some 74), (.op (.mv (.tmp 6))), none⟩,
                        ⟨(some 75), (.op (.bin .neq (some .int) (.tmp 73) (.tmp 74))), none⟩] []) (.cond (.tmp 75) (.seq b38_1 b38_2) .skip))
def b38_9 : HCode :=
  (.seq (.seq (.region [
                      ⟨(some 67), (.op (.mv (.tmp 8))), none⟩,
                      ⟨(some 68), (.op (.mv (.tmp 9))), none⟩,
                      ⟨(some 69), (.op (.bin .lss none (.tmp 67) (.tmp 68))), none⟩] []) (.cond (.tmp 69) .skip (.exit 1))) (.block 2 (.seq b38_8 (.seq (.seq b38_3 (.cond (.tmp 105) (.seq (.region [
                          ⟨(some 106), (.op (.mv (.tmp 8))), none⟩,
                          ⟨(some 4), (.op (.mv (.tmp 106))), none⟩] []) .ret) .skip)) b38_7))))
def b38_10 : HCode :=
  (.seq (.region [
                  ⟨(some 62), (.op (.mv (.tmp 0))), none⟩,
                  ⟨(some 63), (.op (.len .slice (.tmp 62))), none⟩,
                  ⟨(some 64), (.op (.mv (.tmp 5))), none⟩,
                  ⟨(some 65), (.op (.bin .sub none (.tmp 63) (.tmp 64))), none⟩,
                  ⟨(some 66), (.op (.bin .add none (.tmp 65) (.cst (.int .i64 1)))), none⟩,
                  ⟨(some 9), (.op (.mv (.tmp 66))), none⟩] []) (.seq (.region [
                  ⟨(some 10), (.op (.mv (.cst (.int .i64 0)))), none⟩] []) (.seq (.block 1 (.loop b38_9)) (.seq (.region [
                  ⟨(some 4), (.op (.mv (.cst (.int .i64 (-1))))), none⟩] []) .ret))))
def b38_11 : HCode :=
  (.seq (.region [
                  ⟨(some 50), (.op (.mv (.tmp 0))), none⟩,
                  ⟨(some 51), (.op (.len .slice (.tmp 50))), none⟩,
                  ⟨(some 52), (.op (.bin .leq none (.tmp 51) (.cst (.int .i64 64)))), none⟩] []) (.cond (.tmp 52) (.seq (.region [
                    ⟨(some 53), (.op (.mv (.tmp 0))), none⟩,
                    ⟨(some 54), (.op (.mv (.tmp 1))), none⟩,
                    ⟨(some 55), (.call (.cst (.func (.func 49) [] [])) [(.tmp 53), (.tmp 54)]), none⟩,
                    ⟨(some 4), (.op (.mv (.tmp 55))), none⟩] []) .ret) .skip))
def b38_12 : HCode :=
  (.seq (.region [
                  ⟨(some 56), (.op (.mv (.tmp 1))), none⟩,
                  ⟨(some 57), (.op (.idxS 1 (.tmp 56) (.cst (.int .i64 0)))), none⟩,
                  ⟨(some 58), (.op (.load none (.tmp 57))), none⟩,
                  ⟨(some 6), (.op (.mv (.tmp 58))), none⟩] []) (.seq (.region [
                  ⟨(some 59), (.op (.mv (.tmp 1))), none⟩,
                  ⟨(some 60), (.op (.idxS 1 (.tmp 59) (.cst (.int .i64 1)))), none⟩,
                  ⟨(some 61), (.op (.load none (.tmp 60))), none⟩,
                  ⟨(some 7), (.op (.mv (.tmp 61))), none⟩] []) (.seq (.region [
                  ⟨(some 8), (.op (.mv (.cst (.int .i64 0)))), none⟩] []) b38_10)))
def b38_13 : HCode :=
  (.seq (.region [
              ⟨(some 42), (.op (.mv (.tmp 5))), none⟩,
              ⟨(some 43), (.op (.mv (.tmp 0))), none⟩,
              ⟨(some 44), (.op (.len .slice (.tmp 43))), none⟩,
              ⟨(some 45), (.op (.bin .gtr none (.tmp 42) (.tmp 44))), none⟩,
              ⟨(some 41), (.op (.mv (.tmp 45))), none⟩] []) (.cond (.tmp 41) (.seq (.region [
                ⟨(some 4), (.op (.mv (.cst (.int .i64 (-1))))), none⟩] []) .ret) (.seq (.region [
                ⟨(some 47), (.op (.mv (.tmp 5))), none⟩,
                ⟨(some 48), (.op (.gload none 0)), none⟩,
                ⟨(some 49), (.op (.bin .leq none (.tmp 47) (.tmp 48))), none⟩,
                ⟨(some 46), (.op (.mv (.tmp 49))), none⟩] []) (.cond (.tmp 46) (.seq b38_11 b38_12) .skip))))
def b38_14 : HCode :=
  (.seq (.region [
            ⟨(some 34), (.op (.mv (.tmp 5))), none⟩,
            ⟨(some 35), (.op (.mv (.tmp 0))), none⟩,
            ⟨(some 36), (.op (.len .slice (.tmp 35))), none⟩,
            ⟨(some 37), (.op (.bin .eql (some .int) (.tmp 34) (.tmp 36))), none⟩,
            ⟨(some 33), (.op (.mv (.tmp 37))), none⟩] []) (.cond (.tmp 33) (.seq (.seq (.region [
              ⟨(some 38), (.op (.mv (.tmp 1))), none⟩,
              ⟨(some 39), (.op (.mv (.tmp 0))), none⟩,
              ⟨(some 40), (.call (.cst (.func (.func 48) [] [])) [(.tmp 38), (.tmp 39)]), none⟩] []) (.cond (.tmp 40) (.seq (.region [
                ⟨(some 4), (.op (.mv (.cst (.int .i64 0)))), none⟩] []) .ret) .skip)) (.seq (.region [
              ⟨(some 4), (.op (.mv (.cst (.int .i64 (-1))))), none⟩] []) .ret)) b38_13))
def b38_15 : HCode :=
  (.seq (.region [
          ⟨(some 26), (.op (.mv (.tmp 5))), none⟩,
          ⟨(some 27), (.op (.bin .eql (some .int) (.tmp 26) (.cst (.int .i64 1)))), none⟩,
          ⟨(some 25), (.op (.mv (.tmp 27))), none⟩] []) (.cond (.tmp 25) (.seq (.region [
            ⟨(some 28), (.op (.mv (.tmp 0))), none⟩,
            ⟨(some 29), (.op (.mv (.tmp 1))), none⟩,
            ⟨(some 30), (.op (.idxS 1 (.tmp 29) (.cst (.int .i64 0)))), none⟩,
            ⟨(some 31), (.op (.load none (.tmp 30))), none⟩,
            ⟨(some 32), (.call (.cst (.func (.func 47) [] [])) [(.tmp 28), (.tmp 31)]), none⟩,
            ⟨(some 4), (.op (.mv (.tmp 32))), none⟩] []) .ret) b38_14))
def b38_16 : HCode :=
  (.region [
              ⟨(some 145), (.op (.mv (.tmp 0))), none⟩,
              ⟨(some 146), (.op (.mv (.tmp 15))), none⟩,
              ⟨(some 147), (.op (.bin .add none (.tmp 146) (.cst (.int .i64 1)))), none⟩,
              ⟨(some 148), (.op (.mv (.tmp 17))), none⟩,
              ⟨(some 149), (.op (.sliceSl 1 (.tmp 145) (some (.tmp 147)) (some (.tmp 148)) none)), none⟩,
              ⟨(some 150), (.op (.mv (.tmp 13))), none⟩,
              ⟨(some 151), (.call (.cst (.func (.func 47) [] [])) [(.tmp 149), (.tmp 150)]), none⟩,
              ⟨(some 18), (.op (.mv (.tmp 151))), none⟩] [])
def b38_17 : HCode :=
  (.seq (.seq (.region [
              ⟨(some 152), (.op (.mv (.tmp 18))), none⟩,
              ⟨(some 153), (.op (.bin .lss none (.tmp 152) (.cst (.int .i64 0)))), none⟩] []) (.cond (.tmp 153) (.exit 3) .skip)) (.region [
              ⟨(some 154), (.op (.mv (.tmp 15))), none⟩,
              ⟨(some 155), (.op (.mv (.tmp 18))), none⟩,
              ⟨(some 156), (.op (.bin .add none (.tmp 155) (.cst (.int .i64 1)))), none⟩,
              ⟨(some 157), (.op (.bin .add none (.tmp 154) (.tmp 156))), none⟩,
              ⟨(some 15), (.op (.mv (.tmp 157))), none⟩] []))
def b38_18 : HCode :=
  (.region [
            ⟨(some 158), (.op (.mv (.tmp 0))), none⟩,
            ⟨(some 159), (.op (.mv (.tmp 15))), none⟩,
            ⟨(some 160), (.op (.bin .add none (.tmp 159) (.cst (.int .i64 1)))), none⟩,
            ⟨(some 161), (.op (.idxS 1 (.tmp 158) (.tmp 160))), none⟩,
            ⟨(some 162), (.op (.load none (.tmp 161))), none⟩,
            ⟨(some 163), (.op (.mv (.tmp 14))), none⟩,
            ⟨(some 164), (.op (.bin .eql (some .int) (.tmp 162) (.tmp 163))), none⟩,
            ⟨(some 165), (.op (.mv (.tmp 164))), none⟩,
            ⟨(some 166), (.op (.mv (.tmp 0))), (some (165, true))⟩,
            ⟨(some 167), (.op (.mv (.tmp 15))), (some (165, true))⟩,
            ⟨(some 168), (.op (.mv (.tmp 15))), (some (165, true))⟩,
            ⟨(some 169), (.op (.mv (.tmp 5))), (some (165, true))⟩,
            ⟨(some 170), (.op (.bin .add none (.tmp 168) (.tmp 169))), (some (165, true))⟩,
            ⟨(some 171), (.op (.sliceSl 1 (.tmp 166) (some (.tmp 167)) (some (.tmp 170)) none)), (some (165, true))⟩,
            ⟨(some 172), (.op (.mv (.tmp 1))), (some (165, true))⟩,
            ⟨(some 173), (.call (.cst (.func (.func 48) [] [])) [(.tmp 171), (.tmp 172)]), (some (165, true))⟩,
            ⟨(some 174), (.op (.pick (.tmp 165) (.tmp 173) (.cst (.bool false)))), none⟩] [])
def b38_19 : HCode :=
  (.seq (.seq (.region [
              ⟨(some 195), (.op (.mv (.tmp 19))), none⟩,
              ⟨(some 196), (.op (.bin .lss none (.tmp 195) (.cst (.int .i64 0)))), none⟩] []) (.cond (.tmp 196) (.seq (.region [
                ⟨(some 4), (.op (.mv (.cst (.int .i64 (-1))))), none⟩] []) .ret) .skip)) (.seq (.region [
              ⟨(some 197), (.op (.mv (.tmp 15))), none⟩,
              ⟨(some 198), (.op (.mv (.tmp 19))), none⟩,
              ⟨(some 199), (.op (.bin .add none (.tmp 197) (.tmp 198))), none⟩,
              ⟨(some 4), (.op (.mv (.tmp 199))), none⟩] []) .ret))
def b38_20 : HCode :=
  (.region [
            ⟨(some 180), (.op (.mv (.tmp 16))), none⟩,
            ⟨(some 181), (.op (.mv (.tmp 15))), none⟩,
            ⟨(some 182), (.op (.bin .shr none (.tmp 181) (.cst (.int .u64 4)))), none⟩,
            ⟨(some 183), (.op (.bin .add none (.cst (.int .i64 4)) (.tmp 182))), none⟩,
            ⟨(some 184), (.op (.bin .geq none (.tmp 180) (.tmp 183))), none⟩,
            ⟨(some 185), (.op (.mv (.tmp 184))), none⟩,
            ⟨(some 186), (.op (.mv (.tmp 15))), (some (185, true))⟩,
            ⟨(some 187), (.op (.mv (.tmp 17))), (some (185, true))⟩,
            ⟨(some 188), (.op (.bin .lss none (.tmp 186) (.tmp 187))), (some (185, true))⟩,
            ⟨(some 189), (.op (.pick (.tmp 185) (.tmp 188) (.cst (.bool false)))), none⟩] [])
def b38_21 : HCode :=
  (.seq (.region [
            ⟨(some 178), (.op (.mv (.tmp 16))), none⟩,
            ⟨(some 179), (.op (.bin .add none (.tmp 178) (.cst (.int .i64 1)))), none⟩,
            ⟨(some 16), (.op (.mv (.tmp 179))), none⟩] []) (.seq b38_20 (.cond (.tmp 189) (.seq (.region [
              ⟨(some 190), (.op (.mv (.tmp 0))), none⟩,
              ⟨(some 191), (.op (.mv (.tmp 15))), none⟩,
              ⟨(some 192), (.op (.sliceSl 1 (.tmp 190) (some (.tmp 191)) none none)), none⟩,
              ⟨(some 193), (.op (.mv (.tmp 1))), none⟩,
              ⟨(some 194), (.call (.cst (.func (.func 51) [] [])) [(.tmp 192), (.tmp 193)]), none⟩,
              ⟨(some 19), (.op (.mv (.tmp 194))), none⟩] []) b38_19) .skip)))
def b38_22 : HCode :=
  (.seq (.seq (.region [
            ⟨(some 139), (.op (.mv (.tmp 0))), none⟩,
            ⟨(some 140), (.op (.mv (.tmp 15))), none⟩,
            ⟨(some 141), (.op (.idxS 1 (.tmp 139) (.tmp 140))), none⟩,
            ⟨(some 142), (.op (.load none (.tmp 141))), none⟩,
            ⟨(some 143), (.op (.mv (.tmp 13))), none⟩,
            ⟨(some 144), (.op (.bin .neq (some .int) (.tmp 142) (.tmp 143))), none⟩] []) (.cond (.tmp 144) (.seq b38_16 b38_17) .skip)) (.seq (.seq b38_18 (.cond (.tmp 174) (.seq (.region [
              ⟨(some 175), (.op (.mv (.tmp 15))), none⟩,
              ⟨(some 4), (.op (.mv (.tmp 175))), none⟩] []) .ret) .skip)) (.seq (.region [
            ⟨(some 176), (.op (.mv (.tmp 15))), none⟩,
            ⟨(some 177), (.op (.bin .add none (.tmp 176) (.cst (.int .i64 1)))), none⟩,
            ⟨(some 15), (.op (.mv (.tmp 177))), none⟩] []) b38_21)))
def b38_23 : HCode :=
  (.seq (.region [
      ⟨(some 131), (.op (.mv (.tmp 0))), none⟩,
      ⟨(some 132), (.op (.len .slice (.tmp 131))), none⟩,
      ⟨(some 133), (.op (.mv (.tmp 5))), none⟩,
      ⟨(some 134), (.op (.bin .sub none (.tmp 132) (.tmp 133))), none⟩,
      ⟨(some 135), (.op (.bin .add none (.tmp 134) (.cst (.int .i64 1)))), none⟩,
      ⟨(some 17), (.op (.mv (.tmp 135))), none⟩] []) (.seq (.block 3 (.loop (.seq (.seq (.region [
          ⟨(some 136), (.op (.mv (.tmp 15))), none⟩,
          ⟨(some 137), (.op (.mv (.tmp 17))), none⟩,
          ⟨(some 138), (.op (.bin .lss none (.tmp 136) (.tmp 137))), none⟩] []) (.cond (.tmp 138) .skip (.exit 3))) (.block 4 b38_22)))) (.seq (.region [
      ⟨(some 4), (.op (.mv (.cst (.int .i64 (-1))))), none⟩] []) .ret)))
def b38_24 : HCode :=
  (.seq (.region [
      ⟨(some 125), (.op (.mv (.tmp 1))), none⟩,
      ⟨(some 126), (.op (.idxS 1 (.tmp 125) (.cst (.int .i64 0)))), none⟩,
      ⟨(some 127), (.op (.load none (.tmp 126))), none⟩,
      ⟨(some 13), (.op (.mv (.tmp 127))), none⟩] []) (.seq (.region [
      ⟨(some 128), (.op (.mv (.tmp 1))), none⟩,
      ⟨(some 129), (.op (.idxS 1 (.tmp 128) (.cst (.int .i64 1)))), none⟩,
      ⟨(some 130), (.op (.load none (.tmp 129))), none⟩,
      ⟨(some 14), (.op (.mv (.tmp 130))), none⟩] []) (.seq (.region [
      ⟨(some 15), (.op (.mv (.cst (.int .i64 0)))), none⟩] []) (.seq (.region [
      ⟨(some 16), (.op (.mv (.cst (.int .i64 0)))), none⟩] []) b38_23))))
def b38_25 : HCode :=
  (.seq (.region [
      ⟨(some 20), (.op (.mv (.tmp 1))), none⟩,
      ⟨(some 21), (.op (.len .slice (.tmp 20))), none⟩,
      ⟨(some 5), (.op (.mv (.tmp 21))), none⟩] []) (.seq (.block 0 (.seq (.region [
        ⟨(some 23), (.op (.mv (.tmp 5))), none⟩,
        ⟨(some 24), (.op (.bin .eql (some .int) (.tmp 23) (.cst (.int .i64 0)))), none⟩,
        ⟨(some 22), (.op (.mv (.tmp 24))), none⟩] []) (.cond (.tmp 22) (.seq (.region [
          ⟨(some 4), (.op (.mv (.cst (.int .i64 0)))), none⟩] []) .ret) b38_15))) b38_24))
def ub38 :=
  And.intro (hw_unf b38_1.eq_1) <|
  And.intro (hw_unf b38_2.eq_1) <|
  And.intro (hw_unf b38_3.eq_1) <|
  And.intro (hw_unf b38_4.eq_1) <|
  And.intro (hw_unf b38_5.eq_1) <|
  And.intro (hw_unf b38_6.eq_1) <|
  And.intro (hw_unf b38_7.eq_1) <|
  And.intro (hw_unf b38_8.eq_1) <|
  And.intro (hw_unf b38_9.eq_1) <|
  And.intro (hw_unf b38_10.eq_1) <|
  And.intro (hw_unf b38_11.eq_1) <|
  And.intro (hw_unf b38_12.eq_1) <|
  And.intro (hw_unf b38_13.eq_1) <|
  And.intro (hw_unf b38_14.eq_1) <|
  And.intro (hw_unf b38_15.eq_1) <|
  And.intro (hw_unf b38_16.eq_1) <|
  And.intro (hw_unf b38_17.eq_1) <|
  And.intro (hw_unf b38_18.eq_1) <|
  And.intro (hw_unf b38_19.eq_1) <|
  And.intro (hw_unf b38_20.eq_1) <|
  And.intro (hw_unf b38_21.eq_1) <|
  And.intro (hw_unf b38_22.eq_1) <|
  And.intro (hw_unf b38_23.eq_1) <|
  And.intro (hw_unf b38_24.eq_1) <|
  hw_unf b38_25.eq_1
def h38 : HFn :=
  ⟨200, [(.tmp 4)], (.seq (.region [
      ⟨(some 4), (.op (.mv (.cst (.int .i64 0)))), none⟩] []) b38_25)⟩
theorem c38 : cFn Try.prog [] Try.f38 = some h38 := by kernel_rfl
/-- (*stint/intake.Intake).take -/
def b39_1 : HCode :=
  (.region [
      ⟨(some 12), (.op (.mv (.tmp 0))), none⟩,
      ⟨(some 13), (.op (.mv (.tmp 0))), none⟩,
      ⟨(some 14), (.op (.nilc (.tmp 13))), none⟩,
      ⟨(some 15), (.op (.faddr 2 (.tmp 14))), none⟩,
      ⟨(some 16), (.op (.load none (.tmp 15))), none⟩,
      ⟨(some 17), (.op (.mv (.tmp 1))), none⟩,
      ⟨(some 18), (.op (.sliceSl 1 (.tmp 16) (some (.tmp 17)) none none)), none⟩,
      ⟨(some 19), (.op (.nilc (.tmp 12))), none⟩,
      ⟨(some 20), (.op (.faddr 2 (.tmp 19))), none⟩,
      ⟨none, (.op (.store 1 (.tmp 20) (.tmp 18))), none⟩] [])
def b39_2 : HCode :=
  (.seq (.region [
      ⟨(some 6), (.op (.mv (.tmp 0))), none⟩,
      ⟨(some 7), (.op (.nilc (.tmp 6))), none⟩,
      ⟨(some 8), (.op (.faddr 2 (.tmp 7))), none⟩,
      ⟨(some 9), (.op (.load none (.tmp 8))), none⟩,
      ⟨(some 10), (.op (.mv (.tmp 1))), none⟩,
      ⟨(some 11), (.op (.sliceSl 1 (.tmp 9) none (some (.tmp 10)) none)), none⟩,
      ⟨(some 5), (.op (.mv (.tmp 11))), none⟩] []) (.seq b39_1 (.seq (.region [
      ⟨(some 21), (.op (.mv (.tmp 5))), none⟩,
      ⟨(some 4), (.op (.mv (.tmp 21))), none⟩] []) .ret)))
def ub39 :=
  And.intro (hw_unf b39_1.eq_1) <|
  hw_unf b39_2.eq_1
def h39 : HFn :=
  ⟨22, [(.tmp 4)], (.seq (.region [
      ⟨(some 4), (.op (.mv (.cst .nilSlice))), none⟩] []) b39_2)⟩
theorem c39 : cFn Try.prog [] Try.f39 = some h39 := by kernel_rfl
/-- stint/intake.body -/
def b40_1 : HCode :=
  (.region [
      ⟨(some 7), (.op (.mv (.tmp 0))), none⟩,
      ⟨(some 8), (.op (.mv (.tmp 3))), none⟩,
      ⟨(some 9), (.op (.idxS 1 (.tmp 7) (.tmp 8))), none⟩,
      ⟨(some 10), (.op (.load none (.tmp 9))), none⟩,
      ⟨(some 11), (.op (.bin .neq (some .int) (.tmp 10) (.cst (.int .u8 13)))), none⟩,
      ⟨(some 12), (.op (.mv (.tmp 11))), none⟩,
      ⟨(some 13), (.op (.mv (.tmp 0))), (some (12, false))⟩,
      ⟨(some 14), (.op (.mv (.tmp 3))), (some (12, false))⟩,
      ⟨(some 15), (.op (.bin .add none (.tmp 14) (.cst (.int .i64 1)))), (some (12, false))⟩,
      ⟨(some 16), (.op (.idxS 1 (.tmp 13) (.tmp 15))), (some (12, false))⟩,
      ⟨(some 17), (.op (.load none (.tmp 16))), (some (12, false))⟩,
      ⟨(some 18), (.op (.bin .neq (some .int) (.tmp 17) (.cst (.int .u8 10)))), (some (12, false))⟩,
      ⟨(some 19), (.op (.pick (.tmp 12) (.cst (.bool true)) (.tmp 18))), none⟩] [])
def b40_2 : HCode :=
  (.seq (.seq b40_1 (.cond (.tmp 19) (.seq (.region [
        ⟨(some 20), (.op (.build [(.int .i64 0), (.str []), .nilSlice] [(0, 1, (.cst (.int .i64 5)))])), none⟩,
        ⟨none, (.op (.store 3 (.tmp 2) (.tmp 20))), none⟩] []) .ret) .skip)) (.seq (.region [
      ⟨(some 21), (.op (.mv (.tmp 0))), none⟩,
      ⟨(some 22), (.op (.mv (.tmp 3))), none⟩,
      ⟨(some 23), (.op (.sliceSl 1 (.tmp 21) none (some (.tmp 22)) none)), none⟩,
      ⟨(some 24), (.call (.cst (.func (.func 41) [] [])) [(.tmp 23)]), none⟩,
      ⟨(some 25), (.op (.build [(.int .i64 0), (.str []), .nilSlice] [(0, 1, (.cst (.int .i64 3))), (2, 1, (.tmp 24))])), none⟩,
      ⟨none, (.op (.store 3 (.tmp 2) (.tmp 25))), none⟩] []) .ret))
def ub40 :=
  And.intro (hw_unf b40_1.eq_1) <|
  hw_unf b40_2.eq_1
def h40 : HFn :=
  ⟨26, [(.cell 2 (some 3))], (.seq (.region [
      ⟨(some 2), (.op (.box (.cst (.agg [(.int .i64 0), (.str []), .nilSlice])))), none⟩] []) (.seq (.region [
      ⟨(some 4), (.op (.mv (.tmp 0))), none⟩,
      ⟨(some 5), (.op (.len .slice (.tmp 4))), none⟩,
      ⟨(some 6), (.op (.bin .sub none (.tmp 5) (.cst (.int .i64 2)))), none⟩,
      ⟨(some 3), (.op (.mv (.tmp 6))), none⟩] []) b40_2))⟩
theorem c40 : cFn Try.prog [] Try.f40 = some h40 := by kernel_rfl
/-- slices.Clone[[]byte,byte] -/
def h41 : HFn :=
  ⟨8, [(.tmp 2)], (.seq (.region [
      ⟨(some 2), (.op (.mv (.cst .nilSlice))), none⟩] []) (.seq (.seq (.region [
      ⟨(some 3), (.op (.mv (.tmp 0))), none⟩,
      ⟨(some 4), (.op (.bin .eql (some .slice) (.tmp 3) (.cst .nilSlice))), none⟩] []) (.cond (.tmp 4) (.seq (.region [
        ⟨(some 2), (.op (.mv (.cst .nilSlice))), none⟩] []) .ret) .skip)) (.seq (.region [
      ⟨(some 5), (.op (.bslice 1 0 [] [])), none⟩,
      ⟨(some 6), (.op (.mv (.tmp 0))), none⟩,
      ⟨(some 7), (.op (.append 1 1 (.tmp 5) (.tmp 6))), none⟩,
      ⟨(some 2), (.op (.mv (.tmp 7))), none⟩] []) .ret)))⟩
theorem c41 : cFn Try.prog [] Try.f41 = some h41 := by kernel_rfl
/-- bytes.IndexByte -/
def h47 : HFn :=
  ⟨8, [(.tmp 4)], (.seq (.region [
      ⟨(some 4), (.op (.mv (.cst (.int .i64 0)))), none⟩] []) (.seq (.region [
      ⟨(some 5), (.op (.mv (.tmp 0))), none⟩,
      ⟨(some 6), (.op (.mv (.tmp 1))), none⟩,
      ⟨(some 7), (.call (.cst (.func (.func 52) [] [])) [(.tmp 5), (.tmp 6)]), none⟩,
      ⟨(some 4), (.op (.mv (.tmp 7))), none⟩] []) .ret))⟩
theorem c47 : cFn Try.prog [] Try.f47 = some h47 := by kernel_rfl
/-- bytes.Equal -/
def h48 : HFn :=
  ⟨10, [(.tmp 4)], (.seq (.region [
      ⟨(some 4), (.op (.mv (.cst (.bool false)))), none⟩] []) (.seq (.region [
      ⟨(some 5), (.op (.mv (.tmp 0))), none⟩,
      ⟨(some 6), (.op (.b2s (.tmp 5))), none⟩,
      ⟨(some 7), (.op (.mv (.tmp 1))), none⟩,
      ⟨(some 8), (.op (.b2s (.tmp 7))), none⟩,
      ⟨(some 9), (.op (.bin .eql (some .str) (.tmp 6) (.tmp 8))), none⟩,
      ⟨(some 4), (.op (.mv (.tmp 9))), none⟩] []) .ret))⟩
theorem c48 : cFn Try.prog [] Try.f48 = some h48 := by kernel_rfl
/-- internal/bytealg.Cutover -/
def h50 : HFn :=
  ⟨6, [(.tmp 2)], (.seq (.region [
      ⟨(some 2), (.op (.mv (.cst (.int .i64 0)))), none⟩] []) (.seq (.region [
      ⟨(some 3), (.op (.mv (.tmp 0))), none⟩,
      ⟨(some 4), (.op (.bin .add none (.tmp 3) (.cst (.int .i64 16)))), none⟩,
      ⟨(some 5), (.op (.bin .quo none (.tmp 4) (.cst (.int .i64 8)))), none⟩,
      ⟨(some 2), (.op (.mv (.tmp 5))), none⟩] []) .ret))⟩
theorem c50 : cFn Try.prog [] Try.f50 = some h50 := by kernel_rfl
/-- internal/bytealg.IndexRabinKarp[[]byte] -/
def b51_1 : HCode :=
  (.region [
            ⟨(some 23), (.op (.mv (.tmp 8))), none⟩,
            ⟨(some 24), (.op (.bin .mul none (.tmp 23) (.cst (.int .u32 16777619)))), none⟩,
            ⟨(some 25), (.op (.mv (.tmp 0))), none⟩,
            ⟨(some 26), (.op (.mv (.tmp 9))), none⟩,
            ⟨(some 27), (.op (.idxS 1 (.tmp 25) (.tmp 26))), none⟩,
            ⟨(some 28), (.op (.load none (.tmp 27))), none⟩,
            ⟨(some 29), (.op (.cInt .u32 (.tmp 28))), none⟩,
            ⟨(some 30), (.op (.bin .add none (.tmp 24) (.tmp 29))), none⟩,
            ⟨(some 8), (.op (.mv (.tmp 30))), none⟩] [])
def b51_2 : HCode :=
  (.draw [
      ⟨(some 31), (.op (.mv (.tmp 8))), none⟩,
      ⟨(some 32), (.op (.mv (.tmp 5))), none⟩,
      ⟨(some 33), (.op (.bin .eql (some .int) (.tmp 31) (.tmp 32))), none⟩,
      ⟨(some 34), (.op (.mv (.tmp 33))), none⟩,
      ⟨(some 35), (.op (.mv (.tmp 0))), (some (34, true))⟩,
      ⟨(some 36), (.op (.mv (.tmp 7))), (some (34, true))⟩,
      ⟨(some 37), (.op (.sliceSl 1 (.tmp 35) none (some (.tmp 36)) none)), (some (34, true))⟩,
      ⟨(some 38), (.op (.b2s (.tmp 37))), (some (34, true))⟩,
      ⟨(some 39), (.op (.mv (.tmp 1))), (some (34, true))⟩,
      ⟨(some 40), (.op (.b2s (.tmp 39))), (some (34, true))⟩,
      ⟨(some 41), (.op (.bin .eql (some .str) (.tmp 38) (.tmp 40))), (some (34, true))⟩,
      ⟨(some 42), (.op (.pick (.tmp 34) (.tmp 41) (.cst (.bool false)))), none⟩] [0, 1, 2, 3, 4, 5, 6, 7, 8, 9, 10, 11] [[], [], [], [], [], [], [], [], [], [], [], []] [])
def b51_3 : HCode :=
  (.draw [
            ⟨(some 70), (.op (.mv (.tmp 8))), none⟩,
            ⟨(some 71), (.op (.mv (.tmp 5))), none⟩,
            ⟨(some 72), (.op (.bin .eql (some .int) (.tmp 70) (.tmp 71))), none⟩,
            ⟨(some 73), (.op (.mv (.tmp 72))), none⟩,
            ⟨(some 74), (.op (.mv (.tmp 0))), (some (73, true))⟩,
            ⟨(some 75), (.op (.mv (.tmp 10))), (some (73, true))⟩,
            ⟨(some 76), (.op (.mv (.tmp 7))), (some (73, true))⟩,
            ⟨(some 77), (.op (.bin .sub none (.tmp 75) (.tmp 76))), (some (73, true))⟩,
            ⟨(some 78), (.op (.mv (.tmp 10))), (some (73, true))⟩,
            ⟨(some 79), (.op (.sliceSl 1 (.tmp 74) (some (.tmp 77)) (some (.tmp 78)) none)), (some (73, true))⟩,
            ⟨(some 80), (.op (.b2s (.tmp 79))), (some (73, true))⟩,
            ⟨(some 81), (.op (.mv (.tmp 1))), (some (73, true))⟩,
            ⟨(some 82), (.op (.b2s (.tmp 81))), (some (73, true))⟩,
            ⟨(some 83), (.op (.bin .eql (some .str) (.tmp 80) (.tmp 82))), (some (73, true))⟩,
            ⟨(some 84), (.op (.pick (.tmp 73) (.tmp 83) (.cst (.bool false)))), none⟩] [0, 1, 2, 3, 4, 5, 6, 7, 8, 9, 10, 11, 12, 13, 14] [[], [], [], [], [], [], [], [], [], [], [], [], [], [], []] [])
def b51_4 : HCode :=
  (.region [
            ⟨(some 57), (.op (.mv (.tmp 8))), none⟩,
            ⟨(some 58), (.op (.mv (.tmp 6))), none⟩,
            ⟨(some 59), (.op (.mv (.tmp 0))), none⟩,
            ⟨(some 60), (.op (.mv (.tmp 10))), none⟩,
            ⟨(some 61), (.op (.mv (.tmp 7))), none⟩,
            ⟨(some 62), (.op (.bin .sub none (.tmp 60) (.tmp 61))), none⟩,
            ⟨(some 63), (.op (.idxS 1 (.tmp 59) (.tmp 62))), none⟩,
            ⟨(some 64), (.op (.load none (.tmp 63))), none⟩,
            ⟨(some 65), (.op (.cInt .u32 (.tmp 64))), none⟩,
            ⟨(some 66), (.op (.bin .mul none (.tmp 58) (.tmp 65))), none⟩,
            ⟨(some 67), (.op (.bin .sub none (.tmp 57) (.tmp 66))), none⟩,
            ⟨(some 8), (.op (.mv (.tmp 67))), none⟩] [])
def b51_5 : HCode :=
  (.seq (.region [
            ⟨(some 68), (.op (.mv (.tmp 10))), none⟩,
            ⟨(some 69), (.op (.bin .add none (.tmp 68) (.cst (.int .i64 1)))), none⟩,
            ⟨(some 10), (.op (.mv (.tmp 69))), none⟩] []) (.seq b51_3 (.cond (.tmp 84) (.seq (.region [
              ⟨(some 85), (.op (.mv (.tmp 10))), none⟩,
              ⟨(some 86), (.op (.mv (.tmp 7))), none⟩,
              ⟨(some 87), (.op (.bin .sub none (.tmp 85) (.tmp 86))), none⟩,
              ⟨(some 4), (.op (.mv (.tmp 87))), none⟩] []) .ret) .skip)))
def b51_6 : HCode :=
  (.seq (.region [
            ⟨(some 50), (.op (.mv (.tmp 8))), none⟩,
            ⟨(some 51), (.op (.mv (.tmp 0))), none⟩,
            ⟨(some 52), (.op (.mv (.tmp 10))), none⟩,
            ⟨(some 53), (.op (.idxS 1 (.tmp 51) (.tmp 52))), none⟩,
            ⟨(some 54), (.op (.load none (.tmp 53))), none⟩,
            ⟨(some 55), (.op (.cInt .u32 (.tmp 54))), none⟩,
            ⟨(some 56), (.op (.bin .add none (.tmp 50) (.tmp 55))), none⟩,
            ⟨(some 8), (.op (.mv (.tmp 56))), none⟩] []) (.seq b51_4 b51_5))
def b51_7 : HCode :=
  (.seq (.seq (.region [
          ⟨(some 44), (.op (.mv (.tmp 10))), none⟩,
          ⟨(some 45), (.op (.mv (.tmp 0))), none⟩,
          ⟨(some 46), (.op (.len .slice (.tmp 45))), none⟩,
          ⟨(some 47), (.op (.bin .lss none (.tmp 44) (.tmp 46))), none⟩] []) (.cond (.tmp 47) .skip (.exit 2))) (.block 3 (.seq (.region [
            ⟨(some 48), (.op (.mv (.tmp 8))), none⟩,
            ⟨(some 49), (.op (.bin .mul none (.tmp 48) (.cst (.int .u32 16777619)))), none⟩,
            ⟨(some 8), (.op (.mv (.tmp 49))), none⟩] []) b51_6)))
def b51_8 : HCode :=
  (.seq (.region [
      ⟨(some 9), (.op (.mv (.cst (.int .i64 0)))), none⟩] []) (.block 0 (.loop (.seq (.seq (.region [
          ⟨(some 18), (.op (.mv (.tmp 9))), none⟩,
          ⟨(some 19), (.op (.mv (.tmp 7))), none⟩,
          ⟨(some 20), (.op (.bin .lss none (.tmp 18) (.tmp 19))), none⟩] []) (.cond (.tmp 20) .skip (.exit 0))) (.seq (.block 1 b51_1) (.region [
          ⟨(some 21), (.op (.mv (.tmp 9))), none⟩,
          ⟨(some 22), (.op (.bin .add none (.tmp 21) (.cst (.int .i64 1)))), none⟩,
          ⟨(some 9), (.op (.mv (.tmp 22))), none⟩] []))))))
def b51_9 : HCode :=
  (.seq (.region [
      ⟨(some 16), (.op (.mv (.tmp 1))), none⟩,
      ⟨(some 17), (.op (.len .slice (.tmp 16))), none⟩,
      ⟨(some 7), (.op (.mv (.tmp 17))), none⟩] []) (.seq (.region [
      ⟨(some 8), (.op (.mv (.cst (.int .u32 0)))), none⟩] []) (.seq b51_8 (.seq (.seq b51_2 (.cond (.tmp 42) (.seq (.region [
        ⟨(some 4), (.op (.mv (.cst (.int .i64 0)))), none⟩] []) .ret) .skip)) (.seq (.seq (.region [
      ⟨(some 43), (.op (.mv (.tmp 7))), none⟩,
      ⟨(some 10), (.op (.mv (.tmp 43))), none⟩] []) (.block 2 (.loop b51_7))) (.seq (.region [
      ⟨(some 4), (.op (.mv (.cst (.int .i64 (-1))))), none⟩] []) .ret))))))
def ub51 :=
  And.intro (hw_unf b51_1.eq_1) <|
  And.intro (hw_unf b51_2.eq_1) <|
  And.intro (hw_unf b51_3.eq_1) <|
  And.intro (hw_unf b51_4.eq_1) <|
  And.intro (hw_unf b51_5.eq_1) <|
  And.intro (hw_unf b51_6.eq_1) <|
  And.intro (hw_unf b51_7.eq_1) <|
  And.intro (hw_unf b51_8.eq_1) <|
  hw_unf b51_9.eq_1
def h51 : HFn :=
  ⟨88, [(.tmp 4)], (.seq (.region [
      ⟨(some 4), (.op (.mv (.cst (.int .i64 0)))), none⟩] []) (.seq (.region [
      ⟨(some 12), (.op (.mv (.tmp 1))), none⟩,
      ⟨(some 13), (.call (.cst (.func (.func 53) [] [])) [(.tmp 12)]), none⟩,
      ⟨(some 11), (.op (.mv (.tmp 13))), none⟩,
      ⟨(some 14), (.op (.ext 0 (.tmp 11))), none⟩,
      ⟨(some 15), (.op (.ext 1 (.tmp 11))), none⟩,
      ⟨(some 5), (.op (.mv (.tmp 14))), none⟩,
      ⟨(some 6), (.op (.mv (.tmp 15))), none⟩] []) b51_9))⟩
theorem c51 : cFn Try.prog [] Try.f51 = some h51 := by kernel_rfl
/-- internal/bytealg.hashStr[[]byte] -/
def b53_1 : HCode :=
  (.region [
            ⟨(some 15), (.op (.mv (.tmp 4))), none⟩,
            ⟨(some 16), (.op (.bin .mul none (.tmp 15) (.cst (.int .u32 16777619)))), none⟩,
            ⟨(some 17), (.op (.mv (.tmp 0))), none⟩,
            ⟨(some 18), (.op (.mv (.tmp 5))), none⟩,
            ⟨(some 19), (.op (.idxS 1 (.tmp 17) (.tmp 18))), none⟩,
            ⟨(some 20), (.op (.load none (.tmp 19))), none⟩,
            ⟨(some 21), (.op (.cInt .u32 (.tmp 20))), none⟩,
            ⟨(some 22), (.op (.bin .add none (.tmp 16) (.tmp 21))), none⟩,
            ⟨(some 4), (.op (.mv (.tmp 22))), none⟩] [])
def b53_2 : HCode :=
  (.seq (.seq (.region [
          ⟨(some 9), (.op (.mv (.tmp 5))), none⟩,
          ⟨(some 10), (.op (.mv (.tmp 0))), none⟩,
          ⟨(some 11), (.op (.len .slice (.tmp 10))), none⟩,
          ⟨(some 12), (.op (.bin .lss none (.tmp 9) (.tmp 11))), none⟩] []) (.cond (.tmp 12) .skip (.exit 0))) (.seq (.block 1 b53_1) (.region [
          ⟨(some 13), (.op (.mv (.tmp 5))), none⟩,
          ⟨(some 14), (.op (.bin .add none (.tmp 13) (.cst (.int .i64 1)))), none⟩,
          ⟨(some 5), (.op (.mv (.tmp 14))), none⟩] [])))
def b53_3 : HCode :=
  (.seq (.region [
            ⟨(some 29), (.op (.mv (.tmp 8))), none⟩,
            ⟨(some 30), (.op (.bin .and none (.tmp 29) (.cst (.int .i64 1)))), none⟩,
            ⟨(some 31), (.op (.bin .neq (some .int) (.tmp 30) (.cst (.int .i64 0)))), none⟩] []) (.cond (.tmp 31) (.region [
              ⟨(some 32), (.op (.mv (.tmp 6))), none⟩,
              ⟨(some 33), (.op (.mv (.tmp 7))), none⟩,
              ⟨(some 34), (.op (.bin .mul none (.tmp 32) (.tmp 33))), none⟩,
              ⟨(some 6), (.op (.mv (.tmp 34))), none⟩] []) .skip))
def b53_4 : HCode :=
  (.seq (.seq (.region [
          ⟨(some 25), (.op (.mv (.tmp 8))), none⟩,
          ⟨(some 26), (.op (.bin .gtr none (.tmp 25) (.cst (.int .i64 0)))), none⟩] []) (.cond (.tmp 26) .skip (.exit 2))) (.seq (.block 3 (.seq b53_3 (.region [
            ⟨(some 35), (.op (.mv (.tmp 7))), none⟩,
            ⟨(some 36), (.op (.mv (.tmp 7))), none⟩,
            ⟨(some 37), (.op (.bin .mul none (.tmp 35) (.tmp 36))), none⟩,
            ⟨(some 7), (.op (.mv (.tmp 37))), none⟩] []))) (.region [
          ⟨(some 27), (.op (.mv (.tmp 8))), none⟩,
          ⟨(some 28), (.op (.bin .shr none (.tmp 27) (.cst (.int .u64 1)))), none⟩,
          ⟨(some 8), (.op (.mv (.tmp 28))), none⟩] [])))
def b53_5 : HCode :=
  (.seq (.region [
      ⟨(some 6), (.op (.mv (.cst (.int .u32 1)))), none⟩,
      ⟨(some 7), (.op (.mv (.cst (.int .u32 16777619)))), none⟩] []) (.seq (.seq (.region [
      ⟨(some 23), (.op (.mv (.tmp 0))), none⟩,
      ⟨(some 24), (.op (.len .slice (.tmp 23))), none⟩,
      ⟨(some 8), (.op (.mv (.tmp 24))), none⟩] []) (.block 2 (.loop b53_4))) (.seq (.region [
      ⟨(some 38), (.op (.mv (.tmp 4))), none⟩,
      ⟨(some 39), (.op (.mv (.tmp 6))), none⟩,
      ⟨(some 2), (.op (.mv (.tmp 38))), none⟩,
      ⟨(some 3), (.op (.mv (.tmp 39))), none⟩] []) .ret)))
def ub53 :=
  And.intro (hw_unf b53_1.eq_1) <|
  And.intro (hw_unf b53_2.eq_1) <|
  And.intro (hw_unf b53_3.eq_1) <|
  And.intro (hw_unf b53_4.eq_1) <|
  hw_unf b53_5.eq_1
def h53 : HFn :=
  ⟨40, [(.tmp 2), (.tmp 3)], (.seq (.region [
      ⟨(some 2), (.op (.mv (.cst (.int .u32 0)))), none⟩,
      ⟨(some 3), (.op (.mv (.cst (.int .u32 0)))), none⟩] []) (.seq (.region [
      ⟨(some 4), (.op (.mv (.cst (.int .u32 0)))), none⟩] []) (.seq (.seq (.region [
      ⟨(some 5), (.op (.mv (.cst (.int .i64 0)))), none⟩] []) (.block 0 (.loop b53_2))) b53_5)))⟩
theorem c53 : cFn Try.prog [] Try.f53 = some h53 := by kernel_rfl
def F : FuncId → Option HFn
  | 6 => some h6
  | 8 => some h8
  | 9 => some h9
  | 12 => some h12
  | 14 => some h14
  | 16 => some h16
  | 17 => some h17
  | 18 => some h18
  | 20 => some h20
  | 23 => some h23
  | 26 => some h26
  | 27 => some h27
  | 28 => some h28
  | 33 => some h33
  | 35 => some h35
  | 36 => some h36
  | 37 => some h37
  | 38 => some h38
  | 39 => some h39
  | 40 => some h40
  | 41 => some h41
  | 47 => some h47
  | 48 => some h48
  | 50 => some h50
  | 51 => some h51
  | 53 => some h53
  | _ => none
theorem F_ok : FOk Try.prog F := by
  intro f hf h
  unfold F at h
  split at h
  · simp at h; subst h; exact ⟨_, [], Try.func6, c6⟩
  · simp at h; subst h; exact ⟨_, [], Try.func8, c8⟩
  · simp at h; subst h; exact ⟨_, [], Try.func9, c9⟩
  · simp at h; subst h; exact ⟨_, [], Try.func12, c12⟩
  · simp at h; subst h; exact ⟨_, [], Try.func14, c14⟩
  · simp at h; subst h; exact ⟨_, [], Try.func16, c16⟩
  · simp at h; subst h; exact ⟨_, [], Try.func17, c17⟩
  · simp at h; subst h; exact ⟨_, [], Try.func18, c18⟩
  · simp at h; subst h; exact ⟨_, [], Try.func20, c20⟩
  · simp at h; subst h; exact ⟨_, [], Try.func23, c23⟩
  · simp at h; subst h; exact ⟨_, [], Try.func26, c26⟩
  · simp at h; subst h; exact ⟨_, [], Try.func27, c27⟩
  · simp at h; subst h; exact ⟨_, [], Try.func28, c28⟩
  · simp at h; subst h; exact ⟨_, [], Try.func33, c33⟩
  · simp at h; subst h; exact ⟨_, [], Try.func35, c35⟩
  · simp at h; subst h; exact ⟨_, [], Try.func36, c36⟩
  · simp at h; subst h; exact ⟨_, [], Try.func37, c37⟩
  · simp at h; subst h; exact ⟨_, [], Try.func38, c38⟩
  · simp at h; subst h; exact ⟨_, [], Try.func39, c39⟩
  · simp at h; subst h; exact ⟨_, [], Try.func40, c40⟩
  · simp at h; subst h; exact ⟨_, [], Try.func41, c41⟩
  · simp at h; subst h; exact ⟨_, [], Try.func47, c47⟩
  · simp at h; subst h; exact ⟨_, [], Try.func48, c48⟩
  · simp at h; subst h; exact ⟨_, [], Try.func50, c50⟩
  · simp at h; subst h; exact ⟨_, [], Try.func51, c51⟩
  · simp at h; subst h; exact ⟨_, [], Try.func53, c53⟩
  · simp at h
end Go.Proofs.Ytccfcegmaejlnaa
