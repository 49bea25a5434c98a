/-
  stintlaw06.book: bodies that were handed out are laid by, and read as they must.
  bytes.Index, laid off the shelf at this dump; what the evaluator takes of it.
  intake: what each method does of any intake.
  intake: New, Held, Body, Clone, Next of any intake.
  stintlaw06: what the statements share: places among some, the bound of what comes, what is shown at the head.
  intake, plainly: how little is held, how much is told.
  intake: bytes that come one behind the other; items that are alike.
-/
import Derived.Test.YtccfcegmaejlnaaHLRound
import Derived.Test.YtccfcegmaejlnaaHLVs
import Derived.Test.YtccfcegmaejlnaaProg
import Derived.KernelRfl
import Derived.Test.YtccfcegmaejlnaaHLKeep
import Derived.Test.YtccfcegmaejlnaaHLIndex
import Derived.Ground.NamesProg
import Derived.Shelf.Bytes.SlIndexWhole
import Derived.Test.YtccfcegmaejlnaaHLFlat
/- The functions, turned (written by program, each checked by the kernel). -/
namespace Go.Proofs.Ytccfcegmaejlnaa
open Go Go.HL
/-- stint/stintlaw06.IntakeCuts -/
def b4_1 : HCode :=
  (.seq (.region [
        ⟨(some 38), (.op (.mv (.tmp 10))), none⟩,
        ⟨(some 39), (.op (.bin .eql (some .int) (.tmp 38) (.cst (.int .i64 60)))), none⟩,
        ⟨(some 40), (.op (.mv (.tmp 39))), none⟩,
        ⟨(some 41), (.op (.mv (.tmp 9))), (some (40, true))⟩,
        ⟨(some 42), (.op (.bin .eql (some .ptrN) (.tmp 41) (.cst .nilPtr))), (some (40, true))⟩,
        ⟨(some 43), (.op (.pick (.tmp 40) (.tmp 42) (.cst (.bool false)))), none⟩,
        ⟨(some 8), (.op (.mv (.tmp 43))), none⟩] []) .ret)
def b4_2 : HCode :=
  (.region [
      ⟨(some 44), (.op (.mv (.tmp 10))), none⟩,
      ⟨(some 45), (.op (.bin .neq (some .int) (.tmp 44) (.cst (.int .i64 0)))), none⟩,
      ⟨(some 46), (.op (.mv (.tmp 45))), none⟩,
      ⟨(some 47), (.op (.mv (.tmp 9))), (some (46, false))⟩,
      ⟨(some 48), (.op (.bin .eql (some .ptrN) (.tmp 47) (.cst .nilPtr))), (some (46, false))⟩,
      ⟨(some 49), (.op (.pick (.tmp 46) (.cst (.bool true)) (.tmp 48))), none⟩,
      ⟨(some 50), (.op (.mv (.tmp 49))), none⟩,
      ⟨(some 51), (.op (.mv (.tmp 11))), (some (50, false))⟩,
      ⟨(some 52), (.op (.bin .eql (some .ptrN) (.tmp 51) (.cst .nilPtr))), (some (50, false))⟩,
      ⟨(some 53), (.op (.pick (.tmp 50) (.cst (.bool true)) (.tmp 52))), none⟩] [])
def b4_3 : HCode :=
  (.seq (.seq (.region [
            ⟨(some 89), (.op (.mv (.tmp 16))), none⟩,
            ⟨(some 90), (.op (.bin .rem none (.tmp 89) (.cst (.int .i64 3)))), none⟩,
            ⟨(some 91), (.op (.bin .neq (some .int) (.tmp 90) (.cst (.int .i64 2)))), none⟩] []) (.cond (.tmp 91) (.region [
              ⟨(some 92), (.op (.mv (.tmp 14))), none⟩,
              ⟨(some 93), (.call (.cst (.func (.func 19) [] [])) [(.tmp 92)]), none⟩] []) .skip)) (.region [
            ⟨(some 94), (.op (.mv (.tmp 18))), none⟩,
            ⟨(some 15), (.op (.mv (.tmp 94))), none⟩] []))
def b4_4 : HCode :=
  (.region [
            ⟨(some 74), (.op (.mv (.tmp 15))), none⟩,
            ⟨(some 75), (.op (.mv (.tmp 17))), none⟩,
            ⟨(some 76), (.op (.mv (.tmp 1))), none⟩,
            ⟨(some 77), (.op (.len .slice (.tmp 76))), none⟩,
            ⟨(some 78), (.op (.mv (.tmp 15))), none⟩,
            ⟨(some 79), (.op (.bin .sub none (.tmp 77) (.tmp 78))), none⟩,
            ⟨(some 80), (.op (.bin .add none (.tmp 79) (.cst (.int .i64 1)))), none⟩,
            ⟨(some 81), (.call (.cst (.func (.func 20) [] [])) [(.tmp 75), (.tmp 80)]), none⟩,
            ⟨(some 82), (.op (.bin .add none (.tmp 74) (.tmp 81))), none⟩,
            ⟨(some 18), (.op (.mv (.tmp 82))), none⟩] [])
def b4_5 : HCode :=
  (.seq (.region [
            ⟨(some 71), (.op (.mv (.tmp 69))), none⟩,
            ⟨(some 72), (.op (.idxS 1 (.tmp 67) (.tmp 69))), none⟩,
            ⟨(some 73), (.op (.load none (.tmp 72))), none⟩,
            ⟨(some 16), (.op (.mv (.tmp 71))), none⟩,
            ⟨(some 17), (.op (.mv (.tmp 73))), none⟩] []) (.seq b4_4 (.seq (.region [
            ⟨(some 83), (.op (.mv (.tmp 11))), none⟩,
            ⟨(some 84), (.op (.mv (.tmp 1))), none⟩,
            ⟨(some 85), (.op (.mv (.tmp 15))), none⟩,
            ⟨(some 86), (.op (.mv (.tmp 18))), none⟩,
            ⟨(some 87), (.op (.sliceSl 1 (.tmp 84) (some (.tmp 85)) (some (.tmp 86)) none)), none⟩,
            ⟨(some 88), (.call (.cst (.func (.func 18) [] [])) [(.tmp 83), (.tmp 87)]), none⟩] []) b4_3)))
def b4_6 : HCode :=
  (.draw [
      ⟨(some 103), (.op (.mv (.tmp 13))), none⟩,
      ⟨(some 104), (.op (.nilc (.tmp 103))), none⟩,
      ⟨(some 105), (.op (.faddr 3 (.tmp 104))), none⟩,
      ⟨(some 106), (.op (.load none (.tmp 105))), none⟩,
      ⟨(some 107), (.op (.len .slice (.tmp 106))), none⟩,
      ⟨(some 108), (.op (.mv (.tmp 14))), none⟩,
      ⟨(some 109), (.op (.nilc (.tmp 108))), none⟩,
      ⟨(some 110), (.op (.faddr 3 (.tmp 109))), none⟩,
      ⟨(some 111), (.op (.load none (.tmp 110))), none⟩,
      ⟨(some 112), (.op (.len .slice (.tmp 111))), none⟩,
      ⟨(some 113), (.op (.bin .neq (some .int) (.tmp 107) (.tmp 112))), none⟩,
      ⟨(some 114), (.op (.mv (.tmp 113))), none⟩,
      ⟨(some 115), (.op (.mv (.tmp 9))), (some (114, false))⟩,
      ⟨(some 116), (.call (.cst (.func (.func 14) [] [])) [(.tmp 115)]), (some (114, false))⟩,
      ⟨(some 117), (.op (.mv (.tmp 11))), (some (114, false))⟩,
      ⟨(some 118), (.call (.cst (.func (.func 14) [] [])) [(.tmp 117)]), (some (114, false))⟩,
      ⟨(some 119), (.op (.bin .neq (some .int) (.tmp 116) (.tmp 118))), (some (114, false))⟩,
      ⟨(some 120), (.op (.pick (.tmp 114) (.cst (.bool true)) (.tmp 119))), none⟩] [0, 1, 2, 3, 4, 5, 6, 7, 8, 9, 10, 11, 12, 14, 13, 15, 16, 17] [[], [], [], [], [], [], [], [], [], [], [], [], [], [4, 3, 9, 8], [], [4, 3, 9, 8], [], []] [])
def b4_7 : HCode :=
  (.draw [
            ⟨(some 129), (.op (.mv (.tmp 13))), none⟩,
            ⟨(some 130), (.op (.nilc (.tmp 129))), none⟩,
            ⟨(some 131), (.op (.faddr 3 (.tmp 130))), none⟩,
            ⟨(some 132), (.op (.load none (.tmp 131))), none⟩,
            ⟨(some 133), (.op (.mv (.tmp 19))), none⟩,
            ⟨(some 134), (.op (.idxS 3 (.tmp 132) (.tmp 133))), none⟩,
            ⟨(some 135), (.op (.load (some 3) (.tmp 134))), none⟩,
            ⟨(some 136), (.op (.mv (.tmp 14))), none⟩,
            ⟨(some 137), (.op (.nilc (.tmp 136))), none⟩,
            ⟨(some 138), (.op (.faddr 3 (.tmp 137))), none⟩,
            ⟨(some 139), (.op (.load none (.tmp 138))), none⟩,
            ⟨(some 140), (.op (.mv (.tmp 19))), none⟩,
            ⟨(some 141), (.op (.idxS 3 (.tmp 139) (.tmp 140))), none⟩,
            ⟨(some 142), (.op (.load (some 3) (.tmp 141))), none⟩,
            ⟨(some 143), (.call (.cst (.func (.func 21) [] [])) [(.tmp 135), (.tmp 142)]), none⟩,
            ⟨(some 144), (.op (.un .not (.tmp 143))), none⟩] [0, 1, 2, 3, 4, 5, 6, 7, 8, 9, 10, 11, 12, 13, 14, 15] [[], [], [], [], [], [], [], [], [], [], [], [], [], [], [6, 5, 3, 13, 12, 10], []] [])
def b4_8 : HCode :=
  (.seq (.region [
          ⟨(some 127), (.op (.bin .lss none (.tmp 126) (.tmp 125))), none⟩] []) (.seq (.cond (.tmp 127) .skip (.exit 2)) (.seq (.block 3 (.seq (.region [
            ⟨(some 128), (.op (.mv (.tmp 126))), none⟩,
            ⟨(some 19), (.op (.mv (.tmp 128))), none⟩] []) (.seq b4_7 (.cond (.tmp 144) (.seq (.region [
              ⟨(some 8), (.op (.mv (.cst (.bool false)))), none⟩] []) .ret) .skip)))) (.region [
          ⟨(some 145), (.op (.bin .add none (.tmp 126) (.cst (.int .i64 1)))), none⟩,
          ⟨(some 126), (.op (.mv (.tmp 145))), none⟩] []))))
def b4_9 : HCode :=
  (.seq (.seq b4_6 (.cond (.tmp 120) (.seq (.region [
        ⟨(some 8), (.op (.mv (.cst (.bool false)))), none⟩] []) .ret) .skip)) (.seq (.seq (.region [
      ⟨(some 121), (.op (.mv (.tmp 13))), none⟩,
      ⟨(some 122), (.op (.nilc (.tmp 121))), none⟩,
      ⟨(some 123), (.op (.faddr 3 (.tmp 122))), none⟩,
      ⟨(some 124), (.op (.load none (.tmp 123))), none⟩,
      ⟨(some 125), (.op (.len .slice (.tmp 124))), none⟩,
      ⟨(some 126), (.op (.mv (.cst (.int .i64 0)))), none⟩] []) (.block 2 (.loop b4_8))) (.seq (.region [
      ⟨(some 8), (.op (.mv (.cst (.bool true)))), none⟩] []) .ret)))
def b4_10 : HCode :=
  (.seq (.region [
      ⟨(some 67), (.op (.mv (.tmp 2))), none⟩,
      ⟨(some 68), (.op (.len .slice (.tmp 67))), none⟩,
      ⟨(some 69), (.op (.mv (.cst (.int .i64 0)))), none⟩] []) (.block 0 (.loop (.seq (.region [
          ⟨(some 70), (.op (.bin .lss none (.tmp 69) (.tmp 68))), none⟩] []) (.seq (.cond (.tmp 70) .skip (.exit 0)) (.seq (.block 1 b4_5) (.region [
          ⟨(some 95), (.op (.bin .add none (.tmp 69) (.cst (.int .i64 1)))), none⟩,
          ⟨(some 69), (.op (.mv (.tmp 95))), none⟩] [])))))))
def b4_11 : HCode :=
  (.seq b4_10 (.seq (.region [
      ⟨(some 96), (.op (.mv (.tmp 11))), none⟩,
      ⟨(some 97), (.op (.mv (.tmp 1))), none⟩,
      ⟨(some 98), (.op (.mv (.tmp 15))), none⟩,
      ⟨(some 99), (.op (.sliceSl 1 (.tmp 97) (some (.tmp 98)) none none)), none⟩,
      ⟨(some 100), (.call (.cst (.func (.func 18) [] [])) [(.tmp 96), (.tmp 99)]), none⟩] []) (.seq (.region [
      ⟨(some 101), (.op (.mv (.tmp 14))), none⟩,
      ⟨(some 102), (.call (.cst (.func (.func 19) [] [])) [(.tmp 101)]), none⟩] []) b4_9)))
def b4_12 : HCode :=
  (.region [
      ⟨(some 54), (.op (.mv (.tmp 9))), none⟩,
      ⟨(some 55), (.op (.mv (.tmp 3))), none⟩,
      ⟨(some 56), (.op (.build [.nilPtr, .nilSlice, (.int .i64 0), .nilSlice] [(0, 1, (.tmp 54)), (1, 1, (.tmp 55))])), none⟩,
      ⟨(some 57), (.op (.box (.tmp 56))), none⟩,
      ⟨(some 58), (.op (.mv (.tmp 11))), none⟩,
      ⟨(some 59), (.op (.mv (.tmp 3))), none⟩,
      ⟨(some 60), (.op (.build [.nilPtr, .nilSlice, (.int .i64 0), .nilSlice] [(0, 1, (.tmp 58)), (1, 1, (.tmp 59))])), none⟩,
      ⟨(some 61), (.op (.box (.tmp 60))), none⟩,
      ⟨(some 13), (.op (.mv (.tmp 57))), none⟩,
      ⟨(some 14), (.op (.mv (.tmp 61))), none⟩] [])
def b4_13 : HCode :=
  (.seq (.seq b4_2 (.cond (.tmp 53) (.seq (.region [
        ⟨(some 8), (.op (.mv (.cst (.bool false)))), none⟩] []) .ret) .skip)) (.seq b4_12 (.seq (.region [
      ⟨(some 62), (.op (.mv (.tmp 9))), none⟩,
      ⟨(some 63), (.op (.mv (.tmp 1))), none⟩,
      ⟨(some 64), (.call (.cst (.func (.func 18) [] [])) [(.tmp 62), (.tmp 63)]), none⟩] []) (.seq (.region [
      ⟨(some 65), (.op (.mv (.tmp 13))), none⟩,
      ⟨(some 66), (.call (.cst (.func (.func 19) [] [])) [(.tmp 65)]), none⟩] []) (.seq (.region [
      ⟨(some 15), (.op (.mv (.cst (.int .i64 0)))), none⟩] []) b4_11)))))
def b4_14 : HCode :=
  (.seq (.region [
      ⟨(some 28), (.op (.mv (.tmp 0))), none⟩,
      ⟨(some 29), (.call (.cst (.func (.func 17) [] [])) [(.tmp 28)]), none⟩,
      ⟨(some 27), (.op (.mv (.tmp 29))), none⟩,
      ⟨(some 30), (.op (.ext 0 (.tmp 27))), none⟩,
      ⟨(some 31), (.op (.ext 1 (.tmp 27))), none⟩,
      ⟨(some 11), (.op (.mv (.tmp 30))), none⟩,
      ⟨(some 12), (.op (.mv (.tmp 31))), none⟩] []) (.seq (.seq (.region [
      ⟨(some 32), (.op (.mv (.tmp 0))), none⟩,
      ⟨(some 33), (.op (.bin .lss none (.tmp 32) (.cst (.int .i64 1)))), none⟩,
      ⟨(some 34), (.op (.mv (.tmp 33))), none⟩,
      ⟨(some 35), (.op (.mv (.tmp 0))), (some (34, false))⟩,
      ⟨(some 36), (.op (.bin .gtr none (.tmp 35) (.cst (.int .i64 65535)))), (some (34, false))⟩,
      ⟨(some 37), (.op (.pick (.tmp 34) (.cst (.bool true)) (.tmp 36))), none⟩] []) (.cond (.tmp 37) b4_1 .skip)) b4_13))
def b4_15 : HCode :=
  (.seq (.seq (.region [
      ⟨(some 20), (.call (.cst (.func (.func 9) [] [])) []), none⟩,
      ⟨(some 21), (.op (.un .not (.tmp 20))), none⟩] []) (.cond (.tmp 21) (.seq (.region [
        ⟨(some 8), (.op (.mv (.cst (.bool false)))), none⟩] []) .ret) .skip)) (.seq (.region [
      ⟨(some 23), (.op (.mv (.tmp 0))), none⟩,
      ⟨(some 24), (.call (.cst (.func (.func 17) [] [])) [(.tmp 23)]), none⟩,
      ⟨(some 22), (.op (.mv (.tmp 24))), none⟩,
      ⟨(some 25), (.op (.ext 0 (.tmp 22))), none⟩,
      ⟨(some 26), (.op (.ext 1 (.tmp 22))), none⟩,
      ⟨(some 9), (.op (.mv (.tmp 25))), none⟩,
      ⟨(some 10), (.op (.mv (.tmp 26))), none⟩] []) b4_14))
set_option linter.defProp false in
def ub4 :=
  And.intro (hw_unf b4_1.eq_1) <|
  And.intro (hw_unf b4_2.eq_1) <|
  And.intro (hw_unf b4_3.eq_1) <|
  And.intro (hw_unf b4_4.eq_1) <|
  And.intro (hw_unf b4_5.eq_1) <|
  And.intro (hw_unf b4_6.eq_1) <|
  And.intro (hw_unf b4_7.eq_1) <|
  And.intro (hw_unf b4_8.eq_1) <|
  And.intro (hw_unf b4_9.eq_1) <|
  And.intro (hw_unf b4_10.eq_1) <|
  And.intro (hw_unf b4_11.eq_1) <|
  And.intro (hw_unf b4_12.eq_1) <|
  And.intro (hw_unf b4_13.eq_1) <|
  And.intro (hw_unf b4_14.eq_1) <|
  hw_unf b4_15.eq_1
def h4 : HFn :=
  ⟨146, [(.tmp 8)], (.seq (.region [
      ⟨(some 8), (.op (.mv (.cst (.bool false)))), none⟩] []) b4_15)⟩
theorem c4 : cFn Try.prog [] Try.f4 = some h4 := by kernel_rfl
/-- stint/stintlaw06.IntakeParts -/
def b5_1 : HCode :=
  (.seq (.region [
        ⟨(some 38), (.op (.mv (.tmp 8))), none⟩,
        ⟨(some 39), (.op (.bin .eql (some .int) (.tmp 38) (.cst (.int .i64 60)))), none⟩,
        ⟨(some 40), (.op (.mv (.tmp 39))), none⟩,
        ⟨(some 41), (.op (.mv (.tmp 7))), (some (40, true))⟩,
        ⟨(some 42), (.op (.bin .eql (some .ptrN) (.tmp 41) (.cst .nilPtr))), (some (40, true))⟩,
        ⟨(some 43), (.op (.pick (.tmp 40) (.tmp 42) (.cst (.bool false)))), none⟩,
        ⟨(some 6), (.op (.mv (.tmp 43))), none⟩] []) .ret)
def b5_2 : HCode :=
  (.region [
            ⟨(some 91), (.op (.mv (.tmp 15))), none⟩,
            ⟨(some 92), (.op (.un .not (.tmp 91))), none⟩,
            ⟨(some 93), (.op (.mv (.tmp 92))), none⟩,
            ⟨(some 94), (.op (.load (some 3) (.tmp 14))), (some (93, false))⟩,
            ⟨(some 95), (.op (.load (some 3) (.tmp 16))), (some (93, false))⟩,
            ⟨(some 96), (.call (.cst (.func (.func 21) [] [])) [(.tmp 94), (.tmp 95)]), (some (93, false))⟩,
            ⟨(some 97), (.op (.un .not (.tmp 96))), (some (93, false))⟩,
            ⟨(some 98), (.op (.pick (.tmp 93) (.cst (.bool true)) (.tmp 97))), none⟩] [])
def b5_3 : HCode :=
  (.cond (.tmp 119) (.region [
              ⟨(some 120), (.op (.build [(.int .i64 0), (.str []), .nilSlice] [(0, 1, (.cst (.int .i64 4)))])), none⟩,
              ⟨none, (.op (.store 3 (.tmp 20) (.tmp 120))), none⟩] []) (.seq (.region [
              ⟨(some 121), (.op (.faddr 2 (.tmp 10))), none⟩,
              ⟨(some 122), (.op (.load none (.tmp 121))), none⟩] []) (.cond (.tmp 122) (.region [
                ⟨(some 123), (.op (.build [(.int .i64 0), (.str []), .nilSlice] [(0, 1, (.cst (.int .i64 5)))])), none⟩,
                ⟨none, (.op (.store 3 (.tmp 20) (.tmp 123))), none⟩] []) .skip)))
def b5_4 : HCode :=
  (.region [
            ⟨(some 124), (.op (.mv (.tmp 17))), none⟩,
            ⟨(some 125), (.op (.bin .neq (some .int) (.tmp 124) (.cst (.int .i64 0)))), none⟩,
            ⟨(some 126), (.op (.mv (.tmp 125))), none⟩,
            ⟨(some 127), (.op (.mv (.tmp 19))), (some (126, false))⟩,
            ⟨(some 128), (.op (.un .not (.tmp 127))), (some (126, false))⟩,
            ⟨(some 129), (.op (.pick (.tmp 126) (.cst (.bool true)) (.tmp 128))), none⟩,
            ⟨(some 130), (.op (.mv (.tmp 129))), none⟩,
            ⟨(some 131), (.op (.load (some 3) (.tmp 18))), (some (130, false))⟩,
            ⟨(some 132), (.op (.load (some 3) (.tmp 20))), (some (130, false))⟩,
            ⟨(some 133), (.call (.cst (.func (.func 21) [] [])) [(.tmp 131), (.tmp 132)]), (some (130, false))⟩,
            ⟨(some 134), (.op (.un .not (.tmp 133))), (some (130, false))⟩,
            ⟨(some 135), (.op (.pick (.tmp 130) (.cst (.bool true)) (.tmp 134))), none⟩] [])
def b5_5 : HCode :=
  (.region [
            ⟨(some 108), (.op (.mv (.tmp 7))), none⟩,
            ⟨(some 109), (.call (.cst (.func (.func 26) [] [])) [(.tmp 108)]), none⟩,
            ⟨(some 107), (.op (.mv (.tmp 109))), none⟩,
            ⟨(some 110), (.op (.ext 0 (.tmp 107))), none⟩,
            ⟨(some 111), (.op (.ext 1 (.tmp 107))), none⟩,
            ⟨(some 18), (.op (.box (.cst (.agg [(.int .i64 0), (.str []), .nilSlice])))), none⟩,
            ⟨none, (.op (.store 3 (.tmp 18) (.tmp 110))), none⟩,
            ⟨(some 19), (.op (.mv (.tmp 111))), none⟩] [])
def b5_6 : HCode :=
  (.seq (.region [
            ⟨(some 112), (.op (.faddr 3 (.tmp 10))), none⟩,
            ⟨(some 113), (.op (.load none (.tmp 112))), none⟩,
            ⟨(some 114), (.op (.build [(.int .i64 0), (.str []), .nilSlice] [(0, 1, (.cst (.int .i64 3))), (2, 1, (.tmp 113))])), none⟩,
            ⟨(some 20), (.op (.box (.cst (.agg [(.int .i64 0), (.str []), .nilSlice])))), none⟩,
            ⟨none, (.op (.store 3 (.tmp 20) (.tmp 114))), none⟩] []) (.seq (.seq (.region [
            ⟨(some 115), (.op (.faddr 3 (.tmp 10))), none⟩,
            ⟨(some 116), (.op (.load none (.tmp 115))), none⟩,
            ⟨(some 117), (.op (.len .slice (.tmp 116))), none⟩,
            ⟨(some 118), (.op (.mv (.tmp 0))), none⟩,
            ⟨(some 119), (.op (.bin .gtr none (.tmp 117) (.tmp 118))), none⟩] []) b5_3) (.seq b5_4 (.cond (.tmp 135) (.seq (.region [
              ⟨(some 6), (.op (.mv (.cst (.bool false)))), none⟩] []) .ret) .skip))))
def b5_7 : HCode :=
  (.seq (.seq (.region [
            ⟨(some 99), (.op (.faddr 1 (.tmp 10))), none⟩,
            ⟨(some 100), (.op (.load none (.tmp 99))), none⟩,
            ⟨(some 101), (.op (.un .not (.tmp 100))), none⟩] []) (.cond (.tmp 101) (.exit 1) .skip)) (.seq (.region [
            ⟨(some 102), (.op (.mv (.tmp 7))), none⟩,
            ⟨(some 103), (.op (.faddr 3 (.tmp 10))), none⟩,
            ⟨(some 104), (.op (.load none (.tmp 103))), none⟩,
            ⟨(some 105), (.op (.len .slice (.tmp 104))), none⟩,
            ⟨(some 106), (.call (.cst (.func (.func 27) [] [])) [(.tmp 102), (.tmp 105)]), none⟩,
            ⟨(some 17), (.op (.mv (.tmp 106))), none⟩] []) (.seq b5_5 b5_6)))
def b5_8 : HCode :=
  (.region [
            ⟨(some 83), (.op (.mv (.tmp 7))), none⟩,
            ⟨(some 84), (.call (.cst (.func (.func 26) [] [])) [(.tmp 83)]), none⟩,
            ⟨(some 82), (.op (.mv (.tmp 84))), none⟩,
            ⟨(some 85), (.op (.ext 0 (.tmp 82))), none⟩,
            ⟨(some 86), (.op (.ext 1 (.tmp 82))), none⟩,
            ⟨(some 14), (.op (.box (.cst (.agg [(.int .i64 0), (.str []), .nilSlice])))), none⟩,
            ⟨none, (.op (.store 3 (.tmp 14) (.tmp 85))), none⟩,
            ⟨(some 15), (.op (.mv (.tmp 86))), none⟩] [])
def b5_9 : HCode :=
  (.seq (.region [
            ⟨(some 87), (.op (.mv (.tmp 12))), none⟩,
            ⟨(some 88), (.op (.build [(.int .i64 0), (.str []), .nilSlice] [(0, 1, (.cst (.int .i64 1))), (1, 1, (.tmp 87))])), none⟩,
            ⟨(some 16), (.op (.box (.cst (.agg [(.int .i64 0), (.str []), .nilSlice])))), none⟩,
            ⟨none, (.op (.store 3 (.tmp 16) (.tmp 88))), none⟩] []) (.seq (.seq (.region [
            ⟨(some 89), (.op (.mv (.tmp 13))), none⟩] []) (.cond (.tmp 89) (.region [
              ⟨(some 90), (.op (.build [(.int .i64 0), (.str []), .nilSlice] [(0, 1, (.cst (.int .i64 2)))])), none⟩,
              ⟨none, (.op (.store 3 (.tmp 16) (.tmp 90))), none⟩] []) .skip)) (.seq (.seq b5_2 (.cond (.tmp 98) (.seq (.region [
              ⟨(some 6), (.op (.mv (.cst (.bool false)))), none⟩] []) .ret) .skip)) b5_7)))
def b5_10 : HCode :=
  (.seq (.region [
            ⟨(some 71), (.op (.faddr 1 (.tmp 10))), none⟩,
            ⟨(some 72), (.op (.load none (.tmp 71))), none⟩,
            ⟨(some 73), (.op (.mv (.tmp 72))), none⟩,
            ⟨(some 74), (.op (.mv (.tmp 13))), (some (73, true))⟩,
            ⟨(some 75), (.op (.pick (.tmp 73) (.tmp 74) (.cst (.bool false)))), none⟩] []) (.cond (.tmp 75) (.region [
              ⟨(some 76), (.op (.faddr 1 (.tmp 10))), none⟩,
              ⟨none, (.op (.store 1 (.tmp 76) (.cst (.bool false)))), none⟩] []) .skip))
def b5_11 : HCode :=
  (.seq (.region [
            ⟨(some 68), (.op (.mv (.tmp 12))), none⟩,
            ⟨(some 69), (.op (.len .str (.tmp 68))), none⟩,
            ⟨(some 70), (.op (.bin .gtr none (.tmp 69) (.cst (.int .i64 222)))), none⟩,
            ⟨(some 13), (.op (.mv (.tmp 70))), none⟩] []) (.seq b5_10 (.seq (.region [
            ⟨(some 77), (.op (.mv (.tmp 7))), none⟩,
            ⟨(some 78), (.op (.load (some 4) (.tmp 10))), none⟩,
            ⟨(some 79), (.call (.cst (.func (.func 25) [] [])) [(.tmp 78)]), none⟩,
            ⟨(some 80), (.op (.mv (.tmp 11))), none⟩,
            ⟨(some 81), (.call (.cst (.func (.func 24) [] [])) [(.tmp 77), (.tmp 79), (.tmp 80)]), none⟩] []) (.seq b5_8 b5_9))))
def b5_12 : HCode :=
  (.seq (.region [
            ⟨(some 57), (.op (.mv (.tmp 9))), none⟩,
            ⟨(some 58), (.op (.mv (.tmp 2))), none⟩,
            ⟨(some 59), (.op (.len .slice (.tmp 58))), none⟩,
            ⟨(some 60), (.op (.bin .lss none (.tmp 57) (.tmp 59))), none⟩] []) (.cond (.tmp 60) (.region [
              ⟨(some 61), (.op (.mv (.tmp 2))), none⟩,
              ⟨(some 62), (.op (.mv (.tmp 9))), none⟩,
              ⟨(some 63), (.op (.idxS 1 (.tmp 61) (.tmp 62))), none⟩,
              ⟨(some 64), (.op (.load none (.tmp 63))), none⟩,
              ⟨(some 11), (.op (.mv (.tmp 64))), none⟩] []) .skip))
def b5_13 : HCode :=
  (.seq (.region [
            ⟨(some 54), (.op (.mv (.tmp 52))), none⟩,
            ⟨(some 55), (.op (.idxS 4 (.tmp 50) (.tmp 52))), none⟩,
            ⟨(some 56), (.op (.load (some 4) (.tmp 55))), none⟩,
            ⟨(some 10), (.op (.box (.cst (.agg [(.str []), (.bool false), (.bool false), .nilSlice])))), none⟩,
            ⟨(some 9), (.op (.mv (.tmp 54))), none⟩,
            ⟨none, (.op (.store 4 (.tmp 10) (.tmp 56))), none⟩] []) (.seq (.region [
            ⟨(some 11), (.op (.mv (.cst (.int .i64 0)))), none⟩] []) (.seq b5_12 (.seq (.region [
            ⟨(some 65), (.op (.faddr 0 (.tmp 10))), none⟩,
            ⟨(some 66), (.op (.load none (.tmp 65))), none⟩,
            ⟨(some 67), (.call (.cst (.func (.func 23) [] [])) [(.tmp 66)]), none⟩,
            ⟨(some 12), (.op (.mv (.tmp 67))), none⟩] []) b5_11))))
def b5_14 : HCode :=
  (.region [
      ⟨(some 142), (.op (.mv (.tmp 22))), none⟩,
      ⟨(some 143), (.op (.un .not (.tmp 142))), none⟩,
      ⟨(some 144), (.op (.mv (.tmp 143))), none⟩,
      ⟨(some 145), (.op (.mv (.tmp 7))), (some (144, true))⟩,
      ⟨(some 146), (.call (.cst (.func (.func 14) [] [])) [(.tmp 145)]), (some (144, true))⟩,
      ⟨(some 147), (.op (.bin .eql (some .int) (.tmp 146) (.cst (.int .i64 0)))), (some (144, true))⟩,
      ⟨(some 148), (.op (.pick (.tmp 144) (.tmp 147) (.cst (.bool false)))), none⟩,
      ⟨(some 6), (.op (.mv (.tmp 148))), none⟩] [])
def b5_15 : HCode :=
  (.seq (.region [
      ⟨(some 50), (.op (.mv (.tmp 1))), none⟩,
      ⟨(some 51), (.op (.len .slice (.tmp 50))), none⟩,
      ⟨(some 52), (.op (.mv (.cst (.int .i64 0)))), none⟩] []) (.block 0 (.loop (.seq (.region [
          ⟨(some 53), (.op (.bin .lss none (.tmp 52) (.tmp 51))), none⟩] []) (.seq (.cond (.tmp 53) .skip (.exit 0)) (.seq (.block 1 b5_13) (.region [
          ⟨(some 136), (.op (.bin .add none (.tmp 52) (.cst (.int .i64 1)))), none⟩,
          ⟨(some 52), (.op (.mv (.tmp 136))), none⟩] [])))))))
def b5_16 : HCode :=
  (.seq (.region [
      ⟨(some 138), (.op (.mv (.tmp 7))), none⟩,
      ⟨(some 139), (.call (.cst (.func (.func 26) [] [])) [(.tmp 138)]), none⟩,
      ⟨(some 137), (.op (.mv (.tmp 139))), none⟩,
      ⟨(some 140), (.op (.ext 0 (.tmp 137))), none⟩,
      ⟨(some 141), (.op (.ext 1 (.tmp 137))), none⟩,
      ⟨(some 21), (.op (.box (.cst (.agg [(.int .i64 0), (.str []), .nilSlice])))), none⟩,
      ⟨none, (.op (.store 3 (.tmp 21) (.tmp 140))), none⟩,
      ⟨(some 22), (.op (.mv (.tmp 141))), none⟩] []) (.seq b5_14 .ret))
def b5_17 : HCode :=
  (.seq (.region [
      ⟨(some 44), (.op (.mv (.tmp 8))), none⟩,
      ⟨(some 45), (.op (.bin .neq (some .int) (.tmp 44) (.cst (.int .i64 0)))), none⟩,
      ⟨(some 46), (.op (.mv (.tmp 45))), none⟩,
      ⟨(some 47), (.op (.mv (.tmp 7))), (some (46, false))⟩,
      ⟨(some 48), (.op (.bin .eql (some .ptrN) (.tmp 47) (.cst .nilPtr))), (some (46, false))⟩,
      ⟨(some 49), (.op (.pick (.tmp 46) (.cst (.bool true)) (.tmp 48))), none⟩] []) (.cond (.tmp 49) (.seq (.region [
        ⟨(some 6), (.op (.mv (.cst (.bool false)))), none⟩] []) .ret) .skip))
def b5_18 : HCode :=
  (.seq (.seq (.region [
      ⟨(some 32), (.op (.mv (.tmp 0))), none⟩,
      ⟨(some 33), (.op (.bin .lss none (.tmp 32) (.cst (.int .i64 1)))), none⟩,
      ⟨(some 34), (.op (.mv (.tmp 33))), none⟩,
      ⟨(some 35), (.op (.mv (.tmp 0))), (some (34, false))⟩,
      ⟨(some 36), (.op (.bin .gtr none (.tmp 35) (.cst (.int .i64 65535)))), (some (34, false))⟩,
      ⟨(some 37), (.op (.pick (.tmp 34) (.cst (.bool true)) (.tmp 36))), none⟩] []) (.cond (.tmp 37) b5_1 .skip)) (.seq b5_17 (.seq b5_15 b5_16)))
def b5_19 : HCode :=
  (.seq (.seq (.region [
      ⟨(some 25), (.call (.cst (.func (.func 9) [] [])) []), none⟩,
      ⟨(some 26), (.op (.un .not (.tmp 25))), none⟩] []) (.cond (.tmp 26) (.seq (.region [
        ⟨(some 6), (.op (.mv (.cst (.bool false)))), none⟩] []) .ret) .skip)) (.seq (.region [
      ⟨(some 28), (.op (.mv (.tmp 0))), none⟩,
      ⟨(some 29), (.call (.cst (.func (.func 17) [] [])) [(.tmp 28)]), none⟩,
      ⟨(some 27), (.op (.mv (.tmp 29))), none⟩,
      ⟨(some 30), (.op (.ext 0 (.tmp 27))), none⟩,
      ⟨(some 31), (.op (.ext 1 (.tmp 27))), none⟩,
      ⟨(some 7), (.op (.mv (.tmp 30))), none⟩,
      ⟨(some 8), (.op (.mv (.tmp 31))), none⟩] []) b5_18))
set_option linter.defProp false in
def ub5 :=
  And.intro (hw_unf b5_1.eq_1) <|
  And.intro (hw_unf b5_2.eq_1) <|
  And.intro (hw_unf b5_3.eq_1) <|
  And.intro (hw_unf b5_4.eq_1) <|
  And.intro (hw_unf b5_5.eq_1) <|
  And.intro (hw_unf b5_6.eq_1) <|
  And.intro (hw_unf b5_7.eq_1) <|
  And.intro (hw_unf b5_8.eq_1) <|
  And.intro (hw_unf b5_9.eq_1) <|
  And.intro (hw_unf b5_10.eq_1) <|
  And.intro (hw_unf b5_11.eq_1) <|
  And.intro (hw_unf b5_12.eq_1) <|
  And.intro (hw_unf b5_13.eq_1) <|
  And.intro (hw_unf b5_14.eq_1) <|
  And.intro (hw_unf b5_15.eq_1) <|
  And.intro (hw_unf b5_16.eq_1) <|
  And.intro (hw_unf b5_17.eq_1) <|
  And.intro (hw_unf b5_18.eq_1) <|
  hw_unf b5_19.eq_1
def h5 : HFn :=
  ⟨149, [(.tmp 6)], (.seq (.region [
      ⟨(some 6), (.op (.mv (.cst (.bool false)))), none⟩] []) (.seq (.seq (.region [
      ⟨(some 23), (.op (.mv (.tmp 1))), none⟩,
      ⟨(some 24), (.call (.cst (.func (.func 22) [] [])) [(.tmp 23)]), none⟩] []) (.cond (.tmp 24) (.seq (.region [
        ⟨(some 6), (.op (.mv (.cst (.bool true)))), none⟩] []) .ret) .skip)) b5_19))⟩
theorem c5 : cFn Try.prog [] Try.f5 = some h5 := by kernel_rfl
/-- (*stint/stintlaw06.reader).drain -/
def b19_1 : HCode :=
  (.draw [
                ⟨(some 37), (.op (.mv (.tmp 0))), none⟩,
                ⟨(some 38), (.op (.nilc (.tmp 37))), none⟩,
                ⟨(some 39), (.op (.faddr 0 (.tmp 38))), none⟩,
                ⟨(some 40), (.op (.load none (.tmp 39))), none⟩,
                ⟨(some 41), (.op (.mv (.tmp 0))), none⟩,
                ⟨(some 42), (.op (.nilc (.tmp 41))), none⟩,
                ⟨(some 43), (.op (.faddr 1 (.tmp 42))), none⟩,
                ⟨(some 44), (.op (.load none (.tmp 43))), none⟩,
                ⟨(some 45), (.op (.mv (.tmp 0))), none⟩,
                ⟨(some 46), (.op (.nilc (.tmp 45))), none⟩,
                ⟨(some 47), (.op (.faddr 2 (.tmp 46))), none⟩,
                ⟨(some 48), (.op (.load none (.tmp 47))), none⟩,
                ⟨(some 49), (.op (.idxS 1 (.tmp 44) (.tmp 48))), none⟩,
                ⟨(some 50), (.op (.load none (.tmp 49))), none⟩,
                ⟨(some 51), (.call (.cst (.func (.func 27) [] [])) [(.tmp 40), (.tmp 50)]), none⟩] [0, 1, 2, 3, 4, 5, 6, 7, 8, 9, 10, 11, 12, 13, 14] [[], [], [], [], [], [], [], [], [], [], [], [], [], [], [3, 13, 12, 7, 11]] [])
def b19_2 : HCode :=
  (.draw [
              ⟨(some 27), (.op (.mv (.tmp 0))), none⟩,
              ⟨(some 28), (.op (.nilc (.tmp 27))), none⟩,
              ⟨(some 29), (.op (.faddr 2 (.tmp 28))), none⟩,
              ⟨(some 30), (.op (.load none (.tmp 29))), none⟩,
              ⟨(some 31), (.op (.mv (.tmp 0))), none⟩,
              ⟨(some 32), (.op (.nilc (.tmp 31))), none⟩,
              ⟨(some 33), (.op (.faddr 1 (.tmp 32))), none⟩,
              ⟨(some 34), (.op (.load none (.tmp 33))), none⟩,
              ⟨(some 35), (.op (.len .slice (.tmp 34))), none⟩,
              ⟨(some 36), (.op (.bin .lss none (.tmp 30) (.tmp 35))), none⟩] [0, 1, 2, 3, 4, 5, 6, 7, 8, 9] [[], [], [], [], [], [], [], [], [], []] [])
def b19_3 : HCode :=
  (.region [
              ⟨(some 52), (.op (.mv (.tmp 0))), none⟩,
              ⟨(some 53), (.op (.nilc (.tmp 52))), none⟩,
              ⟨(some 54), (.op (.faddr 2 (.tmp 53))), none⟩,
              ⟨(some 55), (.op (.load none (.tmp 54))), none⟩,
              ⟨(some 56), (.op (.bin .add none (.tmp 55) (.cst (.int .i64 1)))), none⟩,
              ⟨(some 57), (.op (.nilc (.tmp 52))), none⟩,
              ⟨(some 58), (.op (.faddr 2 (.tmp 57))), none⟩,
              ⟨none, (.op (.store 1 (.tmp 58) (.tmp 56))), none⟩] [])
def b19_4 : HCode :=
  (.draw [
            ⟨(some 14), (.op (.mv (.tmp 0))), none⟩,
            ⟨(some 15), (.op (.mv (.tmp 0))), none⟩,
            ⟨(some 16), (.op (.nilc (.tmp 15))), none⟩,
            ⟨(some 17), (.op (.faddr 3 (.tmp 16))), none⟩,
            ⟨(some 18), (.op (.load none (.tmp 17))), none⟩,
            ⟨(some 19), (.op (.load (some 3) (.tmp 2))), none⟩,
            ⟨(some 20), (.op (.bslice 3 1 [(.int .i64 0), (.str []), .nilSlice] [(0, 3, (.tmp 19))])), none⟩,
            ⟨(some 21), (.op (.append 3 48 (.tmp 18) (.tmp 20))), none⟩,
            ⟨(some 22), (.op (.nilc (.tmp 14))), none⟩,
            ⟨(some 23), (.op (.faddr 3 (.tmp 22))), none⟩,
            ⟨none, (.op (.store 1 (.tmp 23) (.tmp 21))), none⟩] [0, 1, 2, 3, 4, 5, 6, 7, 8, 9, 10] [[], [], [], [], [], [], [5], [4, 5], [], [], [4, 5]] [])
def b19_5 : HCode :=
  (.region [
            ⟨(some 5), (.op (.mv (.tmp 0))), none⟩,
            ⟨(some 6), (.op (.nilc (.tmp 5))), none⟩,
            ⟨(some 7), (.op (.faddr 0 (.tmp 6))), none⟩,
            ⟨(some 8), (.op (.load none (.tmp 7))), none⟩,
            ⟨(some 9), (.call (.cst (.func (.func 26) [] [])) [(.tmp 8)]), none⟩,
            ⟨(some 4), (.op (.mv (.tmp 9))), none⟩,
            ⟨(some 10), (.op (.ext 0 (.tmp 4))), none⟩,
            ⟨(some 11), (.op (.ext 1 (.tmp 4))), none⟩,
            ⟨(some 2), (.op (.box (.cst (.agg [(.int .i64 0), (.str []), .nilSlice])))), none⟩,
            ⟨none, (.op (.store 3 (.tmp 2) (.tmp 10))), none⟩,
            ⟨(some 3), (.op (.mv (.tmp 11))), none⟩] [])
def b19_6 : HCode :=
  (.seq b19_5 (.seq (.seq (.region [
            ⟨(some 12), (.op (.mv (.tmp 3))), none⟩,
            ⟨(some 13), (.op (.un .not (.tmp 12))), none⟩] []) (.cond (.tmp 13) .ret .skip)) (.seq b19_4 (.seq (.region [
            ⟨(some 24), (.op (.faddr 0 (.tmp 2))), none⟩,
            ⟨(some 25), (.op (.load none (.tmp 24))), none⟩,
            ⟨(some 26), (.op (.bin .eql (some .int) (.tmp 25) (.cst (.int .i64 1)))), none⟩] []) (.cond (.tmp 26) (.seq (.seq b19_2 (.cond (.tmp 36) b19_1 .skip)) b19_3) .skip)))))
set_option linter.defProp false in
def ub19 :=
  And.intro (hw_unf b19_1.eq_1) <|
  And.intro (hw_unf b19_2.eq_1) <|
  And.intro (hw_unf b19_3.eq_1) <|
  And.intro (hw_unf b19_4.eq_1) <|
  And.intro (hw_unf b19_5.eq_1) <|
  hw_unf b19_6.eq_1
def h19 : HFn :=
  ⟨59, [], (.block 0 (.loop (.block 1 b19_6)))⟩
theorem c19 : cFn Try.prog [] Try.f19 = some h19 := by kernel_rfl
/-- stint/stintlaw06.parts -/
def b22_1 : HCode :=
  (.region [
          ⟨(some 7), (.op (.mv (.tmp 4))), none⟩,
          ⟨(some 8), (.op (.mv (.tmp 0))), none⟩,
          ⟨(some 9), (.op (.len .slice (.tmp 8))), none⟩,
          ⟨(some 10), (.op (.bin .lss none (.tmp 7) (.tmp 9))), none⟩,
          ⟨(some 11), (.op (.mv (.tmp 10))), none⟩,
          ⟨(some 12), (.op (.mv (.tmp 3))), (some (11, true))⟩,
          ⟨(some 13), (.op (.bin .leq none (.tmp 12) (.cst (.int .i64 2147483647)))), (some (11, true))⟩,
          ⟨(some 14), (.op (.pick (.tmp 11) (.tmp 13) (.cst (.bool false)))), none⟩] [])
def b22_2 : HCode :=
  (.draw [
            ⟨(some 17), (.op (.mv (.tmp 3))), none⟩,
            ⟨(some 18), (.op (.mv (.tmp 0))), none⟩,
            ⟨(some 19), (.op (.mv (.tmp 4))), none⟩,
            ⟨(some 20), (.op (.idxS 4 (.tmp 18) (.tmp 19))), none⟩,
            ⟨(some 21), (.op (.faddr 0 (.tmp 20))), none⟩,
            ⟨(some 22), (.op (.load none (.tmp 21))), none⟩,
            ⟨(some 23), (.op (.len .str (.tmp 22))), none⟩,
            ⟨(some 24), (.op (.mv (.tmp 0))), none⟩,
            ⟨(some 25), (.op (.mv (.tmp 4))), none⟩,
            ⟨(some 26), (.op (.idxS 4 (.tmp 24) (.tmp 25))), none⟩,
            ⟨(some 27), (.op (.faddr 3 (.tmp 26))), none⟩,
            ⟨(some 28), (.op (.load none (.tmp 27))), none⟩,
            ⟨(some 29), (.op (.len .slice (.tmp 28))), none⟩,
            ⟨(some 30), (.op (.bin .add none (.tmp 23) (.tmp 29))), none⟩,
            ⟨(some 31), (.op (.bin .add none (.tmp 30) (.cst (.int .i64 4)))), none⟩,
            ⟨(some 32), (.op (.bin .add none (.tmp 17) (.tmp 31))), none⟩,
            ⟨(some 3), (.op (.mv (.tmp 32))), none⟩] [0, 1, 2, 3, 4, 5, 6, 7, 8, 9, 10, 11, 12, 13, 14, 15, 16] [[], [], [], [], [], [], [], [], [], [], [], [], [], [], [], [], []] [])
def b22_3 : HCode :=
  (.seq (.seq (.region [
      ⟨(some 4), (.op (.mv (.cst (.int .i64 0)))), none⟩] []) (.block 0 (.loop (.seq (.seq b22_1 (.cond (.tmp 14) .skip (.exit 0))) (.seq (.block 1 b22_2) (.region [
          ⟨(some 15), (.op (.mv (.tmp 4))), none⟩,
          ⟨(some 16), (.op (.bin .add none (.tmp 15) (.cst (.int .i64 1)))), none⟩,
          ⟨(some 4), (.op (.mv (.tmp 16))), none⟩] [])))))) (.seq (.region [
      ⟨(some 33), (.op (.mv (.tmp 3))), none⟩,
      ⟨(some 34), (.op (.bin .gtr none (.tmp 33) (.cst (.int .i64 2147483647)))), none⟩,
      ⟨(some 2), (.op (.mv (.tmp 34))), none⟩] []) .ret))
set_option linter.defProp false in
def ub22 :=
  And.intro (hw_unf b22_1.eq_1) <|
  And.intro (hw_unf b22_2.eq_1) <|
  hw_unf b22_3.eq_1
def h22 : HFn :=
  ⟨35, [(.tmp 2)], (.seq (.region [
      ⟨(some 2), (.op (.mv (.cst (.bool false)))), none⟩] []) (.seq (.region [
      ⟨(some 5), (.op (.mv (.tmp 0))), none⟩,
      ⟨(some 6), (.op (.len .slice (.tmp 5))), none⟩,
      ⟨(some 3), (.op (.mv (.tmp 6))), none⟩] []) b22_3))⟩
theorem c22 : cFn Try.prog [] Try.f22 = some h22 := by kernel_rfl
/-- stint/stintlaw06.fed -/
def b24_1 : HCode :=
  (.seq (.region [
      ⟨(some 20), (.op (.mv (.tmp 0))), none⟩,
      ⟨(some 21), (.op (.mv (.tmp 1))), none⟩,
      ⟨(some 22), (.op (.mv (.tmp 7))), none⟩,
      ⟨(some 23), (.op (.mv (.tmp 6))), none⟩,
      ⟨(some 24), (.op (.sliceSl 1 (.tmp 21) (some (.tmp 22)) (some (.tmp 23)) none)), none⟩,
      ⟨(some 25), (.call (.cst (.func (.func 18) [] [])) [(.tmp 20), (.tmp 24)]), none⟩] []) (.region [
      ⟨(some 26), (.op (.mv (.tmp 0))), none⟩,
      ⟨(some 27), (.op (.mv (.tmp 1))), none⟩,
      ⟨(some 28), (.op (.mv (.tmp 6))), none⟩,
      ⟨(some 29), (.op (.sliceSl 1 (.tmp 27) (some (.tmp 28)) none none)), none⟩,
      ⟨(some 30), (.call (.cst (.func (.func 18) [] [])) [(.tmp 26), (.tmp 29)]), none⟩] []))
def b24_2 : HCode :=
  (.seq (.region [
      ⟨(some 13), (.op (.mv (.tmp 6))), none⟩,
      ⟨(some 14), (.op (.bin .quo none (.tmp 13) (.cst (.int .i64 2)))), none⟩,
      ⟨(some 7), (.op (.mv (.tmp 14))), none⟩] []) (.seq (.region [
      ⟨(some 15), (.op (.mv (.tmp 0))), none⟩,
      ⟨(some 16), (.op (.mv (.tmp 1))), none⟩,
      ⟨(some 17), (.op (.mv (.tmp 7))), none⟩,
      ⟨(some 18), (.op (.sliceSl 1 (.tmp 16) none (some (.tmp 17)) none)), none⟩,
      ⟨(some 19), (.call (.cst (.func (.func 18) [] [])) [(.tmp 15), (.tmp 18)]), none⟩] []) b24_1))
set_option linter.defProp false in
def ub24 :=
  And.intro (hw_unf b24_1.eq_1) <|
  hw_unf b24_2.eq_1
def h24 : HFn :=
  ⟨31, [], (.seq (.region [
      ⟨(some 8), (.op (.mv (.tmp 2))), none⟩,
      ⟨(some 9), (.op (.mv (.tmp 1))), none⟩,
      ⟨(some 10), (.op (.len .slice (.tmp 9))), none⟩,
      ⟨(some 11), (.op (.bin .add none (.tmp 10) (.cst (.int .i64 1)))), none⟩,
      ⟨(some 12), (.call (.cst (.func (.func 20) [] [])) [(.tmp 8), (.tmp 11)]), none⟩,
      ⟨(some 6), (.op (.mv (.tmp 12))), none⟩] []) b24_2)⟩
theorem c24 : cFn Try.prog [] Try.f24 = some h24 := by kernel_rfl
/-- stint/stintlaw06.said -/
def b25_1 : HCode :=
  (.seq (.seq (.region [
      ⟨(some 18), (.op (.faddr 2 (.tmp 1))), none⟩,
      ⟨(some 19), (.op (.load none (.tmp 18))), none⟩] []) (.cond (.tmp 19) (.seq (.region [
        ⟨(some 20), (.op (.mv (.tmp 3))), none⟩,
        ⟨(some 21), (.op (.bslice 1 2 [(.int .u8 0), (.int .u8 0)] [(0, 1, (.cst (.int .u8 10))), (1, 1, (.cst (.int .u8 13)))])), none⟩,
        ⟨(some 22), (.op (.append 1 1 (.tmp 20) (.tmp 21))), none⟩,
        ⟨(some 2), (.op (.mv (.tmp 22))), none⟩] []) .ret) .skip)) (.seq (.region [
      ⟨(some 23), (.op (.mv (.tmp 3))), none⟩,
      ⟨(some 24), (.op (.bslice 1 2 [(.int .u8 0), (.int .u8 0)] [(0, 1, (.cst (.int .u8 13))), (1, 1, (.cst (.int .u8 10)))])), none⟩,
      ⟨(some 25), (.op (.append 1 1 (.tmp 23) (.tmp 24))), none⟩,
      ⟨(some 2), (.op (.mv (.tmp 25))), none⟩] []) .ret))
def b25_2 : HCode :=
  (.seq (.seq (.region [
      ⟨(some 10), (.op (.faddr 1 (.tmp 1))), none⟩,
      ⟨(some 11), (.op (.load none (.tmp 10))), none⟩,
      ⟨(some 12), (.op (.un .not (.tmp 11))), none⟩] []) (.cond (.tmp 12) (.seq (.region [
        ⟨(some 13), (.op (.mv (.tmp 3))), none⟩,
        ⟨(some 2), (.op (.mv (.tmp 13))), none⟩] []) .ret) .skip)) (.seq (.region [
      ⟨(some 14), (.op (.mv (.tmp 3))), none⟩,
      ⟨(some 15), (.op (.faddr 3 (.tmp 1))), none⟩,
      ⟨(some 16), (.op (.load none (.tmp 15))), none⟩,
      ⟨(some 17), (.op (.append 1 1 (.tmp 14) (.tmp 16))), none⟩,
      ⟨(some 3), (.op (.mv (.tmp 17))), none⟩] []) b25_1))
set_option linter.defProp false in
def ub25 :=
  And.intro (hw_unf b25_1.eq_1) <|
  hw_unf b25_2.eq_1
def h25 : HFn :=
  ⟨26, [(.tmp 2)], (.seq (.region [
      ⟨(some 1), (.op (.box (.tmp 0))), none⟩,
      ⟨(some 2), (.op (.mv (.cst .nilSlice))), none⟩] []) (.seq (.region [
      ⟨(some 4), (.op (.faddr 0 (.tmp 1))), none⟩,
      ⟨(some 5), (.op (.load none (.tmp 4))), none⟩,
      ⟨(some 6), (.call (.cst (.func (.func 23) [] [])) [(.tmp 5)]), none⟩,
      ⟨(some 7), (.op (.s2b (.tmp 6))), none⟩,
      ⟨(some 8), (.op (.bslice 1 2 [(.int .u8 0), (.int .u8 0)] [(0, 1, (.cst (.int .u8 13))), (1, 1, (.cst (.int .u8 10)))])), none⟩,
      ⟨(some 9), (.op (.append 1 1 (.tmp 7) (.tmp 8))), none⟩,
      ⟨(some 3), (.op (.mv (.tmp 9))), none⟩] []) b25_2))⟩
theorem c25 : cFn Try.prog [] Try.f25 = some h25 := by kernel_rfl
end Go.Proofs.Ytccfcegmaejlnaa
/- The functions, turned (written by program, each checked by the kernel). -/
namespace Go.Proofs.Ytccfcegmaejlnaa
open Go Go.HL
/-- stint/stintlaw06.alike -/
def b21_1 : HCode :=
  (.region [
      ⟨(some 5), (.op (.faddr 0 (.tmp 2))), none⟩,
      ⟨(some 6), (.op (.load none (.tmp 5))), none⟩,
      ⟨(some 7), (.op (.faddr 0 (.tmp 3))), none⟩,
      ⟨(some 8), (.op (.load none (.tmp 7))), none⟩,
      ⟨(some 9), (.op (.bin .eql (some .int) (.tmp 6) (.tmp 8))), none⟩,
      ⟨(some 10), (.op (.mv (.tmp 9))), none⟩,
      ⟨(some 11), (.op (.faddr 1 (.tmp 2))), (some (10, true))⟩,
      ⟨(some 12), (.op (.load none (.tmp 11))), (some (10, true))⟩,
      ⟨(some 13), (.op (.faddr 1 (.tmp 3))), (some (10, true))⟩,
      ⟨(some 14), (.op (.load none (.tmp 13))), (some (10, true))⟩,
      ⟨(some 15), (.op (.bin .eql (some .str) (.tmp 12) (.tmp 14))), (some (10, true))⟩,
      ⟨(some 16), (.op (.pick (.tmp 10) (.tmp 15) (.cst (.bool false)))), none⟩,
      ⟨(some 17), (.op (.mv (.tmp 16))), none⟩,
      ⟨(some 18), (.op (.faddr 2 (.tmp 2))), (some (17, true))⟩,
      ⟨(some 19), (.op (.load none (.tmp 18))), (some (17, true))⟩,
      ⟨(some 20), (.op (.faddr 2 (.tmp 3))), (some (17, true))⟩,
      ⟨(some 21), (.op (.load none (.tmp 20))), (some (17, true))⟩,
      ⟨(some 22), (.call (.cst (.func (.func 33) [] [])) [(.tmp 19), (.tmp 21)]), (some (17, true))⟩,
      ⟨(some 23), (.op (.pick (.tmp 17) (.tmp 22) (.cst (.bool false)))), none⟩,
      ⟨(some 4), (.op (.mv (.tmp 23))), none⟩] [])
set_option linter.defProp false in
def ub21 :=
  hw_unf b21_1.eq_1
def h21 : HFn :=
  ⟨24, [(.tmp 4)], (.seq (.region [
      ⟨(some 2), (.op (.box (.tmp 0))), none⟩,
      ⟨(some 3), (.op (.box (.tmp 1))), none⟩,
      ⟨(some 4), (.op (.mv (.cst (.bool false)))), none⟩] []) (.seq b21_1 .ret))⟩
theorem c21 : cFn Try.prog [] Try.f21 = some h21 := by kernel_rfl
end Go.Proofs.Ytccfcegmaejlnaa
/- The functions, turned (written by program, each checked by the kernel). -/
namespace Go.Proofs.Ytccfcegmaejlnaa
open Go Go.HL
/-- stint/stintlaw06.beyond -/
def b8_1 : HCode :=
  (.region [
          ⟨(some 7), (.op (.mv (.tmp 4))), none⟩,
          ⟨(some 8), (.op (.mv (.tmp 0))), none⟩,
          ⟨(some 9), (.op (.len .slice (.tmp 8))), none⟩,
          ⟨(some 10), (.op (.bin .lss none (.tmp 7) (.tmp 9))), none⟩,
          ⟨(some 11), (.op (.mv (.tmp 10))), none⟩,
          ⟨(some 12), (.op (.mv (.tmp 3))), (some (11, true))⟩,
          ⟨(some 13), (.op (.bin .leq none (.tmp 12) (.cst (.int .i64 2147483647)))), (some (11, true))⟩,
          ⟨(some 14), (.op (.pick (.tmp 11) (.tmp 13) (.cst (.bool false)))), none⟩] [])
def b8_2 : HCode :=
  (.region [
            ⟨(some 17), (.op (.mv (.tmp 3))), none⟩,
            ⟨(some 18), (.op (.mv (.tmp 0))), none⟩,
            ⟨(some 19), (.op (.mv (.tmp 4))), none⟩,
            ⟨(some 20), (.op (.idxS 4 (.tmp 18) (.tmp 19))), none⟩,
            ⟨(some 21), (.op (.faddr 3 (.tmp 20))), none⟩,
            ⟨(some 22), (.op (.load none (.tmp 21))), none⟩,
            ⟨(some 23), (.op (.len .slice (.tmp 22))), none⟩,
            ⟨(some 24), (.op (.bin .add none (.tmp 17) (.tmp 23))), none⟩,
            ⟨(some 3), (.op (.mv (.tmp 24))), none⟩] [])
def b8_3 : HCode :=
  (.seq (.seq (.region [
      ⟨(some 4), (.op (.mv (.cst (.int .i64 0)))), none⟩] []) (.block 0 (.loop (.seq (.seq b8_1 (.cond (.tmp 14) .skip (.exit 0))) (.seq (.block 1 b8_2) (.region [
          ⟨(some 15), (.op (.mv (.tmp 4))), none⟩,
          ⟨(some 16), (.op (.bin .add none (.tmp 15) (.cst (.int .i64 1)))), none⟩,
          ⟨(some 4), (.op (.mv (.tmp 16))), none⟩] [])))))) (.seq (.region [
      ⟨(some 25), (.op (.mv (.tmp 3))), none⟩,
      ⟨(some 26), (.op (.bin .gtr none (.tmp 25) (.cst (.int .i64 2147483647)))), none⟩,
      ⟨(some 2), (.op (.mv (.tmp 26))), none⟩] []) .ret))
set_option linter.defProp false in
def ub8 :=
  And.intro (hw_unf b8_1.eq_1) <|
  And.intro (hw_unf b8_2.eq_1) <|
  hw_unf b8_3.eq_1
def h8 : HFn :=
  ⟨27, [(.tmp 2)], (.seq (.region [
      ⟨(some 2), (.op (.mv (.cst (.bool false)))), none⟩] []) (.seq (.region [
      ⟨(some 5), (.op (.mv (.tmp 0))), none⟩,
      ⟨(some 6), (.op (.len .slice (.tmp 5))), none⟩,
      ⟨(some 3), (.op (.mv (.tmp 6))), none⟩] []) b8_3))⟩
theorem c8 : cFn Try.prog [] Try.f8 = some h8 := by kernel_rfl
/-- stint/stintlaw06.shown -/
def b9_1 : HCode :=
  (.region [
      ⟨(some 12), (.op (.mv (.tmp 2))), none⟩,
      ⟨(some 13), (.op (.bin .neq (some .int) (.tmp 12) (.cst (.int .i64 0)))), none⟩,
      ⟨(some 14), (.op (.mv (.tmp 13))), none⟩,
      ⟨(some 15), (.op (.mv (.tmp 1))), (some (14, false))⟩,
      ⟨(some 16), (.op (.bin .eql (some .ptrN) (.tmp 15) (.cst .nilPtr))), (some (14, false))⟩,
      ⟨(some 17), (.op (.pick (.tmp 14) (.cst (.bool true)) (.tmp 16))), none⟩,
      ⟨(some 18), (.op (.mv (.tmp 17))), none⟩,
      ⟨(some 19), (.op (.mv (.tmp 1))), (some (18, false))⟩,
      ⟨(some 20), (.call (.cst (.func (.func 28) [] [])) [(.tmp 19)]), (some (18, false))⟩,
      ⟨(some 21), (.op (.bin .eql (some .ptrN) (.tmp 20) (.cst .nilPtr))), (some (18, false))⟩,
      ⟨(some 22), (.op (.pick (.tmp 18) (.cst (.bool true)) (.tmp 21))), none⟩] [])
def b9_2 : HCode :=
  (.region [
      ⟨(some 39), (.op (.mv (.tmp 4))), none⟩,
      ⟨(some 40), (.op (.mv (.tmp 39))), none⟩,
      ⟨(some 41), (.op (.faddr 0 (.tmp 3))), (some (40, true))⟩,
      ⟨(some 42), (.op (.load none (.tmp 41))), (some (40, true))⟩,
      ⟨(some 43), (.op (.bin .eql (some .int) (.tmp 42) (.cst (.int .i64 1)))), (some (40, true))⟩,
      ⟨(some 44), (.op (.pick (.tmp 40) (.tmp 43) (.cst (.bool false)))), none⟩,
      ⟨(some 45), (.op (.mv (.tmp 44))), none⟩,
      ⟨(some 46), (.op (.faddr 1 (.tmp 3))), (some (45, true))⟩,
      ⟨(some 47), (.op (.load none (.tmp 46))), (some (45, true))⟩,
      ⟨(some 48), (.op (.bin .eql (some .str) (.tmp 47) (.cst (.str [97, 98])))), (some (45, true))⟩,
      ⟨(some 49), (.op (.pick (.tmp 45) (.tmp 48) (.cst (.bool false)))), none⟩,
      ⟨(some 50), (.op (.mv (.tmp 49))), none⟩,
      ⟨(some 51), (.op (.mv (.tmp 5))), (some (50, true))⟩,
      ⟨(some 52), (.op (.bin .eql (some .int) (.tmp 51) (.cst (.int .i64 0)))), (some (50, true))⟩,
      ⟨(some 53), (.op (.pick (.tmp 50) (.tmp 52) (.cst (.bool false)))), none⟩,
      ⟨(some 54), (.op (.mv (.tmp 53))), none⟩,
      ⟨(some 55), (.op (.mv (.tmp 7))), (some (54, true))⟩,
      ⟨(some 56), (.op (.pick (.tmp 54) (.tmp 55) (.cst (.bool false)))), none⟩,
      ⟨(some 57), (.op (.mv (.tmp 56))), none⟩,
      ⟨(some 58), (.op (.faddr 0 (.tmp 6))), (some (57, true))⟩,
      ⟨(some 59), (.op (.load none (.tmp 58))), (some (57, true))⟩,
      ⟨(some 60), (.op (.bin .eql (some .int) (.tmp 59) (.cst (.int .i64 3)))), (some (57, true))⟩,
      ⟨(some 61), (.op (.pick (.tmp 57) (.tmp 60) (.cst (.bool false)))), none⟩,
      ⟨(some 62), (.op (.mv (.tmp 61))), none⟩,
      ⟨(some 63), (.op (.faddr 2 (.tmp 6))), (some (62, true))⟩,
      ⟨(some 64), (.op (.load none (.tmp 63))), (some (62, true))⟩,
      ⟨(some 65), (.op (.b2s (.tmp 64))), (some (62, true))⟩,
      ⟨(some 66), (.op (.bin .eql (some .str) (.tmp 65) (.cst (.str [120, 121, 122])))), (some (62, true))⟩,
      ⟨(some 67), (.op (.pick (.tmp 62) (.tmp 66) (.cst (.bool false)))), none⟩,
      ⟨(some 68), (.op (.mv (.tmp 67))), none⟩,
      ⟨(some 69), (.op (.mv (.tmp 1))), (some (68, true))⟩,
      ⟨(some 70), (.call (.cst (.func (.func 14) [] [])) [(.tmp 69)]), (some (68, true))⟩,
      ⟨(some 71), (.op (.bin .eql (some .int) (.tmp 70) (.cst (.int .i64 1)))), (some (68, true))⟩,
      ⟨(some 72), (.op (.pick (.tmp 68) (.tmp 71) (.cst (.bool false)))), none⟩,
      ⟨(some 0), (.op (.mv (.tmp 72))), none⟩] [])
def b9_3 : HCode :=
  (.seq (.region [
      ⟨(some 35), (.op (.mv (.tmp 1))), none⟩,
      ⟨(some 36), (.call (.cst (.func (.func 26) [] [])) [(.tmp 35)]), none⟩,
      ⟨(some 34), (.op (.mv (.tmp 36))), none⟩,
      ⟨(some 37), (.op (.ext 0 (.tmp 34))), none⟩,
      ⟨(some 38), (.op (.ext 1 (.tmp 34))), none⟩,
      ⟨(some 6), (.op (.box (.cst (.agg [(.int .i64 0), (.str []), .nilSlice])))), none⟩,
      ⟨none, (.op (.store 3 (.tmp 6) (.tmp 37))), none⟩,
      ⟨(some 7), (.op (.mv (.tmp 38))), none⟩] []) (.seq b9_2 .ret))
def b9_4 : HCode :=
  (.region [
      ⟨(some 23), (.op (.mv (.tmp 1))), none⟩,
      ⟨(some 24), (.op (.bslice 1 10 [(.int .u8 0), (.int .u8 0), (.int .u8 0), (.int .u8 0), (.int .u8 0), (.int .u8 0), (.int .u8 0), (.int .u8 0), (.int .u8 0), (.int .u8 0)] [(0, 1, (.cst (.int .u8 97))), (1, 1, (.cst (.int .u8 98))), (2, 1, (.cst (.int .u8 13))), (3, 1, (.cst (.int .u8 10))), (4, 1, (.cst (.int .u8 120))), (5, 1, (.cst (.int .u8 121))), (6, 1, (.cst (.int .u8 122))), (7, 1, (.cst (.int .u8 13))), (8, 1, (.cst (.int .u8 10))), (9, 1, (.cst (.int .u8 113)))])), none⟩,
      ⟨(some 25), (.op (.mark (.tmp 24))), none⟩,
      ⟨(some 26), (.call (.cst (.func (.func 18) [] [])) [(.tmp 23), (.tmp 25)]), none⟩] [])
def b9_5 : HCode :=
  (.seq (.region [
      ⟨(some 28), (.op (.mv (.tmp 1))), none⟩,
      ⟨(some 29), (.call (.cst (.func (.func 26) [] [])) [(.tmp 28)]), none⟩,
      ⟨(some 27), (.op (.mv (.tmp 29))), none⟩,
      ⟨(some 30), (.op (.ext 0 (.tmp 27))), none⟩,
      ⟨(some 31), (.op (.ext 1 (.tmp 27))), none⟩,
      ⟨(some 3), (.op (.box (.cst (.agg [(.int .i64 0), (.str []), .nilSlice])))), none⟩,
      ⟨none, (.op (.store 3 (.tmp 3) (.tmp 30))), none⟩,
      ⟨(some 4), (.op (.mv (.tmp 31))), none⟩] []) (.seq (.region [
      ⟨(some 32), (.op (.mv (.tmp 1))), none⟩,
      ⟨(some 33), (.call (.cst (.func (.func 27) [] [])) [(.tmp 32), (.cst (.int .i64 3))]), none⟩,
      ⟨(some 5), (.op (.mv (.tmp 33))), none⟩] []) b9_3))
set_option linter.defProp false in
def ub9 :=
  And.intro (hw_unf b9_1.eq_1) <|
  And.intro (hw_unf b9_2.eq_1) <|
  And.intro (hw_unf b9_3.eq_1) <|
  And.intro (hw_unf b9_4.eq_1) <|
  hw_unf b9_5.eq_1
def h9 : HFn :=
  ⟨73, [(.tmp 0)], (.seq (.region [
      ⟨(some 0), (.op (.mv (.cst (.bool false)))), none⟩] []) (.seq (.region [
      ⟨(some 9), (.call (.cst (.func (.func 17) [] [])) [(.cst (.int .i64 4))]), none⟩,
      ⟨(some 8), (.op (.mv (.tmp 9))), none⟩,
      ⟨(some 10), (.op (.ext 0 (.tmp 8))), none⟩,
      ⟨(some 11), (.op (.ext 1 (.tmp 8))), none⟩,
      ⟨(some 1), (.op (.mv (.tmp 10))), none⟩,
      ⟨(some 2), (.op (.mv (.tmp 11))), none⟩] []) (.seq (.seq b9_1 (.cond (.tmp 22) (.seq (.region [
        ⟨(some 0), (.op (.mv (.cst (.bool false)))), none⟩] []) .ret) .skip)) (.seq b9_4 b9_5))))⟩
theorem c9 : cFn Try.prog [] Try.f9 = some h9 := by kernel_rfl
/-- (*stint/stintlaw06.book).holds -/
def b12_1 : HCode :=
  (.region [
            ⟨(some 15), (.op (.mv (.tmp 4))), none⟩,
            ⟨(some 16), (.op (.mv (.tmp 0))), none⟩,
            ⟨(some 17), (.op (.nilc (.tmp 16))), none⟩,
            ⟨(some 18), (.op (.faddr 1 (.tmp 17))), none⟩,
            ⟨(some 19), (.op (.load none (.tmp 18))), none⟩,
            ⟨(some 20), (.op (.mv (.tmp 3))), none⟩,
            ⟨(some 21), (.op (.idxS 1 (.tmp 19) (.tmp 20))), none⟩,
            ⟨(some 22), (.op (.load none (.tmp 21))), none⟩,
            ⟨(some 23), (.call (.cst (.func (.func 33) [] [])) [(.tmp 15), (.tmp 22)]), none⟩,
            ⟨(some 24), (.op (.un .not (.tmp 23))), none⟩] [])
def b12_2 : HCode :=
  (.seq (.block 1 (.seq (.region [
            ⟨(some 12), (.op (.mv (.tmp 10))), none⟩,
            ⟨(some 13), (.op (.idxS 1 (.tmp 8) (.tmp 10))), none⟩,
            ⟨(some 14), (.op (.load none (.tmp 13))), none⟩,
            ⟨(some 3), (.op (.mv (.tmp 12))), none⟩,
            ⟨(some 4), (.op (.mv (.tmp 14))), none⟩] []) (.seq b12_1 (.cond (.tmp 24) (.seq (.region [
              ⟨(some 2), (.op (.mv (.cst (.bool false)))), none⟩] []) .ret) .skip)))) (.region [
          ⟨(some 25), (.op (.bin .add none (.tmp 10) (.cst (.int .i64 1)))), none⟩,
          ⟨(some 10), (.op (.mv (.tmp 25))), none⟩] []))
def b12_3 : HCode :=
  (.seq (.seq (.region [
      ⟨(some 5), (.op (.mv (.tmp 0))), none⟩,
      ⟨(some 6), (.op (.nilc (.tmp 5))), none⟩,
      ⟨(some 7), (.op (.faddr 0 (.tmp 6))), none⟩,
      ⟨(some 8), (.op (.load none (.tmp 7))), none⟩,
      ⟨(some 9), (.op (.len .slice (.tmp 8))), none⟩,
      ⟨(some 10), (.op (.mv (.cst (.int .i64 0)))), none⟩] []) (.block 0 (.loop (.seq (.region [
          ⟨(some 11), (.op (.bin .lss none (.tmp 10) (.tmp 9))), none⟩] []) (.seq (.cond (.tmp 11) .skip (.exit 0)) b12_2))))) (.seq (.region [
      ⟨(some 2), (.op (.mv (.cst (.bool true)))), none⟩] []) .ret))
set_option linter.defProp false in
def ub12 :=
  And.intro (hw_unf b12_1.eq_1) <|
  And.intro (hw_unf b12_2.eq_1) <|
  hw_unf b12_3.eq_1
def h12 : HFn :=
  ⟨26, [(.tmp 2)], (.seq (.region [
      ⟨(some 2), (.op (.mv (.cst (.bool false)))), none⟩] []) b12_3)⟩
theorem c12 : cFn Try.prog [] Try.f12 = some h12 := by kernel_rfl
/-- (*stint/intake.Intake).Held -/
def h14 : HFn :=
  ⟨8, [(.tmp 2)], (.seq (.region [
      ⟨(some 2), (.op (.mv (.cst (.int .i64 0)))), none⟩] []) (.seq (.region [
      ⟨(some 3), (.op (.mv (.tmp 0))), none⟩,
      ⟨(some 4), (.op (.nilc (.tmp 3))), none⟩,
      ⟨(some 5), (.op (.faddr 2 (.tmp 4))), none⟩,
      ⟨(some 6), (.op (.load none (.tmp 5))), none⟩,
      ⟨(some 7), (.op (.len .slice (.tmp 6))), none⟩,
      ⟨(some 2), (.op (.mv (.tmp 7))), none⟩] []) .ret))⟩
theorem c14 : cFn Try.prog [] Try.f14 = some h14 := by kernel_rfl
/-- (*stint/stintlaw06.book).write -/
def b16_1 : HCode :=
  (.region [
                  ⟨(some 39), (.op (.mv (.tmp 0))), none⟩,
                  ⟨(some 40), (.op (.nilc (.tmp 39))), none⟩,
                  ⟨(some 41), (.op (.faddr 0 (.tmp 40))), none⟩,
                  ⟨(some 42), (.op (.load none (.tmp 41))), none⟩,
                  ⟨(some 43), (.op (.mv (.tmp 6))), none⟩,
                  ⟨(some 44), (.op (.idxS 1 (.tmp 42) (.tmp 43))), none⟩,
                  ⟨(some 45), (.op (.load none (.tmp 44))), none⟩,
                  ⟨(some 46), (.op (.mv (.tmp 7))), none⟩,
                  ⟨(some 47), (.op (.mv (.tmp 6))), none⟩,
                  ⟨(some 48), (.op (.bin .mul none (.cst (.int .i64 7)) (.tmp 47))), none⟩,
                  ⟨(some 49), (.op (.bin .add none (.tmp 48) (.cst (.int .i64 1)))), none⟩,
                  ⟨(some 50), (.op (.cInt .u8 (.tmp 49))), none⟩,
                  ⟨(some 51), (.op (.idxS 1 (.tmp 45) (.tmp 46))), none⟩,
                  ⟨none, (.op (.store 1 (.tmp 51) (.tmp 50))), none⟩] [])
def b16_2 : HCode :=
  (.region [
                  ⟨(some 52), (.op (.mv (.tmp 0))), none⟩,
                  ⟨(some 53), (.op (.nilc (.tmp 52))), none⟩,
                  ⟨(some 54), (.op (.faddr 1 (.tmp 53))), none⟩,
                  ⟨(some 55), (.op (.load none (.tmp 54))), none⟩,
                  ⟨(some 56), (.op (.mv (.tmp 6))), none⟩,
                  ⟨(some 57), (.op (.idxS 1 (.tmp 55) (.tmp 56))), none⟩,
                  ⟨(some 58), (.op (.load none (.tmp 57))), none⟩,
                  ⟨(some 59), (.op (.mv (.tmp 7))), none⟩,
                  ⟨(some 60), (.op (.mv (.tmp 6))), none⟩,
                  ⟨(some 61), (.op (.bin .mul none (.cst (.int .i64 7)) (.tmp 60))), none⟩,
                  ⟨(some 62), (.op (.bin .add none (.tmp 61) (.cst (.int .i64 1)))), none⟩,
                  ⟨(some 63), (.op (.cInt .u8 (.tmp 62))), none⟩,
                  ⟨(some 64), (.op (.idxS 1 (.tmp 58) (.tmp 59))), none⟩,
                  ⟨none, (.op (.store 1 (.tmp 64) (.tmp 63))), none⟩] [])
def b16_3 : HCode :=
  (.region [
            ⟨(some 28), (.op (.mv (.tmp 0))), none⟩,
            ⟨(some 29), (.op (.nilc (.tmp 28))), none⟩,
            ⟨(some 30), (.op (.faddr 0 (.tmp 29))), none⟩,
            ⟨(some 31), (.op (.load none (.tmp 30))), none⟩,
            ⟨(some 32), (.op (.mv (.tmp 6))), none⟩,
            ⟨(some 33), (.op (.idxS 1 (.tmp 31) (.tmp 32))), none⟩,
            ⟨(some 34), (.op (.load none (.tmp 33))), none⟩,
            ⟨(some 35), (.op (.len .slice (.tmp 34))), none⟩,
            ⟨(some 36), (.op (.mv (.cst (.int .i64 0)))), none⟩] [])
def b16_4 : HCode :=
  (.block 2 (.loop (.seq (.region [
                ⟨(some 37), (.op (.bin .lss none (.tmp 36) (.tmp 35))), none⟩] []) (.seq (.cond (.tmp 37) .skip (.exit 2)) (.seq (.block 3 (.seq (.region [
                  ⟨(some 38), (.op (.mv (.tmp 36))), none⟩,
                  ⟨(some 7), (.op (.mv (.tmp 38))), none⟩] []) (.seq b16_1 b16_2))) (.region [
                ⟨(some 65), (.op (.bin .add none (.tmp 36) (.cst (.int .i64 1)))), none⟩,
                ⟨(some 36), (.op (.mv (.tmp 65))), none⟩] []))))))
def b16_5 : HCode :=
  (.region [
                  ⟨(some 89), (.op (.mv (.tmp 9))), none⟩,
                  ⟨(some 90), (.op (.mv (.tmp 8))), none⟩,
                  ⟨(some 91), (.op (.bin .mul none (.cst (.int .i64 7)) (.tmp 90))), none⟩,
                  ⟨(some 92), (.op (.bin .add none (.tmp 91) (.cst (.int .i64 2)))), none⟩,
                  ⟨(some 93), (.op (.cInt .u8 (.tmp 92))), none⟩,
                  ⟨(some 94), (.op (.bslice 1 1 [(.int .u8 0)] [(0, 1, (.tmp 93))])), none⟩,
                  ⟨(some 95), (.op (.append 1 1 (.tmp 89) (.tmp 94))), none⟩,
                  ⟨(some 9), (.op (.mv (.tmp 95))), none⟩] [])
def b16_6 : HCode :=
  (.region [
                  ⟨(some 96), (.op (.mv (.tmp 10))), none⟩,
                  ⟨(some 97), (.op (.mv (.tmp 8))), none⟩,
                  ⟨(some 98), (.op (.bin .mul none (.cst (.int .i64 7)) (.tmp 97))), none⟩,
                  ⟨(some 99), (.op (.bin .add none (.tmp 98) (.cst (.int .i64 2)))), none⟩,
                  ⟨(some 100), (.op (.cInt .u8 (.tmp 99))), none⟩,
                  ⟨(some 101), (.op (.bslice 1 1 [(.int .u8 0)] [(0, 1, (.tmp 100))])), none⟩,
                  ⟨(some 102), (.op (.append 1 1 (.tmp 96) (.tmp 101))), none⟩,
                  ⟨(some 10), (.op (.mv (.tmp 102))), none⟩] [])
def b16_7 : HCode :=
  (.region [
            ⟨(some 104), (.op (.mv (.tmp 0))), none⟩,
            ⟨(some 105), (.op (.mv (.tmp 0))), none⟩,
            ⟨(some 106), (.op (.nilc (.tmp 105))), none⟩,
            ⟨(some 107), (.op (.faddr 0 (.tmp 106))), none⟩,
            ⟨(some 108), (.op (.load none (.tmp 107))), none⟩,
            ⟨(some 109), (.op (.mv (.tmp 9))), none⟩,
            ⟨(some 110), (.op (.bslice 1 1 [.nilSlice] [(0, 1, (.tmp 109))])), none⟩,
            ⟨(some 111), (.op (.append 1 24 (.tmp 108) (.tmp 110))), none⟩,
            ⟨(some 112), (.op (.nilc (.tmp 104))), none⟩,
            ⟨(some 113), (.op (.faddr 0 (.tmp 112))), none⟩,
            ⟨none, (.op (.store 1 (.tmp 113) (.tmp 111))), none⟩] [])
def b16_8 : HCode :=
  (.region [
            ⟨(some 114), (.op (.mv (.tmp 0))), none⟩,
            ⟨(some 115), (.op (.mv (.tmp 0))), none⟩,
            ⟨(some 116), (.op (.nilc (.tmp 115))), none⟩,
            ⟨(some 117), (.op (.faddr 1 (.tmp 116))), none⟩,
            ⟨(some 118), (.op (.load none (.tmp 117))), none⟩,
            ⟨(some 119), (.op (.mv (.tmp 10))), none⟩,
            ⟨(some 120), (.op (.bslice 1 1 [.nilSlice] [(0, 1, (.tmp 119))])), none⟩,
            ⟨(some 121), (.op (.append 1 24 (.tmp 118) (.tmp 120))), none⟩,
            ⟨(some 122), (.op (.nilc (.tmp 114))), none⟩,
            ⟨(some 123), (.op (.faddr 1 (.tmp 122))), none⟩,
            ⟨none, (.op (.store 1 (.tmp 123) (.tmp 121))), none⟩] [])
def b16_9 : HCode :=
  (.draw [
            ⟨(some 72), (.op (.mv (.tmp 0))), none⟩,
            ⟨(some 73), (.op (.nilc (.tmp 72))), none⟩,
            ⟨(some 74), (.op (.faddr 0 (.tmp 73))), none⟩,
            ⟨(some 75), (.op (.load none (.tmp 74))), none⟩,
            ⟨(some 76), (.op (.mv (.tmp 8))), none⟩,
            ⟨(some 77), (.op (.idxS 1 (.tmp 75) (.tmp 76))), none⟩,
            ⟨(some 78), (.op (.load none (.tmp 77))), none⟩,
            ⟨(some 79), (.op (.mv (.tmp 0))), none⟩,
            ⟨(some 80), (.op (.nilc (.tmp 79))), none⟩,
            ⟨(some 81), (.op (.faddr 1 (.tmp 80))), none⟩,
            ⟨(some 82), (.op (.load none (.tmp 81))), none⟩,
            ⟨(some 83), (.op (.mv (.tmp 8))), none⟩,
            ⟨(some 84), (.op (.idxS 1 (.tmp 82) (.tmp 83))), none⟩,
            ⟨(some 85), (.op (.load none (.tmp 84))), none⟩,
            ⟨(some 86), (.op (.append 1 1 (.cst .nilSlice) (.tmp 85))), none⟩,
            ⟨(some 9), (.op (.mv (.tmp 78))), none⟩,
            ⟨(some 10), (.op (.mv (.tmp 86))), none⟩] [0, 1, 2, 3, 4, 5, 6, 7, 8, 9, 10, 11, 12, 13, 14, 15, 16] [[], [], [], [], [], [], [], [], [], [], [], [], [], [], [13, 12, 10], [], []] [])
def b16_10 : HCode :=
  (.seq b16_9 (.seq (.seq (.region [
            ⟨(some 87), (.op (.mv (.cst (.int .i64 0)))), none⟩] []) (.block 6 (.loop (.seq (.region [
                ⟨(some 88), (.op (.bin .lss none (.tmp 87) (.cst (.int .i64 40)))), none⟩] []) (.seq (.cond (.tmp 88) .skip (.exit 6)) (.seq (.block 7 (.seq b16_5 b16_6)) (.region [
                ⟨(some 103), (.op (.bin .add none (.tmp 87) (.cst (.int .i64 1)))), none⟩,
                ⟨(some 87), (.op (.mv (.tmp 103))), none⟩] []))))))) (.seq b16_7 b16_8)))
def b16_11 : HCode :=
  (.seq (.region [
      ⟨(some 66), (.op (.mv (.tmp 4))), none⟩,
      ⟨(some 8), (.op (.mv (.tmp 66))), none⟩] []) (.block 4 (.loop (.seq (.seq (.region [
          ⟨(some 67), (.op (.mv (.tmp 8))), none⟩,
          ⟨(some 68), (.op (.mv (.tmp 5))), none⟩,
          ⟨(some 69), (.op (.bin .lss none (.tmp 67) (.tmp 68))), none⟩] []) (.cond (.tmp 69) .skip (.exit 4))) (.seq (.block 5 b16_10) (.region [
          ⟨(some 70), (.op (.mv (.tmp 8))), none⟩,
          ⟨(some 71), (.op (.bin .add none (.tmp 70) (.cst (.int .i64 1)))), none⟩,
          ⟨(some 8), (.op (.mv (.tmp 71))), none⟩] []))))))
def b16_12 : HCode :=
  (.seq (.region [
      ⟨(some 124), (.op (.mv (.tmp 0))), none⟩,
      ⟨(some 125), (.op (.mv (.tmp 0))), none⟩,
      ⟨(some 126), (.op (.nilc (.tmp 125))), none⟩,
      ⟨(some 127), (.op (.faddr 0 (.tmp 126))), none⟩,
      ⟨(some 128), (.op (.load none (.tmp 127))), none⟩,
      ⟨(some 129), (.op (.len .slice (.tmp 128))), none⟩,
      ⟨(some 130), (.op (.nilc (.tmp 124))), none⟩,
      ⟨(some 131), (.op (.faddr 2 (.tmp 130))), none⟩,
      ⟨none, (.op (.store 1 (.tmp 131) (.tmp 129))), none⟩] []) (.seq (.region [
      ⟨(some 132), (.op (.mv (.tmp 3))), none⟩,
      ⟨(some 133), (.op (.mv (.tmp 132))), none⟩,
      ⟨(some 134), (.op (.mv (.tmp 0))), (some (133, true))⟩,
      ⟨(some 135), (.call (.cst (.func (.func 12) [] [])) [(.tmp 134)]), (some (133, true))⟩,
      ⟨(some 136), (.op (.pick (.tmp 133) (.tmp 135) (.cst (.bool false)))), none⟩,
      ⟨(some 2), (.op (.mv (.tmp 136))), none⟩] []) .ret))
def b16_13 : HCode :=
  (.seq (.region [
      ⟨(some 22), (.op (.mv (.tmp 4))), none⟩,
      ⟨(some 6), (.op (.mv (.tmp 22))), none⟩] []) (.block 0 (.loop (.seq (.seq (.region [
          ⟨(some 23), (.op (.mv (.tmp 6))), none⟩,
          ⟨(some 24), (.op (.mv (.tmp 5))), none⟩,
          ⟨(some 25), (.op (.bin .lss none (.tmp 23) (.tmp 24))), none⟩] []) (.cond (.tmp 25) .skip (.exit 0))) (.seq (.block 1 (.seq b16_3 b16_4)) (.region [
          ⟨(some 26), (.op (.mv (.tmp 6))), none⟩,
          ⟨(some 27), (.op (.bin .add none (.tmp 26) (.cst (.int .i64 1)))), none⟩,
          ⟨(some 6), (.op (.mv (.tmp 27))), none⟩] []))))))
def b16_14 : HCode :=
  (.draw [
      ⟨(some 13), (.op (.mv (.tmp 0))), none⟩,
      ⟨(some 14), (.op (.nilc (.tmp 13))), none⟩,
      ⟨(some 15), (.op (.faddr 2 (.tmp 14))), none⟩,
      ⟨(some 16), (.op (.load none (.tmp 15))), none⟩,
      ⟨(some 17), (.op (.mv (.tmp 0))), none⟩,
      ⟨(some 18), (.op (.nilc (.tmp 17))), none⟩,
      ⟨(some 19), (.op (.faddr 0 (.tmp 18))), none⟩,
      ⟨(some 20), (.op (.load none (.tmp 19))), none⟩,
      ⟨(some 21), (.op (.len .slice (.tmp 20))), none⟩,
      ⟨(some 4), (.op (.mv (.tmp 16))), none⟩,
      ⟨(some 5), (.op (.mv (.tmp 21))), none⟩] [0, 1, 2, 3, 4, 5, 6, 7, 8, 9, 10] [[], [], [], [], [], [], [], [], [], [], []] [])
set_option linter.defProp false in
def ub16 :=
  And.intro (hw_unf b16_1.eq_1) <|
  And.intro (hw_unf b16_2.eq_1) <|
  And.intro (hw_unf b16_3.eq_1) <|
  And.intro (hw_unf b16_4.eq_1) <|
  And.intro (hw_unf b16_5.eq_1) <|
  And.intro (hw_unf b16_6.eq_1) <|
  And.intro (hw_unf b16_7.eq_1) <|
  And.intro (hw_unf b16_8.eq_1) <|
  And.intro (hw_unf b16_9.eq_1) <|
  And.intro (hw_unf b16_10.eq_1) <|
  And.intro (hw_unf b16_11.eq_1) <|
  And.intro (hw_unf b16_12.eq_1) <|
  And.intro (hw_unf b16_13.eq_1) <|
  hw_unf b16_14.eq_1
def h16 : HFn :=
  ⟨137, [(.tmp 2)], (.seq (.region [
      ⟨(some 2), (.op (.mv (.cst (.bool false)))), none⟩] []) (.seq (.region [
      ⟨(some 11), (.op (.mv (.tmp 0))), none⟩,
      ⟨(some 12), (.call (.cst (.func (.func 12) [] [])) [(.tmp 11)]), none⟩,
      ⟨(some 3), (.op (.mv (.tmp 12))), none⟩] []) (.seq b16_14 (.seq b16_13 (.seq b16_11 b16_12)))))⟩
theorem c16 : cFn Try.prog [] Try.f16 = some h16 := by kernel_rfl
/-- stint/intake.New -/
def b17_1 : HCode :=
  (.seq (.region [
      ⟨(some 4), (.op (.mv (.tmp 0))), none⟩,
      ⟨(some 5), (.op (.bin .lss none (.tmp 4) (.cst (.int .i64 1)))), none⟩,
      ⟨(some 6), (.op (.mv (.tmp 5))), none⟩,
      ⟨(some 7), (.op (.mv (.tmp 0))), (some (6, false))⟩,
      ⟨(some 8), (.op (.bin .gtr none (.tmp 7) (.cst (.int .i64 65535)))), (some (6, false))⟩,
      ⟨(some 9), (.op (.pick (.tmp 6) (.cst (.bool true)) (.tmp 8))), none⟩] []) (.cond (.tmp 9) (.seq (.region [
        ⟨(some 2), (.op (.mv (.cst .nilPtr))), none⟩,
        ⟨(some 3), (.op (.mv (.cst (.int .i64 60)))), none⟩] []) .ret) .skip))
set_option linter.defProp false in
def ub17 :=
  hw_unf b17_1.eq_1
def h17 : HFn :=
  ⟨13, [(.tmp 2), (.tmp 3)], (.seq (.region [
      ⟨(some 2), (.op (.mv (.cst .nilPtr))), none⟩,
      ⟨(some 3), (.op (.mv (.cst (.int .i64 0)))), none⟩] []) (.seq b17_1 (.seq (.region [
      ⟨(some 10), (.op (.mv (.tmp 0))), none⟩,
      ⟨(some 11), (.op (.build [(.int .i64 0), (.int .i64 0), .nilSlice, (.int .i64 0), (.int .i64 0), (.bool false), (.bool false)] [(0, 1, (.tmp 10))])), none⟩,
      ⟨(some 12), (.op (.box (.tmp 11))), none⟩,
      ⟨(some 2), (.op (.mv (.tmp 12))), none⟩,
      ⟨(some 3), (.op (.mv (.cst (.int .i64 0)))), none⟩] []) .ret)))⟩
theorem c17 : cFn Try.prog [] Try.f17 = some h17 := by kernel_rfl
/-- (*stint/intake.Intake).Feed -/
def b18_1 : HCode :=
  (.seq (.region [
          ⟨(some 21), (.op (.mv (.tmp 0))), none⟩,
          ⟨(some 22), (.op (.nilc (.tmp 21))), none⟩,
          ⟨(some 23), (.op (.faddr 1 (.tmp 22))), none⟩,
          ⟨(some 24), (.op (.load none (.tmp 23))), none⟩,
          ⟨(some 25), (.op (.bin .eql (some .int) (.tmp 24) (.cst (.int .i64 3)))), none⟩,
          ⟨(some 20), (.op (.mv (.tmp 25))), none⟩] []) (.cond (.tmp 20) (.region [
            ⟨(some 26), (.op (.mv (.tmp 0))), none⟩,
            ⟨(some 27), (.op (.mv (.tmp 1))), none⟩,
            ⟨(some 28), (.call (.cst (.func (.func 37) [] [])) [(.tmp 26), (.tmp 27)]), none⟩,
            ⟨(some 1), (.op (.mv (.tmp 28))), none⟩] []) .skip))
def b18_2 : HCode :=
  (.region [
        ⟨(some 5), (.op (.mv (.tmp 0))), none⟩,
        ⟨(some 6), (.op (.nilc (.tmp 5))), none⟩,
        ⟨(some 7), (.op (.faddr 1 (.tmp 6))), none⟩,
        ⟨(some 8), (.op (.load none (.tmp 7))), none⟩,
        ⟨(some 9), (.op (.bin .eql (some .int) (.tmp 8) (.cst (.int .i64 1)))), none⟩,
        ⟨(some 10), (.op (.mv (.tmp 9))), none⟩,
        ⟨(some 11), (.op (.mv (.tmp 0))), (some (10, true))⟩,
        ⟨(some 12), (.op (.nilc (.tmp 11))), (some (10, true))⟩,
        ⟨(some 13), (.op (.faddr 6 (.tmp 12))), (some (10, true))⟩,
        ⟨(some 14), (.op (.load none (.tmp 13))), (some (10, true))⟩,
        ⟨(some 15), (.op (.un .not (.tmp 14))), (some (10, true))⟩,
        ⟨(some 16), (.op (.pick (.tmp 10) (.tmp 15) (.cst (.bool false)))), none⟩,
        ⟨(some 4), (.op (.mv (.tmp 16))), none⟩] [])
def b18_3 : HCode :=
  (.region [
      ⟨(some 29), (.op (.mv (.tmp 0))), none⟩,
      ⟨(some 30), (.op (.mv (.tmp 0))), none⟩,
      ⟨(some 31), (.op (.nilc (.tmp 30))), none⟩,
      ⟨(some 32), (.op (.faddr 2 (.tmp 31))), none⟩,
      ⟨(some 33), (.op (.load none (.tmp 32))), none⟩,
      ⟨(some 34), (.op (.mv (.tmp 1))), none⟩,
      ⟨(some 35), (.op (.append 1 1 (.tmp 33) (.tmp 34))), none⟩,
      ⟨(some 36), (.op (.nilc (.tmp 29))), none⟩,
      ⟨(some 37), (.op (.faddr 2 (.tmp 36))), none⟩,
      ⟨none, (.op (.store 1 (.tmp 37) (.tmp 35))), none⟩] [])
set_option linter.defProp false in
def ub18 :=
  And.intro (hw_unf b18_1.eq_1) <|
  And.intro (hw_unf b18_2.eq_1) <|
  hw_unf b18_3.eq_1
def h18 : HFn :=
  ⟨38, [], (.seq (.block 0 (.seq b18_2 (.cond (.tmp 4) (.region [
          ⟨(some 17), (.op (.mv (.tmp 0))), none⟩,
          ⟨(some 18), (.op (.mv (.tmp 1))), none⟩,
          ⟨(some 19), (.call (.cst (.func (.func 36) [] [])) [(.tmp 17), (.tmp 18)]), none⟩,
          ⟨(some 1), (.op (.mv (.tmp 19))), none⟩] []) b18_1))) b18_3)⟩
theorem c18 : cFn Try.prog [] Try.f18 = some h18 := by kernel_rfl
/-- stint/stintlaw06.among -/
def b20_1 : HCode :=
  (.seq (.seq (.region [
      ⟨(some 10), (.op (.mv (.tmp 0))), none⟩,
      ⟨(some 11), (.op (.bin .lss none (.tmp 10) (.cst (.int .i64 0)))), none⟩] []) (.cond (.tmp 11) (.region [
        ⟨(some 12), (.op (.mv (.tmp 0))), none⟩,
        ⟨(some 13), (.op (.mv (.tmp 1))), none⟩,
        ⟨(some 14), (.op (.bin .add none (.tmp 12) (.tmp 13))), none⟩,
        ⟨(some 0), (.op (.mv (.tmp 14))), none⟩] []) .skip)) (.seq (.region [
      ⟨(some 15), (.op (.mv (.tmp 0))), none⟩,
      ⟨(some 4), (.op (.mv (.tmp 15))), none⟩] []) .ret))
set_option linter.defProp false in
def ub20 :=
  hw_unf b20_1.eq_1
def h20 : HFn :=
  ⟨16, [(.tmp 4)], (.seq (.region [
      ⟨(some 4), (.op (.mv (.cst (.int .i64 0)))), none⟩] []) (.seq (.seq (.region [
      ⟨(some 5), (.op (.mv (.tmp 1))), none⟩,
      ⟨(some 6), (.op (.bin .lss none (.tmp 5) (.cst (.int .i64 1)))), none⟩] []) (.cond (.tmp 6) (.seq (.region [
        ⟨(some 4), (.op (.mv (.cst (.int .i64 0)))), none⟩] []) .ret) .skip)) (.seq (.region [
      ⟨(some 7), (.op (.mv (.tmp 0))), none⟩,
      ⟨(some 8), (.op (.mv (.tmp 1))), none⟩,
      ⟨(some 9), (.op (.bin .rem none (.tmp 7) (.tmp 8))), none⟩,
      ⟨(some 0), (.op (.mv (.tmp 9))), none⟩] []) b20_1)))⟩
theorem c20 : cFn Try.prog [] Try.f20 = some h20 := by kernel_rfl
/-- stint/stintlaw06.cut -/
def b23_1 : HCode :=
  (.region [
            ⟨(some 11), (.op (.mv (.tmp 0))), none⟩,
            ⟨(some 12), (.op (.mv (.tmp 3))), none⟩,
            ⟨(some 13), (.op (.idxStr (.tmp 11) (.tmp 12))), none⟩,
            ⟨(some 14), (.op (.bin .eql (some .int) (.tmp 13) (.cst (.int .u8 13)))), none⟩,
            ⟨(some 15), (.op (.mv (.tmp 14))), none⟩,
            ⟨(some 16), (.op (.mv (.tmp 0))), (some (15, true))⟩,
            ⟨(some 17), (.op (.mv (.tmp 3))), (some (15, true))⟩,
            ⟨(some 18), (.op (.bin .add none (.tmp 17) (.cst (.int .i64 1)))), (some (15, true))⟩,
            ⟨(some 19), (.op (.idxStr (.tmp 16) (.tmp 18))), (some (15, true))⟩,
            ⟨(some 20), (.op (.bin .eql (some .int) (.tmp 19) (.cst (.int .u8 10)))), (some (15, true))⟩,
            ⟨(some 21), (.op (.pick (.tmp 15) (.tmp 20) (.cst (.bool false)))), none⟩] [])
def b23_2 : HCode :=
  (.seq (.block 1 (.seq b23_1 (.cond (.tmp 21) (.seq (.region [
              ⟨(some 22), (.op (.mv (.tmp 0))), none⟩,
              ⟨(some 23), (.op (.mv (.tmp 3))), none⟩,
              ⟨(some 24), (.op (.sliceStr (.tmp 22) none (some (.tmp 23)))), none⟩,
              ⟨(some 2), (.op (.mv (.tmp 24))), none⟩] []) .ret) .skip))) (.region [
          ⟨(some 9), (.op (.mv (.tmp 3))), none⟩,
          ⟨(some 10), (.op (.bin .add none (.tmp 9) (.cst (.int .i64 1)))), none⟩,
          ⟨(some 3), (.op (.mv (.tmp 10))), none⟩] []))
def b23_3 : HCode :=
  (.seq (.seq (.region [
      ⟨(some 3), (.op (.mv (.cst (.int .i64 0)))), none⟩] []) (.block 0 (.loop (.seq (.seq (.region [
          ⟨(some 4), (.op (.mv (.tmp 3))), none⟩,
          ⟨(some 5), (.op (.bin .add none (.tmp 4) (.cst (.int .i64 1)))), none⟩,
          ⟨(some 6), (.op (.mv (.tmp 0))), none⟩,
          ⟨(some 7), (.op (.len .str (.tmp 6))), none⟩,
          ⟨(some 8), (.op (.bin .lss none (.tmp 5) (.tmp 7))), none⟩] []) (.cond (.tmp 8) .skip (.exit 0))) b23_2)))) (.seq (.region [
      ⟨(some 25), (.op (.mv (.tmp 0))), none⟩,
      ⟨(some 2), (.op (.mv (.tmp 25))), none⟩] []) .ret))
set_option linter.defProp false in
def ub23 :=
  And.intro (hw_unf b23_1.eq_1) <|
  And.intro (hw_unf b23_2.eq_1) <|
  hw_unf b23_3.eq_1
def h23 : HFn :=
  ⟨26, [(.tmp 2)], (.seq (.region [
      ⟨(some 2), (.op (.mv (.cst (.str [])))), none⟩] []) b23_3)⟩
theorem c23 : cFn Try.prog [] Try.f23 = some h23 := by kernel_rfl
/-- (*stint/intake.Intake).Next -/
def b26_1 : HCode :=
  (.region [
                    ⟨(some 27), (.op (.mv (.tmp 0))), none⟩,
                    ⟨(some 28), (.op (.mv (.tmp 5))), none⟩,
                    ⟨(some 29), (.op (.bin .add none (.tmp 28) (.cst (.int .i64 2)))), none⟩,
                    ⟨(some 30), (.call (.cst (.func (.func 39) [] [])) [(.tmp 27), (.tmp 29)]), none⟩,
                    ⟨(some 31), (.op (.mv (.tmp 5))), none⟩,
                    ⟨(some 32), (.op (.sliceSl 1 (.tmp 30) none (some (.tmp 31)) none)), none⟩,
                    ⟨(some 33), (.op (.b2s (.tmp 32))), none⟩,
                    ⟨(some 34), (.op (.build [(.int .i64 0), (.str []), .nilSlice] [(0, 1, (.cst (.int .i64 1))), (1, 1, (.tmp 33))])), none⟩,
                    ⟨none, (.op (.store 3 (.tmp 4) (.tmp 34))), none⟩] [])
def b26_2 : HCode :=
  (.draw [
                  ⟨(some 12), (.op (.mv (.tmp 0))), none⟩,
                  ⟨(some 13), (.op (.nilc (.tmp 12))), none⟩,
                  ⟨(some 14), (.op (.faddr 2 (.tmp 13))), none⟩,
                  ⟨(some 15), (.op (.load none (.tmp 14))), none⟩,
                  ⟨(some 16), (.op (.mv (.tmp 0))), none⟩,
                  ⟨(some 17), (.op (.nilc (.tmp 16))), none⟩,
                  ⟨(some 18), (.op (.faddr 2 (.tmp 17))), none⟩,
                  ⟨(some 19), (.op (.load none (.tmp 18))), none⟩,
                  ⟨(some 20), (.op (.len .slice (.tmp 19))), none⟩,
                  ⟨(some 21), (.op (.minmax true [(.cst (.int .i64 224)), (.tmp 20)])), none⟩,
                  ⟨(some 22), (.op (.sliceSl 1 (.tmp 15) none (some (.tmp 21)) none)), none⟩,
                  ⟨(some 23), (.op (.bslice 1 2 [(.int .u8 0), (.int .u8 0)] [(0, 1, (.cst (.int .u8 13))), (1, 1, (.cst (.int .u8 10)))])), none⟩,
                  ⟨(some 24), (.call (.cst (.func (.func 38) [] [])) [(.tmp 22), (.tmp 23)]), none⟩,
                  ⟨(some 5), (.op (.mv (.tmp 24))), none⟩] [0, 1, 2, 3, 4, 5, 6, 7, 8, 9, 10, 11, 12, 13] [[], [], [], [], [], [], [], [], [], [], [], [], [10, 3, 8, 7], []] [])
def b26_3 : HCode :=
  (.region [
                  ⟨(some 42), (.op (.mv (.tmp 0))), none⟩,
                  ⟨(some 43), (.op (.mv (.tmp 0))), none⟩,
                  ⟨(some 44), (.op (.mv (.tmp 0))), none⟩,
                  ⟨(some 45), (.op (.nilc (.tmp 42))), none⟩,
                  ⟨(some 46), (.op (.faddr 1 (.tmp 45))), none⟩,
                  ⟨none, (.op (.store 1 (.tmp 46) (.cst (.int .i64 1)))), none⟩,
                  ⟨(some 47), (.op (.nilc (.tmp 43))), none⟩,
                  ⟨(some 48), (.op (.faddr 5 (.tmp 47))), none⟩,
                  ⟨none, (.op (.store 1 (.tmp 48) (.cst (.bool false)))), none⟩,
                  ⟨(some 49), (.op (.nilc (.tmp 44))), none⟩,
                  ⟨(some 50), (.op (.faddr 6 (.tmp 49))), none⟩,
                  ⟨none, (.op (.store 1 (.tmp 50) (.cst (.bool false)))), none⟩] [])
def b26_4 : HCode :=
  (.region [
                  ⟨(some 51), (.op (.mv (.tmp 0))), none⟩,
                  ⟨(some 52), (.op (.mv (.tmp 0))), none⟩,
                  ⟨(some 53), (.op (.mv (.tmp 0))), none⟩,
                  ⟨(some 54), (.op (.nilc (.tmp 53))), none⟩,
                  ⟨(some 55), (.op (.faddr 2 (.tmp 54))), none⟩,
                  ⟨(some 56), (.op (.load none (.tmp 55))), none⟩,
                  ⟨(some 57), (.op (.len .slice (.tmp 56))), none⟩,
                  ⟨(some 58), (.call (.cst (.func (.func 39) [] [])) [(.tmp 52), (.tmp 57)]), none⟩,
                  ⟨(some 59), (.call (.cst (.func (.func 18) [] [])) [(.tmp 51), (.tmp 58)]), none⟩] [])
def b26_5 : HCode :=
  (.seq (.region [
                  ⟨(some 35), (.op (.mv (.tmp 0))), none⟩,
                  ⟨(some 36), (.op (.nilc (.tmp 35))), none⟩,
                  ⟨(some 37), (.op (.faddr 2 (.tmp 36))), none⟩,
                  ⟨(some 38), (.op (.load none (.tmp 37))), none⟩,
                  ⟨(some 39), (.op (.len .slice (.tmp 38))), none⟩,
                  ⟨(some 40), (.op (.bin .lss none (.tmp 39) (.cst (.int .i64 224)))), none⟩] []) (.cond (.tmp 40) (.seq (.region [
                    ⟨(some 41), (.op (.build [(.int .i64 0), (.str []), .nilSlice] [])), none⟩,
                    ⟨none, (.op (.store 3 (.tmp 2) (.tmp 41))), none⟩,
                    ⟨(some 3), (.op (.mv (.cst (.bool false)))), none⟩] []) .ret) .skip))
def b26_6 : HCode :=
  (.seq (.region [
                    ⟨(some 62), (.op (.mv (.tmp 0))), none⟩,
                    ⟨(some 63), (.op (.nilc (.tmp 62))), none⟩,
                    ⟨(some 64), (.op (.faddr 6 (.tmp 63))), none⟩,
                    ⟨(some 65), (.op (.load none (.tmp 64))), none⟩,
                    ⟨(some 66), (.op (.un .not (.tmp 65))), none⟩] []) (.cond (.tmp 66) (.seq (.region [
                      ⟨(some 67), (.op (.build [(.int .i64 0), (.str []), .nilSlice] [])), none⟩,
                      ⟨none, (.op (.store 3 (.tmp 2) (.tmp 67))), none⟩,
                      ⟨(some 3), (.op (.mv (.cst (.bool false)))), none⟩] []) .ret) .skip))
def b26_7 : HCode :=
  (.draw [
                      ⟨(some 71), (.op (.mv (.tmp 0))), none⟩,
                      ⟨(some 72), (.op (.nilc (.tmp 71))), none⟩,
                      ⟨(some 73), (.op (.faddr 2 (.tmp 72))), none⟩,
                      ⟨(some 74), (.op (.load none (.tmp 73))), none⟩,
                      ⟨(some 75), (.op (.len .slice (.tmp 74))), none⟩,
                      ⟨(some 76), (.op (.mv (.tmp 0))), none⟩,
                      ⟨(some 77), (.op (.nilc (.tmp 76))), none⟩,
                      ⟨(some 78), (.op (.faddr 3 (.tmp 77))), none⟩,
                      ⟨(some 79), (.op (.load none (.tmp 78))), none⟩,
                      ⟨(some 80), (.op (.bin .add none (.tmp 79) (.cst (.int .i64 2)))), none⟩,
                      ⟨(some 81), (.op (.bin .lss none (.tmp 75) (.tmp 80))), none⟩] [0, 1, 2, 3, 4, 5, 6, 7, 8, 9, 10] [[], [], [], [], [], [], [], [], [], [], []] [])
def b26_8 : HCode :=
  (.region [
                      ⟨(some 83), (.op (.mv (.tmp 0))), none⟩,
                      ⟨(some 84), (.op (.mv (.tmp 0))), none⟩,
                      ⟨(some 85), (.op (.nilc (.tmp 84))), none⟩,
                      ⟨(some 86), (.op (.faddr 3 (.tmp 85))), none⟩,
                      ⟨(some 87), (.op (.load none (.tmp 86))), none⟩,
                      ⟨(some 88), (.op (.bin .add none (.tmp 87) (.cst (.int .i64 2)))), none⟩,
                      ⟨(some 89), (.call (.cst (.func (.func 39) [] [])) [(.tmp 83), (.tmp 88)]), none⟩,
                      ⟨(some 90), (.call (.cst (.func (.func 40) [] [])) [(.tmp 89)]), none⟩,
                      ⟨none, (.op (.store 3 (.tmp 4) (.tmp 90))), none⟩] [])
def b26_9 : HCode :=
  (.seq (.region [
                        ⟨(some 93), (.op (.mv (.tmp 0))), none⟩,
                        ⟨(some 94), (.op (.nilc (.tmp 93))), none⟩,
                        ⟨(some 95), (.op (.faddr 4 (.tmp 94))), none⟩,
                        ⟨(some 96), (.op (.load none (.tmp 95))), none⟩,
                        ⟨(some 97), (.op (.bin .gtr none (.tmp 96) (.cst (.int .i64 0)))), none⟩] []) (.cond (.tmp 97) (.seq (.region [
                          ⟨(some 98), (.op (.build [(.int .i64 0), (.str []), .nilSlice] [])), none⟩,
                          ⟨none, (.op (.store 3 (.tmp 2) (.tmp 98))), none⟩,
                          ⟨(some 3), (.op (.mv (.cst (.bool false)))), none⟩] []) .ret) .skip))
def b26_10 : HCode :=
  (.cond (.tmp 69) (.seq (.seq b26_7 (.cond (.tmp 81) (.seq (.region [
                        ⟨(some 82), (.op (.build [(.int .i64 0), (.str []), .nilSlice] [])), none⟩,
                        ⟨none, (.op (.store 3 (.tmp 2) (.tmp 82))), none⟩,
                        ⟨(some 3), (.op (.mv (.cst (.bool false)))), none⟩] []) .ret) .skip)) (.seq b26_8 (.exit 0))) (.seq (.region [
                      ⟨(some 92), (.op (.bin .eql (some .int) (.tmp 9) (.cst (.int .i64 3)))), none⟩,
                      ⟨(some 91), (.op (.mv (.tmp 92))), none⟩] []) (.cond (.tmp 91) (.seq b26_9 (.seq (.region [
                        ⟨(some 99), (.op (.build [(.int .i64 0), (.str []), .nilSlice] [(0, 1, (.cst (.int .i64 4)))])), none⟩,
                        ⟨none, (.op (.store 3 (.tmp 4) (.tmp 99))), none⟩] []) (.exit 0))) .skip)))
def b26_11 : HCode :=
  (.seq (.region [
                  ⟨(some 61), (.op (.bin .eql (some .int) (.tmp 9) (.cst (.int .i64 1)))), none⟩,
                  ⟨(some 60), (.op (.mv (.tmp 61))), none⟩] []) (.cond (.tmp 60) (.seq b26_6 (.seq (.region [
                    ⟨(some 68), (.op (.build [(.int .i64 0), (.str []), .nilSlice] [(0, 1, (.cst (.int .i64 2)))])), none⟩,
                    ⟨none, (.op (.store 3 (.tmp 4) (.tmp 68))), none⟩] []) (.exit 0))) (.seq (.region [
                    ⟨(some 70), (.op (.bin .eql (some .int) (.tmp 9) (.cst (.int .i64 2)))), none⟩,
                    ⟨(some 69), (.op (.mv (.tmp 70))), none⟩] []) b26_10)))
def b26_12 : HCode :=
  (.seq (.region [
              ⟨(some 6), (.op (.mv (.tmp 0))), none⟩,
              ⟨(some 7), (.op (.nilc (.tmp 6))), none⟩,
              ⟨(some 8), (.op (.faddr 1 (.tmp 7))), none⟩,
              ⟨(some 9), (.op (.load none (.tmp 8))), none⟩] []) (.block 2 (.seq (.region [
                ⟨(some 11), (.op (.bin .eql (some .int) (.tmp 9) (.cst (.int .i64 0)))), none⟩,
                ⟨(some 10), (.op (.mv (.tmp 11))), none⟩] []) (.cond (.tmp 10) (.seq (.seq b26_2 (.seq (.region [
                  ⟨(some 25), (.op (.mv (.tmp 5))), none⟩,
                  ⟨(some 26), (.op (.bin .geq none (.tmp 25) (.cst (.int .i64 0)))), none⟩] []) (.cond (.tmp 26) (.seq b26_1 (.exit 0)) .skip))) (.seq b26_5 (.seq b26_3 b26_4))) b26_11))))
def b26_13 : HCode :=
  (.seq (.block 0 (.loop (.block 1 b26_12))) (.seq (.region [
        ⟨(some 100), (.op (.mv (.tmp 0))), none⟩,
        ⟨(some 101), (.op (.nilc (.tmp 100))), none⟩,
        ⟨(some 102), (.op (.faddr 1 (.tmp 101))), none⟩,
        ⟨none, (.op (.store 1 (.tmp 102) (.cst (.int .i64 0)))), none⟩] []) (.seq (.region [
        ⟨(some 103), (.op (.load (some 3) (.tmp 4))), none⟩,
        ⟨none, (.op (.store 3 (.tmp 2) (.tmp 103))), none⟩,
        ⟨(some 3), (.op (.mv (.cst (.bool true)))), none⟩] []) .ret)))
set_option linter.defProp false in
def ub26 :=
  And.intro (hw_unf b26_1.eq_1) <|
  And.intro (hw_unf b26_2.eq_1) <|
  And.intro (hw_unf b26_3.eq_1) <|
  And.intro (hw_unf b26_4.eq_1) <|
  And.intro (hw_unf b26_5.eq_1) <|
  And.intro (hw_unf b26_6.eq_1) <|
  And.intro (hw_unf b26_7.eq_1) <|
  And.intro (hw_unf b26_8.eq_1) <|
  And.intro (hw_unf b26_9.eq_1) <|
  And.intro (hw_unf b26_10.eq_1) <|
  And.intro (hw_unf b26_11.eq_1) <|
  And.intro (hw_unf b26_12.eq_1) <|
  hw_unf b26_13.eq_1
def h26 : HFn :=
  ⟨104, [(.cell 2 (some 3)), (.tmp 3)], (.seq (.region [
      ⟨(some 2), (.op (.box (.cst (.agg [(.int .i64 0), (.str []), .nilSlice])))), none⟩,
      ⟨(some 3), (.op (.mv (.cst (.bool false)))), none⟩] []) (.scope (.seq (.region [
        ⟨(some 4), (.op (.box (.cst (.agg [(.int .i64 0), (.str []), .nilSlice])))), none⟩] []) (.seq .lab b26_13))))⟩
theorem c26 : cFn Try.prog [] Try.f26 = some h26 := by kernel_rfl
/-- (*stint/intake.Intake).Body -/
def b27_1 : HCode :=
  (.region [
      ⟨(some 5), (.op (.mv (.tmp 1))), none⟩,
      ⟨(some 6), (.op (.bin .lss none (.tmp 5) (.cst (.int .i64 0)))), none⟩,
      ⟨(some 7), (.op (.mv (.tmp 6))), none⟩,
      ⟨(some 8), (.op (.mv (.tmp 1))), (some (7, false))⟩,
      ⟨(some 9), (.op (.bin .gtr none (.tmp 8) (.cst (.int .i64 4294967295)))), (some (7, false))⟩,
      ⟨(some 10), (.op (.pick (.tmp 7) (.cst (.bool true)) (.tmp 9))), none⟩,
      ⟨(some 11), (.op (.mv (.tmp 10))), none⟩,
      ⟨(some 12), (.op (.mv (.tmp 0))), (some (11, false))⟩,
      ⟨(some 13), (.op (.nilc (.tmp 12))), (some (11, false))⟩,
      ⟨(some 14), (.op (.faddr 1 (.tmp 13))), (some (11, false))⟩,
      ⟨(some 15), (.op (.load none (.tmp 14))), (some (11, false))⟩,
      ⟨(some 16), (.op (.bin .neq (some .int) (.tmp 15) (.cst (.int .i64 0)))), (some (11, false))⟩,
      ⟨(some 17), (.op (.pick (.tmp 11) (.cst (.bool true)) (.tmp 16))), none⟩] [])
def b27_2 : HCode :=
  (.region [
        ⟨(some 24), (.op (.mv (.tmp 0))), none⟩,
        ⟨(some 25), (.op (.mv (.tmp 0))), none⟩,
        ⟨(some 26), (.op (.mv (.tmp 1))), none⟩,
        ⟨(some 27), (.op (.nilc (.tmp 24))), none⟩,
        ⟨(some 28), (.op (.faddr 1 (.tmp 27))), none⟩,
        ⟨none, (.op (.store 1 (.tmp 28) (.cst (.int .i64 2)))), none⟩,
        ⟨(some 29), (.op (.nilc (.tmp 25))), none⟩,
        ⟨(some 30), (.op (.faddr 3 (.tmp 29))), none⟩,
        ⟨none, (.op (.store 1 (.tmp 30) (.tmp 26))), none⟩] [])
def b27_3 : HCode :=
  (.region [
      ⟨(some 39), (.op (.mv (.tmp 0))), none⟩,
      ⟨(some 40), (.op (.mv (.tmp 0))), none⟩,
      ⟨(some 41), (.op (.mv (.tmp 0))), none⟩,
      ⟨(some 42), (.op (.nilc (.tmp 41))), none⟩,
      ⟨(some 43), (.op (.faddr 2 (.tmp 42))), none⟩,
      ⟨(some 44), (.op (.load none (.tmp 43))), none⟩,
      ⟨(some 45), (.call (.cst (.func (.func 37) [] [])) [(.tmp 40), (.tmp 44)]), none⟩,
      ⟨(some 46), (.op (.nilc (.tmp 39))), none⟩,
      ⟨(some 47), (.op (.faddr 2 (.tmp 46))), none⟩,
      ⟨none, (.op (.store 1 (.tmp 47) (.tmp 45))), none⟩] [])
def b27_4 : HCode :=
  (.region [
      ⟨(some 31), (.op (.mv (.tmp 0))), none⟩,
      ⟨(some 32), (.op (.mv (.tmp 0))), none⟩,
      ⟨(some 33), (.op (.mv (.tmp 1))), none⟩,
      ⟨(some 34), (.op (.bin .add none (.tmp 33) (.cst (.int .i64 2)))), none⟩,
      ⟨(some 35), (.op (.nilc (.tmp 31))), none⟩,
      ⟨(some 36), (.op (.faddr 1 (.tmp 35))), none⟩,
      ⟨none, (.op (.store 1 (.tmp 36) (.cst (.int .i64 3)))), none⟩,
      ⟨(some 37), (.op (.nilc (.tmp 32))), none⟩,
      ⟨(some 38), (.op (.faddr 4 (.tmp 37))), none⟩,
      ⟨none, (.op (.store 1 (.tmp 38) (.tmp 34))), none⟩] [])
def b27_5 : HCode :=
  (.seq (.seq (.region [
      ⟨(some 18), (.op (.mv (.tmp 1))), none⟩,
      ⟨(some 19), (.op (.mv (.tmp 0))), none⟩,
      ⟨(some 20), (.op (.nilc (.tmp 19))), none⟩,
      ⟨(some 21), (.op (.faddr 0 (.tmp 20))), none⟩,
      ⟨(some 22), (.op (.load none (.tmp 21))), none⟩,
      ⟨(some 23), (.op (.bin .leq none (.tmp 18) (.tmp 22))), none⟩] []) (.cond (.tmp 23) (.seq b27_2 (.seq (.region [
        ⟨(some 4), (.op (.mv (.cst (.int .i64 0)))), none⟩] []) .ret)) .skip)) (.seq b27_4 (.seq b27_3 (.seq (.region [
      ⟨(some 4), (.op (.mv (.cst (.int .i64 0)))), none⟩] []) .ret))))
set_option linter.defProp false in
def ub27 :=
  And.intro (hw_unf b27_1.eq_1) <|
  And.intro (hw_unf b27_2.eq_1) <|
  And.intro (hw_unf b27_3.eq_1) <|
  And.intro (hw_unf b27_4.eq_1) <|
  hw_unf b27_5.eq_1
def h27 : HFn :=
  ⟨48, [(.tmp 4)], (.seq (.region [
      ⟨(some 4), (.op (.mv (.cst (.int .i64 0)))), none⟩] []) (.seq (.seq b27_1 (.cond (.tmp 17) (.seq (.region [
        ⟨(some 4), (.op (.mv (.cst (.int .i64 61)))), none⟩] []) .ret) .skip)) b27_5))⟩
theorem c27 : cFn Try.prog [] Try.f27 = some h27 := by kernel_rfl
/-- (*stint/intake.Intake).Clone -/
def b28_1 : HCode :=
  (.seq (.region [
      ⟨(some 4), (.op (.mv (.tmp 0))), none⟩,
      ⟨(some 5), (.op (.nilc (.tmp 4))), none⟩,
      ⟨(some 6), (.op (.load (some 7) (.tmp 5))), none⟩,
      ⟨(some 3), (.op (.box (.cst (.agg [(.int .i64 0), (.int .i64 0), .nilSlice, (.int .i64 0), (.int .i64 0), (.bool false), (.bool false)])))), none⟩,
      ⟨none, (.op (.store 7 (.tmp 3) (.tmp 6))), none⟩] []) (.seq (.region [
      ⟨(some 7), (.op (.mv (.tmp 0))), none⟩,
      ⟨(some 8), (.op (.nilc (.tmp 7))), none⟩,
      ⟨(some 9), (.op (.faddr 2 (.tmp 8))), none⟩,
      ⟨(some 10), (.op (.load none (.tmp 9))), none⟩,
      ⟨(some 11), (.call (.cst (.func (.func 41) [] [])) [(.tmp 10)]), none⟩,
      ⟨(some 12), (.op (.faddr 2 (.tmp 3))), none⟩,
      ⟨none, (.op (.store 1 (.tmp 12) (.tmp 11))), none⟩] []) (.seq (.region [
      ⟨(some 2), (.op (.mv (.tmp 3))), none⟩] []) .ret)))
set_option linter.defProp false in
def ub28 :=
  hw_unf b28_1.eq_1
def h28 : HFn :=
  ⟨13, [(.tmp 2)], (.seq (.region [
      ⟨(some 2), (.op (.mv (.cst .nilPtr))), none⟩] []) b28_1)⟩
theorem c28 : cFn Try.prog [] Try.f28 = some h28 := by kernel_rfl
/-- stint/stintlaw06.same -/
def b33_1 : HCode :=
  (.draw [
            ⟨(some 16), (.op (.mv (.tmp 0))), none⟩,
            ⟨(some 17), (.op (.mv (.tmp 5))), none⟩,
            ⟨(some 18), (.op (.idxS 1 (.tmp 16) (.tmp 17))), none⟩,
            ⟨(some 19), (.op (.load none (.tmp 18))), none⟩,
            ⟨(some 20), (.op (.mv (.tmp 1))), none⟩,
            ⟨(some 21), (.op (.mv (.tmp 5))), none⟩,
            ⟨(some 22), (.op (.idxS 1 (.tmp 20) (.tmp 21))), none⟩,
            ⟨(some 23), (.op (.load none (.tmp 22))), none⟩,
            ⟨(some 24), (.op (.bin .neq (some .int) (.tmp 19) (.tmp 23))), none⟩] [0, 1, 2, 3, 4, 5, 6, 7, 8] [[], [], [], [], [], [], [], [], []] [])
def b33_2 : HCode :=
  (.seq (.region [
          ⟨(some 14), (.op (.bin .lss none (.tmp 13) (.tmp 12))), none⟩] []) (.seq (.cond (.tmp 14) .skip (.exit 0)) (.seq (.block 1 (.seq (.region [
            ⟨(some 15), (.op (.mv (.tmp 13))), none⟩,
            ⟨(some 5), (.op (.mv (.tmp 15))), none⟩] []) (.seq b33_1 (.cond (.tmp 24) (.seq (.region [
              ⟨(some 4), (.op (.mv (.cst (.bool false)))), none⟩] []) .ret) .skip)))) (.region [
          ⟨(some 25), (.op (.bin .add none (.tmp 13) (.cst (.int .i64 1)))), none⟩,
          ⟨(some 13), (.op (.mv (.tmp 25))), none⟩] []))))
def b33_3 : HCode :=
  (.seq (.seq (.region [
      ⟨(some 6), (.op (.mv (.tmp 0))), none⟩,
      ⟨(some 7), (.op (.len .slice (.tmp 6))), none⟩,
      ⟨(some 8), (.op (.mv (.tmp 1))), none⟩,
      ⟨(some 9), (.op (.len .slice (.tmp 8))), none⟩,
      ⟨(some 10), (.op (.bin .neq (some .int) (.tmp 7) (.tmp 9))), none⟩] []) (.cond (.tmp 10) (.seq (.region [
        ⟨(some 4), (.op (.mv (.cst (.bool false)))), none⟩] []) .ret) .skip)) (.seq (.seq (.region [
      ⟨(some 11), (.op (.mv (.tmp 0))), none⟩,
      ⟨(some 12), (.op (.len .slice (.tmp 11))), none⟩,
      ⟨(some 13), (.op (.mv (.cst (.int .i64 0)))), none⟩] []) (.block 0 (.loop b33_2))) (.seq (.region [
      ⟨(some 4), (.op (.mv (.cst (.bool true)))), none⟩] []) .ret)))
set_option linter.defProp false in
def ub33 :=
  And.intro (hw_unf b33_1.eq_1) <|
  And.intro (hw_unf b33_2.eq_1) <|
  hw_unf b33_3.eq_1
def h33 : HFn :=
  ⟨26, [(.tmp 4)], (.seq (.region [
      ⟨(some 4), (.op (.mv (.cst (.bool false)))), none⟩] []) b33_3)⟩
theorem c33 : cFn Try.prog [] Try.f33 = some h33 := by kernel_rfl
/-- (*stint/stintlaw06.book).keep -/
def b35_1 : HCode :=
  (.region [
      ⟨(some 4), (.op (.mv (.tmp 0))), none⟩,
      ⟨(some 5), (.op (.mv (.tmp 0))), none⟩,
      ⟨(some 6), (.op (.nilc (.tmp 5))), none⟩,
      ⟨(some 7), (.op (.faddr 0 (.tmp 6))), none⟩,
      ⟨(some 8), (.op (.load none (.tmp 7))), none⟩,
      ⟨(some 9), (.op (.mv (.tmp 1))), none⟩,
      ⟨(some 10), (.op (.bslice 1 1 [.nilSlice] [(0, 1, (.tmp 9))])), none⟩,
      ⟨(some 11), (.op (.append 1 24 (.tmp 8) (.tmp 10))), none⟩,
      ⟨(some 12), (.op (.nilc (.tmp 4))), none⟩,
      ⟨(some 13), (.op (.faddr 0 (.tmp 12))), none⟩,
      ⟨none, (.op (.store 1 (.tmp 13) (.tmp 11))), none⟩] [])
def b35_2 : HCode :=
  (.draw [
      ⟨(some 14), (.op (.mv (.tmp 0))), none⟩,
      ⟨(some 15), (.op (.mv (.tmp 0))), none⟩,
      ⟨(some 16), (.op (.nilc (.tmp 15))), none⟩,
      ⟨(some 17), (.op (.faddr 1 (.tmp 16))), none⟩,
      ⟨(some 18), (.op (.load none (.tmp 17))), none⟩,
      ⟨(some 19), (.op (.mv (.tmp 1))), none⟩,
      ⟨(some 20), (.op (.append 1 1 (.cst .nilSlice) (.tmp 19))), none⟩,
      ⟨(some 21), (.op (.bslice 1 1 [.nilSlice] [(0, 1, (.tmp 20))])), none⟩,
      ⟨(some 22), (.op (.append 1 24 (.tmp 18) (.tmp 21))), none⟩,
      ⟨(some 23), (.op (.nilc (.tmp 14))), none⟩,
      ⟨(some 24), (.op (.faddr 1 (.tmp 23))), none⟩,
      ⟨none, (.op (.store 1 (.tmp 24) (.tmp 22))), none⟩] [0, 1, 2, 3, 4, 5, 6, 7, 8, 9, 10, 11] [[], [], [], [], [], [], [], [], [4], [], [], [4]] [])
set_option linter.defProp false in
def ub35 :=
  And.intro (hw_unf b35_1.eq_1) <|
  hw_unf b35_2.eq_1
def h35 : HFn :=
  ⟨25, [], (.seq b35_1 b35_2)⟩
theorem c35 : cFn Try.prog [] Try.f35 = some h35 := by kernel_rfl
/-- (*stint/intake.Intake).skipLine -/
def b36_1 : HCode :=
  (.seq (.region [
              ⟨(some 22), (.op (.mv (.tmp 0))), none⟩,
              ⟨(some 23), (.op (.nilc (.tmp 22))), none⟩,
              ⟨(some 24), (.op (.faddr 6 (.tmp 23))), none⟩,
              ⟨none, (.op (.store 1 (.tmp 24) (.cst (.bool true)))), none⟩] []) (.seq (.region [
              ⟨(some 25), (.op (.mv (.tmp 1))), none⟩,
              ⟨(some 26), (.op (.mv (.tmp 5))), none⟩,
              ⟨(some 27), (.op (.bin .add none (.tmp 26) (.cst (.int .i64 1)))), none⟩,
              ⟨(some 28), (.op (.sliceSl 1 (.tmp 25) (some (.tmp 27)) none none)), none⟩,
              ⟨(some 4), (.op (.mv (.tmp 28))), none⟩] []) .ret))
def b36_2 : HCode :=
  (.region [
            ⟨(some 14), (.op (.mv (.tmp 0))), none⟩,
            ⟨(some 15), (.op (.nilc (.tmp 14))), none⟩,
            ⟨(some 16), (.op (.faddr 5 (.tmp 15))), none⟩,
            ⟨(some 17), (.op (.load none (.tmp 16))), none⟩,
            ⟨(some 18), (.op (.mv (.tmp 17))), none⟩,
            ⟨(some 19), (.op (.mv (.tmp 6))), (some (18, true))⟩,
            ⟨(some 20), (.op (.bin .eql (some .int) (.tmp 19) (.cst (.int .u8 10)))), (some (18, true))⟩,
            ⟨(some 21), (.op (.pick (.tmp 18) (.tmp 20) (.cst (.bool false)))), none⟩] [])
def b36_3 : HCode :=
  (.seq (.region [
            ⟨(some 11), (.op (.mv (.tmp 9))), none⟩,
            ⟨(some 12), (.op (.idxS 1 (.tmp 7) (.tmp 9))), none⟩,
            ⟨(some 13), (.op (.load none (.tmp 12))), none⟩,
            ⟨(some 5), (.op (.mv (.tmp 11))), none⟩,
            ⟨(some 6), (.op (.mv (.tmp 13))), none⟩] []) (.seq (.seq b36_2 (.cond (.tmp 21) b36_1 .skip)) (.region [
            ⟨(some 29), (.op (.mv (.tmp 0))), none⟩,
            ⟨(some 30), (.op (.mv (.tmp 6))), none⟩,
            ⟨(some 31), (.op (.bin .eql (some .int) (.tmp 30) (.cst (.int .u8 13)))), none⟩,
            ⟨(some 32), (.op (.nilc (.tmp 29))), none⟩,
            ⟨(some 33), (.op (.faddr 5 (.tmp 32))), none⟩,
            ⟨none, (.op (.store 1 (.tmp 33) (.tmp 31))), none⟩] [])))
def b36_4 : HCode :=
  (.seq (.region [
      ⟨(some 7), (.op (.mv (.tmp 1))), none⟩,
      ⟨(some 8), (.op (.len .slice (.tmp 7))), none⟩,
      ⟨(some 9), (.op (.mv (.cst (.int .i64 0)))), none⟩] []) (.block 0 (.loop (.seq (.region [
          ⟨(some 10), (.op (.bin .lss none (.tmp 9) (.tmp 8))), none⟩] []) (.seq (.cond (.tmp 10) .skip (.exit 0)) (.seq (.block 1 b36_3) (.region [
          ⟨(some 34), (.op (.bin .add none (.tmp 9) (.cst (.int .i64 1)))), none⟩,
          ⟨(some 9), (.op (.mv (.tmp 34))), none⟩] [])))))))
set_option linter.defProp false in
def ub36 :=
  And.intro (hw_unf b36_1.eq_1) <|
  And.intro (hw_unf b36_2.eq_1) <|
  And.intro (hw_unf b36_3.eq_1) <|
  hw_unf b36_4.eq_1
def h36 : HFn :=
  ⟨35, [(.tmp 4)], (.seq (.region [
      ⟨(some 4), (.op (.mv (.cst .nilSlice))), none⟩] []) (.seq b36_4 (.seq (.region [
      ⟨(some 4), (.op (.mv (.cst .nilSlice))), none⟩] []) .ret)))⟩
theorem c36 : cFn Try.prog [] Try.f36 = some h36 := by kernel_rfl
/-- (*stint/intake.Intake).skipBody -/
def b37_1 : HCode :=
  (.seq (.region [
      ⟨(some 13), (.op (.mv (.tmp 0))), none⟩,
      ⟨(some 14), (.op (.nilc (.tmp 13))), none⟩,
      ⟨(some 15), (.op (.faddr 4 (.tmp 14))), none⟩,
      ⟨(some 16), (.op (.load none (.tmp 15))), none⟩,
      ⟨(some 17), (.op (.mv (.tmp 5))), none⟩,
      ⟨(some 18), (.op (.bin .sub none (.tmp 16) (.tmp 17))), none⟩,
      ⟨(some 19), (.op (.nilc (.tmp 13))), none⟩,
      ⟨(some 20), (.op (.faddr 4 (.tmp 19))), none⟩,
      ⟨none, (.op (.store 1 (.tmp 20) (.tmp 18))), none⟩] []) (.seq (.region [
      ⟨(some 21), (.op (.mv (.tmp 1))), none⟩,
      ⟨(some 22), (.op (.mv (.tmp 5))), none⟩,
      ⟨(some 23), (.op (.sliceSl 1 (.tmp 21) (some (.tmp 22)) none none)), none⟩,
      ⟨(some 4), (.op (.mv (.tmp 23))), none⟩] []) .ret))
set_option linter.defProp false in
def ub37 :=
  hw_unf b37_1.eq_1
def h37 : HFn :=
  ⟨24, [(.tmp 4)], (.seq (.region [
      ⟨(some 4), (.op (.mv (.cst .nilSlice))), none⟩] []) (.seq (.region [
      ⟨(some 6), (.op (.mv (.tmp 0))), none⟩,
      ⟨(some 7), (.op (.nilc (.tmp 6))), none⟩,
      ⟨(some 8), (.op (.faddr 4 (.tmp 7))), none⟩,
      ⟨(some 9), (.op (.load none (.tmp 8))), none⟩,
      ⟨(some 10), (.op (.mv (.tmp 1))), none⟩,
      ⟨(some 11), (.op (.len .slice (.tmp 10))), none⟩,
      ⟨(some 12), (.op (.minmax true [(.tmp 9), (.tmp 11)])), none⟩,
      ⟨(some 5), (.op (.mv (.tmp 12))), none⟩] []) b37_1))⟩
theorem c37 : cFn Try.prog [] Try.f37 = some h37 := by kernel_rfl
/-- (*stint/intake.Intake).take -/
def b39_1 : HCode :=
  (.region [
      ⟨(some 12), (.op (.mv (.tmp 0))), none⟩,
      ⟨(some 13), (.op (.mv (.tmp 0))), none⟩,
      ⟨(some 14), (.op (.nilc (.tmp 13))), none⟩,
      ⟨(some 15), (.op (.faddr 2 (.tmp 14))), none⟩,
      ⟨(some 16), (.op (.load none (.tmp 15))), none⟩,
      ⟨(some 17), (.op (.mv (.tmp 1))), none⟩,
      ⟨(some 18), (.op (.sliceSl 1 (.tmp 16) (some (.tmp 17)) none none)), none⟩,
      ⟨(some 19), (.op (.nilc (.tmp 12))), none⟩,
      ⟨(some 20), (.op (.faddr 2 (.tmp 19))), none⟩,
      ⟨none, (.op (.store 1 (.tmp 20) (.tmp 18))), none⟩] [])
def b39_2 : HCode :=
  (.seq (.region [
      ⟨(some 6), (.op (.mv (.tmp 0))), none⟩,
      ⟨(some 7), (.op (.nilc (.tmp 6))), none⟩,
      ⟨(some 8), (.op (.faddr 2 (.tmp 7))), none⟩,
      ⟨(some 9), (.op (.load none (.tmp 8))), none⟩,
      ⟨(some 10), (.op (.mv (.tmp 1))), none⟩,
      ⟨(some 11), (.op (.sliceSl 1 (.tmp 9) none (some (.tmp 10)) none)), none⟩,
      ⟨(some 5), (.op (.mv (.tmp 11))), none⟩] []) (.seq b39_1 (.seq (.region [
      ⟨(some 21), (.op (.mv (.tmp 5))), none⟩,
      ⟨(some 4), (.op (.mv (.tmp 21))), none⟩] []) .ret)))
set_option linter.defProp false in
def ub39 :=
  And.intro (hw_unf b39_1.eq_1) <|
  hw_unf b39_2.eq_1
def h39 : HFn :=
  ⟨22, [(.tmp 4)], (.seq (.region [
      ⟨(some 4), (.op (.mv (.cst .nilSlice))), none⟩] []) b39_2)⟩
theorem c39 : cFn Try.prog [] Try.f39 = some h39 := by kernel_rfl
/-- stint/intake.body -/
def b40_1 : HCode :=
  (.region [
      ⟨(some 7), (.op (.mv (.tmp 0))), none⟩,
      ⟨(some 8), (.op (.mv (.tmp 3))), none⟩,
      ⟨(some 9), (.op (.idxS 1 (.tmp 7) (.tmp 8))), none⟩,
      ⟨(some 10), (.op (.load none (.tmp 9))), none⟩,
      ⟨(some 11), (.op (.bin .neq (some .int) (.tmp 10) (.cst (.int .u8 13)))), none⟩,
      ⟨(some 12), (.op (.mv (.tmp 11))), none⟩,
      ⟨(some 13), (.op (.mv (.tmp 0))), (some (12, false))⟩,
      ⟨(some 14), (.op (.mv (.tmp 3))), (some (12, false))⟩,
      ⟨(some 15), (.op (.bin .add none (.tmp 14) (.cst (.int .i64 1)))), (some (12, false))⟩,
      ⟨(some 16), (.op (.idxS 1 (.tmp 13) (.tmp 15))), (some (12, false))⟩,
      ⟨(some 17), (.op (.load none (.tmp 16))), (some (12, false))⟩,
      ⟨(some 18), (.op (.bin .neq (some .int) (.tmp 17) (.cst (.int .u8 10)))), (some (12, false))⟩,
      ⟨(some 19), (.op (.pick (.tmp 12) (.cst (.bool true)) (.tmp 18))), none⟩] [])
def b40_2 : HCode :=
  (.seq (.seq b40_1 (.cond (.tmp 19) (.seq (.region [
        ⟨(some 20), (.op (.build [(.int .i64 0), (.str []), .nilSlice] [(0, 1, (.cst (.int .i64 5)))])), none⟩,
        ⟨none, (.op (.store 3 (.tmp 2) (.tmp 20))), none⟩] []) .ret) .skip)) (.seq (.region [
      ⟨(some 21), (.op (.mv (.tmp 0))), none⟩,
      ⟨(some 22), (.op (.mv (.tmp 3))), none⟩,
      ⟨(some 23), (.op (.sliceSl 1 (.tmp 21) none (some (.tmp 22)) none)), none⟩,
      ⟨(some 24), (.call (.cst (.func (.func 41) [] [])) [(.tmp 23)]), none⟩,
      ⟨(some 25), (.op (.build [(.int .i64 0), (.str []), .nilSlice] [(0, 1, (.cst (.int .i64 3))), (2, 1, (.tmp 24))])), none⟩,
      ⟨none, (.op (.store 3 (.tmp 2) (.tmp 25))), none⟩] []) .ret))
set_option linter.defProp false in
def ub40 :=
  And.intro (hw_unf b40_1.eq_1) <|
  hw_unf b40_2.eq_1
def h40 : HFn :=
  ⟨26, [(.cell 2 (some 3))], (.seq (.region [
      ⟨(some 2), (.op (.box (.cst (.agg [(.int .i64 0), (.str []), .nilSlice])))), none⟩] []) (.seq (.region [
      ⟨(some 4), (.op (.mv (.tmp 0))), none⟩,
      ⟨(some 5), (.op (.len .slice (.tmp 4))), none⟩,
      ⟨(some 6), (.op (.bin .sub none (.tmp 5) (.cst (.int .i64 2)))), none⟩,
      ⟨(some 3), (.op (.mv (.tmp 6))), none⟩] []) b40_2))⟩
theorem c40 : cFn Try.prog [] Try.f40 = some h40 := by kernel_rfl
/-- slices.Clone[[]byte,byte] -/
def h41 : HFn :=
  ⟨8, [(.tmp 2)], (.seq (.region [
      ⟨(some 2), (.op (.mv (.cst .nilSlice))), none⟩] []) (.seq (.seq (.region [
      ⟨(some 3), (.op (.mv (.tmp 0))), none⟩,
      ⟨(some 4), (.op (.bin .eql (some .slice) (.tmp 3) (.cst .nilSlice))), none⟩] []) (.cond (.tmp 4) (.seq (.region [
        ⟨(some 2), (.op (.mv (.cst .nilSlice))), none⟩] []) .ret) .skip)) (.seq (.region [
      ⟨(some 5), (.op (.bslice 1 0 [] [])), none⟩,
      ⟨(some 6), (.op (.mv (.tmp 0))), none⟩,
      ⟨(some 7), (.op (.append 1 1 (.tmp 5) (.tmp 6))), none⟩,
      ⟨(some 2), (.op (.mv (.tmp 7))), none⟩] []) .ret)))⟩
theorem c41 : cFn Try.prog [] Try.f41 = some h41 := by kernel_rfl
end Go.Proofs.Ytccfcegmaejlnaa
namespace Go.Proofs.Ytccfcegmaejlnaa
open Go Go.HL
set_option maxRecDepth 100000
set_option maxHeartbeats 40000000
set_option linter.unusedSimpArgs false
attribute [local irreducible] pt My Ex Vw Gr GrK each grp exs Sat takeCells happend hbuildSlice hstore hbox hslice hmakeSlice hs2b hcopy HL.unit opC
theorem mixed : Try.prog.follows .mixedOrders = true := by kernel_rfl
theorem ok12 : okF Try.prog 12 := ⟨_, Try.func12, by kernel_rfl, by kernel_rfl⟩
theorem ok16 : okF Try.prog 16 := ⟨_, Try.func16, by kernel_rfl, by kernel_rfl⟩
theorem ok33 : okF Try.prog 33 := ⟨_, Try.func33, by kernel_rfl, by kernel_rfl⟩
theorem ok35 : okF Try.prog 35 := ⟨_, Try.func35, by kernel_rfl, by kernel_rfl⟩
theorem keep35 {hs : HS} {F : List SA} {d : Nat} {a b vo vw f lt v : HV} {E1 E2 : List En} {bs : List UInt8} (H : Sat hs (pt d (.cells 1 [a, b, vo, vw, f, lt] false false []) :: Ex 1 v bs.length (bcells bs) :: Bk vo vw E1 E2 :: F))
    (hn : (E1 ++ E2).length < 1073741824000) (hb : bs.length < 4611686018427) :
    HC Try.prog 35 [.ptr d 2, v] hs fun _ hs' => ∃ vo' vw' w, Sat hs' (pt d (.cells 1 [a, b, vo', vw', f, lt] false false []) :: Bk vo' vw' E1 (E2 ++ [⟨v, w, bs⟩]) :: F) := by
  have H := (bk_open.1 H.p2)
  have hmax : maxLen = 9223372036854775807 := rfl
  refine HC.wp mixed Try.func35 c35 ?_
  first | have f0 := Sat.pf (H) | have f0 := trivial
  first | have f1 := Sat.pf (H.t) | have f1 := trivial
  first | have f2 := Sat.pf (H.t.t) | have f2 := trivial
  first | have f3 := Sat.pf (H.t.t.t) | have f3 := trivial
  first | have f4 := Sat.pf (H.t.t.t.t) | have f4 := trivial
  first | have f5 := Sat.pf (H.t.t.t.t.t) | have f5 := trivial
  first | have f6 := Sat.pf (H.t.t.t.t.t.t) | have f6 := trivial
  first | have f7 := Sat.pf (H.t.t.t.t.t.t.t) | have f7 := trivial
  repeat' first
    | ((with_reducible show Need _); refine need_of ?_; (first | have f0 := Sat.pf (H) | have f0 := trivial); (first | have f1 := Sat.pf (H.t) | have f1 := trivial); (first | have f2 := Sat.pf (H.t.t) | have f2 := trivial); (first | have f3 := Sat.pf (H.t.t.t) | have f3 := trivial); (first | have f4 := Sat.pf (H.t.t.t.t) | have f4 := trivial); (first | have f5 := Sat.pf (H.t.t.t.t.t) | have f5 := trivial); (first | have f6 := Sat.pf (H.t.t.t.t.t.t) | have f6 := trivial); (first | have f7 := Sat.pf (H.t.t.t.t.t.t.t) | have f7 := trivial))
    | simp -implicitDefEqProofs (disch := first | omega | decide | exact rfl | assumption | exact Nat.le_of_ble_eq_true rfl | exact One.c | exact One.o) only [vsA, vsB, eq_self, if_true, if_false, implies_true, false_implies, evp, HX.ev, Nat.reduceAdd, HOp.looks, Nat.reduceEqDiff, overw, Nat.reduceBEq, h35, ub35, f0, f1, f2, f3, f4, f5, f6, f7, frame0, List.replicate, Nat.sub]
    | (refine condK_cases (fun h => ?_) (fun h => ?_) <;> (try simp only [h]) <;> (try simp only [athA, ne_eq] at h) <;> (try (exfalso; omega)))
    | (refine guardK_cases (fun h => ?_) (fun h => ?_) <;> (try simp only [h]) <;> (try simp only [athA, ne_eq] at h) <;> (try (exfalso; omega)))
    | (refine dgK_cases (fun h => ?_) (fun h => ?_) <;> (try simp only [h]) <;> (try simp only [athA, ne_eq] at h) <;> (try (exfalso; omega)))
    | (clear H f0 f1 f2 f3 f4 f5 f6 f7; (with_reducible intro v2 hs H); (try simp only [setA, overw, Nat.reduceAdd] at H); refine need ?_)
    | refine opC_K ?_
    | refine opC_D ?_
    | ((with_reducible show opC (unit (hstore _ _ _ _)) _); refine sl_store1 (by with_reducible first | exact H | exact H.p1 | exact H.p2 | exact H.p3 | exact H.p4 | exact H.p5 | exact H.p6 | exact H.p7) (Nat.le_of_ble_eq_true rfl) (by first | exact rfl | (simp only [f0, f1, f2, f3, f4, f5, f6, f7]; done) | (simp only [onA, *]; done)) (by first | exact rfl | (simp only [f0, f1, f2, f3, f4, f5, f6, f7]; done) | (simp only [onA, *]; done)) ?_)
    | ((with_reducible show opC (unit (hstore _ _ _ _)) _); refine sl_storeN (by with_reducible first | exact H | exact H.p1 | exact H.p2 | exact H.p3 | exact H.p4 | exact H.p5 | exact H.p6 | exact H.p7) rfl (Nat.le_of_ble_eq_true rfl) (by first | exact rfl | (simp only [f0, f1, f2, f3, f4, f5, f6, f7]; done) | (simp only [onA, *]; done)) ?_)
    | ((with_reducible show opC (happend _ _ _ _ _) _); refine sl_append (by with_reducible first | exact H | exact H.p1 | exact H.p2 | exact H.p3 | exact H.p4 | exact H.p5 | exact H.p6 | exact H.p7) (by first | assumption | with_reducible first | exact f0.2.1 | exact f1.2.1 | exact f2.2.1 | exact f3.2.1 | exact f4.2.1 | exact f5.2.1 | exact f6.2.1 | exact f7.2.1 | exact va_takeS) (by first | exact roomFor_of (by omega) | exact roomFor_wide (by omega)) (by omega) ?_)
    | ((with_reducible show opC (happend _ _ _ _ _) _); refine sl_append0X H (by first | assumption | with_reducible first | exact f0.2.1 | exact f1.2.1 | exact f2.2.1 | exact f3.2.1 | exact f4.2.1 | exact f5.2.1 | exact f6.2.1 | exact f7.2.1 | exact va_takeS) (by first | exact roomFor_of (by omega) | exact roomFor_wide (by omega)) (by omega) ?_)
    | ((with_reducible show opC (happend _ _ _ _ _) _); refine sl_appendX (by with_reducible first | exact H | exact H.p1 | exact H.p2 | exact H.p3 | exact H.p4 | exact H.p5 | exact H.p6 | exact H.p7) (by first | assumption | with_reducible first | exact f0.2.1 | exact f1.2.1 | exact f2.2.1 | exact f3.2.1 | exact f4.2.1 | exact f5.2.1 | exact f6.2.1 | exact f7.2.1 | exact va_takeS) (by first | exact roomFor_of (by omega) | exact roomFor_wide (by omega)) (by omega) ?_)
    | ((with_reducible show opC (hbuildSlice _ _ _ _ _) _); refine sl_bslice1 H rfl (by first | exact rfl | (simp only [f0, f1, f2, f3, f4, f5, f6, f7]; done) | (simp only [onA, *]; done)) (by first | exact rfl | (simp only [f0, f1, f2, f3, f4, f5, f6, f7]; done) | (simp only [onA, *]; done)) ?_)
    | refine hwp_draw mixed rfl ?_
    | with_reducible intro hy

  exact ⟨_, _, _, (bk_push ⟨v, _, bs⟩ H.p5.p5.p4.p6.p5.p6).p1⟩

theorem same33 {hs : HS} {a b : HV} {x y : List UInt8} (A : Rd hs 1 a x.length (bcells x)) (B : Rd hs 1 b y.length (bcells y)) (hx : x.length < 4611686018427387904) : HC Try.prog 33 [a, b] hs fun v hs' => v = .bool (x == y) ∧ hs' = hs := by
  have la := A.len hs
  have lb := B.len hs
  refine HC.wp mixed Try.func33 c33 ?_
  repeat' first
    | simp -implicitDefEqProofs (disch := first | omega | decide | exact rfl | assumption | exact Nat.le_of_ble_eq_true rfl | exact One.c | exact One.o) only [vsA, vsB, eq_self, if_true, if_false, implies_true, false_implies, evp, HX.ev, Nat.reduceAdd, HOp.looks, Nat.reduceEqDiff, overw, Nat.reduceBEq, h33, la, lb, ub33, frame0, List.replicate, Nat.sub]
    | (refine condK_cases (fun h => ?_) (fun h => ?_) <;> (try simp only [h]) <;> (try simp only [athA, ne_eq] at h) <;> (try (exfalso; omega)))
    | (refine guardK_cases (fun h => ?_) (fun h => ?_) <;> (try simp only [h]) <;> (try simp only [athA, ne_eq] at h) <;> (try (exfalso; omega)))
    | (refine dgK_cases (fun h => ?_) (fun h => ?_) <;> (try simp only [h]) <;> (try simp only [athA, ne_eq] at h) <;> (try (exfalso; omega)))
    | refine hwp_draw mixed rfl ?_

  · refine congrArg HV.bool (Eq.symm ?_)
    rw [beq_eq_false_iff_ne]; intro e; subst e; omega
  have hl : x.length = y.length := by omega
  refine HW.loopR mixed (fun i : Nat => (a :: b :: .undef :: .undef :: .undef :: .undef :: .undef :: .undef :: .undef :: .undef :: .undef :: .undef :: .int .i64 (x.length : Nat) :: .int .i64 (i : Nat) :: .undef :: .undef :: .undef :: .undef :: .undef :: .undef :: .undef :: .undef :: .undef :: .undef :: .undef :: .undef :: [])) (fun i => x.length - i) (fun i => i ≤ x.length ∧ x.take i = y.take i) 0 ⟨by omega, by simp⟩ (by (repeat first | exact Less.nil | refine Less.undef _ ?_ | refine Less.keep _ ?_)) ?_
  rintro i ⟨hi, he⟩
  by_cases h : i < x.length
  · have hxi : (bcells x)[i]? = some (.int .u8 (x[i].toNat)) := by simp [bcells, h]
    have hyi : (bcells y)[i]? = some (.int .u8 (y[i].toNat)) := by simp [bcells, show i < y.length by omega]
    obtain ⟨p, hp1, hp2⟩ := A.idx1 hxi .i64
    obtain ⟨q, hq1, hq2⟩ := B.idx1 hyi .i64
    have sa := A.sOk
    have sb := B.sOk
    have ey : y.take (i + 1) = y.take i ++ [y[i]] := by rw [List.take_add_one, List.getElem?_eq_getElem (by omega)]; rfl
    have ex : x.take (i + 1) = x.take i ++ [x[i]] := by rw [List.take_add_one, List.getElem?_eq_getElem h]; rfl
    repeat' first
      | simp -implicitDefEqProofs (disch := first | omega | decide | exact rfl | assumption | exact Nat.le_of_ble_eq_true rfl | exact One.c | exact One.o) only [vsA, vsB, eq_self, if_true, if_false, implies_true, false_implies, evp, HX.ev, Nat.reduceAdd, HOp.looks, Nat.reduceEqDiff, overw, Nat.reduceBEq, hp1, hp2, hq1, hq2, sa, sb, vadd1, ub33]
      | (refine condK_cases (fun h => ?_) (fun h => ?_) <;> (try simp only [h]) <;> (try simp only [athA, ne_eq] at h) <;> (try (exfalso; omega)))
      | (refine guardK_cases (fun h => ?_) (fun h => ?_) <;> (try simp only [h]) <;> (try simp only [athA, ne_eq] at h) <;> (try (exfalso; omega)))
      | (refine dgK_cases (fun h => ?_) (fun h => ?_) <;> (try simp only [h]) <;> (try simp only [athA, ne_eq] at h) <;> (try (exfalso; omega)))
      | refine hwp_draw mixed rfl ?_

    all_goals try omega
    · refine congrArg HV.bool (Eq.symm ?_)
      rw [beq_eq_false_iff_ne]; intro e; subst e; simp at h
    · have e1 : x[i] = y[i] := UInt8.toNat_inj.1 (by omega)
      exact ⟨i + 1, by omega, ⟨by omega, by rw [ex, ey, he, e1]⟩, (by (repeat first | exact Less.nil | refine Less.undef _ ?_ | refine Less.keep _ ?_))⟩
  · obtain rfl : i = x.length := by omega
    repeat' first
      | simp -implicitDefEqProofs (disch := first | omega | decide | exact rfl | assumption | exact Nat.le_of_ble_eq_true rfl | exact One.c | exact One.o) only [vsA, vsB, eq_self, if_true, if_false, implies_true, false_implies, evp, HX.ev, Nat.reduceAdd, HOp.looks, Nat.reduceEqDiff, overw, Nat.reduceBEq, ub33]
      | (refine condK_cases (fun h => ?_) (fun h => ?_) <;> (try simp only [h]) <;> (try simp only [athA, ne_eq] at h) <;> (try (exfalso; omega)))
      | (refine guardK_cases (fun h => ?_) (fun h => ?_) <;> (try simp only [h]) <;> (try simp only [athA, ne_eq] at h) <;> (try (exfalso; omega)))
      | (refine dgK_cases (fun h => ?_) (fun h => ?_) <;> (try simp only [h]) <;> (try simp only [athA, ne_eq] at h) <;> (try (exfalso; omega)))
      | refine hwp_draw mixed rfl ?_

    refine congrArg HV.bool (Eq.symm ?_)
    · rw [beq_iff_eq]
      rw [List.take_length, hl, List.take_length] at he; exact he

theorem holds12 {hs : HS} {F : List SA} {d : Nat} {a b vo vw f lt : HV} {E1 E2 : List En} (H : Sat hs (pt d (.cells 1 [a, b, vo, vw, f, lt] false false []) :: Bk vo vw E1 E2 :: F))
    (hn : (E1 ++ E2).length < 1073741824000) (hb : ∀ e ∈ E1 ++ E2, e.bs.length < 4611686018427) :
    HC Try.prog 12 [.ptr d 2] hs fun v hs' => v = .bool true ∧ hs' = hs := by
  have g := H.get
  have B := (bk_open.1 H.t)
  have ro := B.rd
  have rw := B.t.rd
  have lo := ro.len hs
  have hle : (E1 ++ E2).length = E1.length + E2.length := by simp
  have so := ro.sOk
  have sw := rw.sOk
  refine HC.wp mixed Try.func12 c12 ?_
  repeat' first
    | simp -implicitDefEqProofs (disch := first | omega | decide | exact rfl | assumption | exact Nat.le_of_ble_eq_true rfl | exact One.c | exact One.o) only [vsA, vsB, eq_self, if_true, if_false, implies_true, false_implies, evp, HX.ev, Nat.reduceAdd, HOp.looks, Nat.reduceEqDiff, overw, Nat.reduceBEq, h12, g, lo, ub12, frame0, List.replicate, Nat.sub]
    | (refine condK_cases (fun h => ?_) (fun h => ?_) <;> (try simp only [h]) <;> (try simp only [athA, ne_eq] at h) <;> (try (exfalso; omega)))
    | (refine guardK_cases (fun h => ?_) (fun h => ?_) <;> (try simp only [h]) <;> (try simp only [athA, ne_eq] at h) <;> (try (exfalso; omega)))

  refine HW.loopR mixed (fun i : Nat => (.ptr d 2 :: .undef :: .undef :: .undef :: .undef :: .undef :: .undef :: .undef :: vo :: .int .i64 ((E1 ++ E2).length : Nat) :: .int .i64 (i : Nat) :: .undef :: .undef :: .undef :: .undef :: .undef :: .undef :: .undef :: .undef :: .undef :: .undef :: .undef :: .undef :: .undef :: .undef :: .undef :: [])) (fun i => (E1 ++ E2).length - i) (fun i => i ≤ (E1 ++ E2).length) 0 (by omega) (by (repeat first | exact Less.nil | refine Less.undef _ ?_ | refine Less.keep _ ?_)) ?_
  rintro i hi
  by_cases h : i < (E1 ++ E2).length
  · obtain ⟨e, he⟩ : ∃ e, (E1 ++ E2)[i]? = some e := ⟨_, List.getElem?_eq_getElem h⟩
    obtain ⟨r1, r2⟩ := bk_rd H.t he
    have hbe := hb e (List.mem_of_getElem? he)
    obtain ⟨p, hp1, hp2⟩ := ro.idx1 (show ((E1 ++ E2).map En.out)[i]? = some e.out by rw [List.getElem?_map, he]; rfl) .i64
    obtain ⟨q, hq1, hq2⟩ := rw.idx1 (show ((E1 ++ E2).map En.want)[i]? = some e.want by rw [List.getElem?_map, he]; rfl) .i64
    have eqb : (e.bs == e.bs) = true := by simp
    repeat' first
      | simp -implicitDefEqProofs (disch := first | omega | decide | exact rfl | assumption | exact Nat.le_of_ble_eq_true rfl | exact One.c | exact One.o) only [vsA, vsB, eq_self, if_true, if_false, implies_true, false_implies, evp, HX.ev, Nat.reduceAdd, HOp.looks, Nat.reduceEqDiff, overw, Nat.reduceBEq, g, lo, so, sw, hp1, hp2, hq1, hq2, eqb, vadd1, ub12]
      | (refine condK_cases (fun h => ?_) (fun h => ?_) <;> (try simp only [h]) <;> (try simp only [athA, ne_eq] at h) <;> (try (exfalso; omega)))
      | (refine guardK_cases (fun h => ?_) (fun h => ?_) <;> (try simp only [h]) <;> (try simp only [athA, ne_eq] at h) <;> (try (exfalso; omega)))
      | ((with_reducible show actK _ (HAct.call (HX.cst (HV.func (Fn.func 33) _ _)) _) _ _ _ _ _); refine vcall_of ok33 rfl (same33 r1 r2 (by omega)) ?_; rintro _ _ ⟨rfl, rfl⟩)

    exact ⟨i + 1, by omega, by omega, (by (repeat first | exact Less.nil | refine Less.undef _ ?_ | refine Less.keep _ ?_))⟩
  · skip
    repeat' first
      | simp -implicitDefEqProofs (disch := first | omega | decide | exact rfl | assumption | exact Nat.le_of_ble_eq_true rfl | exact One.c | exact One.o) only [vsA, vsB, eq_self, if_true, if_false, implies_true, false_implies, evp, HX.ev, Nat.reduceAdd, HOp.looks, Nat.reduceEqDiff, overw, Nat.reduceBEq, ub12]
      | (refine condK_cases (fun h => ?_) (fun h => ?_) <;> (try simp only [h]) <;> (try simp only [athA, ne_eq] at h) <;> (try (exfalso; omega)))
      | (refine guardK_cases (fun h => ?_) (fun h => ?_) <;> (try simp only [h]) <;> (try simp only [athA, ne_eq] at h) <;> (try (exfalso; omega)))

end Go.Proofs.Ytccfcegmaejlnaa
namespace Go.Proofs
open Go.Shelf
def Try.laysM185_ren : Go.Shelf.Ren := ⟨fun | 185 => 38 | 187 => 47 | 115 => 48 | 253 => 49 | 224 => 50 | 254 => 51 | 255 => 52 | 291 => 53 | n => n, fun | 37 => 30 | 3 => 3 | 4 => 4 | 0 => 0 | 5 => 5 | 46 => 87 | 9 => 9 | 146 => 89 | 51 => 88 | n => n, fun | 1 => 0 | n => n⟩
theorem Try.laysM185 : Go.Proofs.LaysM.n185 Try.prog Try.laysM185_ren :=
  { mixed := by kernel_rfl
    f115 := Try.func48.trans (congrArg some (by kernel_rfl))
    f185 := Try.func38.trans (congrArg some (by kernel_rfl))
    f187 := Try.func47.trans (congrArg some (by kernel_rfl))
    f224 := Try.func50.trans (congrArg some (by kernel_rfl))
    f253 := Try.func49.trans (congrArg some (by kernel_rfl))
    f254 := Try.func51.trans (congrArg some (by kernel_rfl))
    f255 := Try.func52.trans (congrArg some (by kernel_rfl))
    f291 := Try.func53.trans (congrArg some (by kernel_rfl))
    t0 := Try.underlying0
    a0 := Try.isAgg0
    z0 := Try.sizeOf0
    v0 := Try.zeroValue0
    t3 := Try.underlying3
    a3 := Try.isAgg3
    z3 := Try.sizeOf3
    v3 := Try.zeroValue3
    t4 := Try.underlying4
    a4 := Try.isAgg4
    z4 := Try.sizeOf4
    v4 := Try.zeroValue4
    t5 := Try.underlying5
    a5 := Try.isAgg5
    z5 := Try.sizeOf5
    v5 := Try.zeroValue5
    t9 := Try.underlying9
    a9 := Try.isAgg9
    z9 := Try.sizeOf9
    v9 := Try.zeroValue9
    t37 := Try.underlying30
    a37 := Try.isAgg30
    z37 := Try.sizeOf30
    v37 := Try.zeroValue30
    t46 := Try.underlying87
    a46 := Try.isAgg87
    z46 := Try.sizeOf87
    v46 := Try.zeroValue87
    t51 := Try.underlying88
    a51 := Try.isAgg88
    z51 := Try.sizeOf88
    v51 := Try.zeroValue88
    t146 := Try.underlying89
    a146 := Try.isAgg89
    z146 := Try.sizeOf89
    v146 := Try.zeroValue89
    g1 := by kernel_rfl
    i0 := by kernel_rfl
    i3 := by kernel_rfl
    i4 := by kernel_rfl
    i5 := by kernel_rfl
    i9 := by kernel_rfl
    i37 := by kernel_rfl
    i46 := by kernel_rfl
    i51 := by kernel_rfl
    i146 := by kernel_rfl
    m1 := by kernel_rfl
    s1_3 := fun w h => Go.Proofs.cell_of_shapedOpen_int (zero := #[.int .i64 0]) (t := 3) h (of_decide_eq_true (by kernel_rfl)) (by kernel_rfl) rfl (by kernel_rfl) (by kernel_rfl) Try.underlying3 }
end Go.Proofs
namespace Go.Proofs.Ytccfcegmaejlnaa
open Go Go.HL Go.Shelf

def X : FuncId → Option (List HV → HS → Option (HV × HS))
  | 38 => some (xIndex 0)
  | _ => none

theorem ok38 : okF Try.prog 38 := ⟨_, Try.func38, by kernel_rfl, by kernel_rfl⟩

theorem index38 {args : List HV} {hs : HS} {v : HV} {hs' : HS} (h : xIndex 0 args hs = some (v, hs')) : HCall Try.prog 38 args hs fun v1 hs1 => v1 = v ∧ hs1 = hs' :=
  xIndex_sound ok38
    (fun a1 a2 n c1 k c2 xs ys m w hx hy hr1 hr2 hc1 hc2 hcap hs hk hm => Any.bytes_Index_at { Try.laysM185 with } a1 a2 n c1 k c2 xs ys m w hx hy hr1 hr2 hc1 hc2 hcap hs hk hm)
    (fun a2 k c2 w h2 hk => by
      have h := Any.bytes_Index_nil (P := Try.prog) { Try.laysM185 with } (some a2) k c2 w hk (fun h => absurd h (by omega))
      rw [if_neg (by omega)] at h
      exact h)
    h

theorem X_ok : XOk Try.prog X := by
  intro f g h
  unfold X at h
  split at h
  · simp at h; subst h; exact fun args hs v hs' h => index38 h
  · simp at h
end Go.Proofs.Ytccfcegmaejlnaa
namespace Go.Proofs.Ytccfcegmaejlnaa
open Go Go.HL
set_option maxRecDepth 100000
set_option maxHeartbeats 40000000
set_option linter.unusedSimpArgs false
attribute [local irreducible] pt My Ex Vw Gr GrK each grp exs Sat takeCells happend hbuildSlice hstore hbox hslice hmakeSlice hs2b hcopy HL.unit opC
theorem ok14 : okF Try.prog 14 := ⟨_, Try.func14, by kernel_rfl, by kernel_rfl⟩
theorem ok17 : okF Try.prog 17 := ⟨_, Try.func17, by kernel_rfl, by kernel_rfl⟩
theorem ok18 : okF Try.prog 18 := ⟨_, Try.func18, by kernel_rfl, by kernel_rfl⟩
theorem ok26 : okF Try.prog 26 := ⟨_, Try.func26, by kernel_rfl, by kernel_rfl⟩
theorem ok27 : okF Try.prog 27 := ⟨_, Try.func27, by kernel_rfl, by kernel_rfl⟩
theorem ok28 : okF Try.prog 28 := ⟨_, Try.func28, by kernel_rfl, by kernel_rfl⟩
theorem ok36 : okF Try.prog 36 := ⟨_, Try.func36, by kernel_rfl, by kernel_rfl⟩
theorem ok37 : okF Try.prog 37 := ⟨_, Try.func37, by kernel_rfl, by kernel_rfl⟩
theorem ok39 : okF Try.prog 39 := ⟨_, Try.func39, by kernel_rfl, by kernel_rfl⟩
theorem ok40 : okF Try.prog 40 := ⟨_, Try.func40, by kernel_rfl, by kernel_rfl⟩
theorem ok41 : okF Try.prog 41 := ⟨_, Try.func41, by kernel_rfl, by kernel_rfl⟩
/-- a long line's bytes: was a CR last, has its end come, what is left. -/
def skipL : Bool → List UInt8 → Bool × Bool × List UInt8
  | h, [] => (h, false, [])
  | h, c :: r => if h && c == 10 then (h, true, r) else skipL (c == 13) r
theorem bc_get {b : List UInt8} {i : Nat} (h : i < b.length) : (bcells b)[i]? = some (.int .u8 (b[i].toNat)) := by simp [bcells, h]
theorem bc_drop (b : List UInt8) (n : Nat) : (bcells b).drop n = bcells (b.drop n) := by simp [bcells, List.map_drop]
theorem bc_take (b : List UInt8) (n : Nat) : (bcells b).take n = bcells (b.take n) := by simp [bcells, List.map_take]
theorem rd_cut {hs : HS} {v : HV} {n : Nat} {b : List UInt8} (R : Rd hs 1 v n (bcells b)) (hn : n = b.length) {lo hi : Nat} {vlo vhi : Option HV} (a : Lo lo vlo) (c : Hi hi n vhi) (h1 : lo ≤ hi) (h2 : hi ≤ n) :
    ∃ v', hslice v vlo vhi none = some v' ∧ Rd hs 1 v' (hi - lo) (bcells ((b.drop lo).take (hi - lo))) := by
  obtain ⟨v', e1, e2⟩ := R.cut a c h1 h2
  rw [Nat.mul_one, Nat.mul_one, bc_drop, bc_take] at e2
  exact ⟨v', e1, e2⟩
theorem u8eq (a b : UInt8) : decide ((a.toNat : Int) = (b.toNat : Int)) = (a == b) := by
  rw [Bool.eq_iff_iff, decide_eq_true_eq, beq_iff_eq]
  exact ⟨fun h => UInt8.toNat_inj.1 (by omega), fun h => by rw [h]⟩
theorem u8e10 (a : UInt8) : decide ((a.toNat : Int) = 10) = (a == 10) := u8eq a 10
theorem u8e13 (a : UInt8) : decide ((a.toNat : Int) = 13) = (a == 13) := u8eq a 13

theorem skip36 {hs : HS} {l : List SA} {p : Nat} {m st v sz lf b : HV} {hf : Bool} {bs : List UInt8} (H : Sat hs (pt p (.cells 1 [m, st, v, sz, lf, .bool hf, .bool false] false false []) :: l)) (R : Rdl l b bs.length (bcells bs)) (hb : bs.length < 4611686018427387904) :
    HC Try.prog 36 [.ptr p 0, b] hs fun w hs' => Sat hs' (pt p (.cells 1 [m, st, v, sz, lf, .bool (skipL hf bs).1, .bool (skipL hf bs).2.1] false false []) :: l) ∧ Rdl l w (skipL hf bs).2.2.length (bcells (skipL hf bs).2.2) := by
  have lb := fun hs => (R _ H.t).len hs
  refine HC.wp mixed Try.func36 c36 ?_
  first | have f0 := Sat.pf (H) | have f0 := trivial
  first | have f1 := Sat.pf (H.t) | have f1 := trivial
  first | have f2 := Sat.pf (H.t.t) | have f2 := trivial
  first | have f3 := Sat.pf (H.t.t.t) | have f3 := trivial
  first | have f4 := Sat.pf (H.t.t.t.t) | have f4 := trivial
  first | have f5 := Sat.pf (H.t.t.t.t.t) | have f5 := trivial
  first | have f6 := Sat.pf (H.t.t.t.t.t.t) | have f6 := trivial
  first | have f7 := Sat.pf (H.t.t.t.t.t.t.t) | have f7 := trivial
  repeat' first
    | ((with_reducible show Need _); refine need_of ?_; (first | have f0 := Sat.pf (H) | have f0 := trivial); (first | have f1 := Sat.pf (H.t) | have f1 := trivial); (first | have f2 := Sat.pf (H.t.t) | have f2 := trivial); (first | have f3 := Sat.pf (H.t.t.t) | have f3 := trivial); (first | have f4 := Sat.pf (H.t.t.t.t) | have f4 := trivial); (first | have f5 := Sat.pf (H.t.t.t.t.t) | have f5 := trivial); (first | have f6 := Sat.pf (H.t.t.t.t.t.t) | have f6 := trivial); (first | have f7 := Sat.pf (H.t.t.t.t.t.t.t) | have f7 := trivial))
    | simp -implicitDefEqProofs (disch := first | omega | decide | exact rfl | assumption | exact Nat.le_of_ble_eq_true rfl | exact One.c | exact One.o) only [vsA, vsB, eq_self, if_true, if_false, implies_true, false_implies, evp, HX.ev, Nat.reduceAdd, HOp.looks, Nat.reduceEqDiff, overw, Nat.reduceBEq, h36, lb, ub36, f0, f1, f2, f3, f4, f5, f6, f7, frame0, List.replicate, Nat.sub]
    | (refine condK_cases (fun h => ?_) (fun h => ?_) <;> (try simp only [h]) <;> (try simp only [athA, ne_eq] at h) <;> (try (exfalso; omega)))
    | (refine guardK_cases (fun h => ?_) (fun h => ?_) <;> (try simp only [h]) <;> (try simp only [athA, ne_eq] at h) <;> (try (exfalso; omega)))
    | (clear H f0 f1 f2 f3 f4 f5 f6 f7; (with_reducible intro v2 hs H); (try simp only [setA, overw, Nat.reduceAdd] at H); refine need ?_)
    | refine opC_K ?_
    | ((with_reducible show opC (unit (hstore _ _ _ _)) _); refine sl_store1 (by with_reducible first | exact H | exact H.p1 | exact H.p2 | exact H.p3 | exact H.p4 | exact H.p5 | exact H.p6 | exact H.p7) (Nat.le_of_ble_eq_true rfl) (by first | exact rfl | (simp only [f0, f1, f2, f3, f4, f5, f6, f7]; done) | (simp only [onA, *]; done)) (by first | exact rfl | (simp only [f0, f1, f2, f3, f4, f5, f6, f7]; done) | (simp only [onA, *]; done)) ?_)
    | ((with_reducible show opC (unit (hstore _ _ _ _)) _); refine sl_storeN (by with_reducible first | exact H | exact H.p1 | exact H.p2 | exact H.p3 | exact H.p4 | exact H.p5 | exact H.p6 | exact H.p7) rfl (Nat.le_of_ble_eq_true rfl) (by first | exact rfl | (simp only [f0, f1, f2, f3, f4, f5, f6, f7]; done) | (simp only [onA, *]; done)) ?_)
    | with_reducible intro hy

  refine HW.loopA mixed (fun s : Nat × Bool => (.ptr p 0 :: b :: .undef :: .undef :: .undef :: .undef :: .undef :: b :: .int .i64 (bs.length : Nat) :: .int .i64 (s.1 : Nat) :: .undef :: .undef :: .undef :: .undef :: .undef :: .undef :: .undef :: .undef :: .undef :: .undef :: .undef :: .undef :: .undef :: .undef :: .undef :: .undef :: .undef :: .undef :: .undef :: .undef :: .undef :: .undef :: .undef :: .undef :: .undef :: [])) (fun s => pt p (.cells 1 [m, st, v, sz, lf, .bool s.2, .bool false] false false []) :: l)
    (fun s => bs.length - s.1) (fun s => s.1 ≤ bs.length ∧ skipL hf bs = skipL s.2 (bs.drop s.1)) (0, hf) ⟨by omega, rfl⟩ (by (repeat first | exact Less.nil | refine Less.undef _ ?_ | refine Less.keep _ ?_)) H ?_
  rintro ⟨i, hf1⟩ hs ⟨hi, he⟩ H
  simp only at hi he H
  first | have f0 := Sat.pf (H) | have f0 := trivial
  first | have f1 := Sat.pf (H.t) | have f1 := trivial
  first | have f2 := Sat.pf (H.t.t) | have f2 := trivial
  first | have f3 := Sat.pf (H.t.t.t) | have f3 := trivial
  first | have f4 := Sat.pf (H.t.t.t.t) | have f4 := trivial
  first | have f5 := Sat.pf (H.t.t.t.t.t) | have f5 := trivial
  first | have f6 := Sat.pf (H.t.t.t.t.t.t) | have f6 := trivial
  first | have f7 := Sat.pf (H.t.t.t.t.t.t.t) | have f7 := trivial
  by_cases hlt : i < bs.length
  · obtain ⟨q, hq1, hq2⟩ := (R _ H.t).idx1 (bc_get hlt) .i64
    have hd : bs.drop i = bs[i] :: bs.drop (i + 1) := List.drop_eq_getElem_cons hlt
    have rb := (R _ H.t).sOk
    obtain ⟨w, hw, _⟩ := rd_cut (R _ H.t) rfl (lo := i + 1) (hi := bs.length) (Lo.some (k := .i64)) Hi.none (by omega) (by omega)
    have Rw : Rdl l w (bs.drop (i + 1)).length (bcells (bs.drop (i + 1))) := by
      intro hs2 H2
      obtain ⟨w2, hw2, r2⟩ := rd_cut (R _ H2) rfl (lo := i + 1) (hi := bs.length) (Lo.some (k := .i64)) Hi.none (by omega) (by omega)
      rw [hw] at hw2; cases hw2
      rw [List.length_drop]
      rwa [List.take_of_length_le (by rw [List.length_drop]; omega)] at r2
    rw [hd, skipL] at he
    repeat' first
      | ((with_reducible show Need _); refine need_of ?_; (first | have f0 := Sat.pf (H) | have f0 := trivial); (first | have f1 := Sat.pf (H.t) | have f1 := trivial); (first | have f2 := Sat.pf (H.t.t) | have f2 := trivial); (first | have f3 := Sat.pf (H.t.t.t) | have f3 := trivial); (first | have f4 := Sat.pf (H.t.t.t.t) | have f4 := trivial); (first | have f5 := Sat.pf (H.t.t.t.t.t) | have f5 := trivial); (first | have f6 := Sat.pf (H.t.t.t.t.t.t) | have f6 := trivial); (first | have f7 := Sat.pf (H.t.t.t.t.t.t.t) | have f7 := trivial); (first | have rb := (R _ H.t).sOk | skip))
      | simp -implicitDefEqProofs (disch := first | omega | decide | exact rfl | assumption | exact Nat.le_of_ble_eq_true rfl | exact One.c | exact One.o) only [vsA, vsB, eq_self, if_true, if_false, implies_true, false_implies, evp, HX.ev, Nat.reduceAdd, HOp.looks, Nat.reduceEqDiff, overw, Nat.reduceBEq, hq1, hq2, rb, u8e10, u8e13, hw, vadd1, ub36, f0, f1, f2, f3, f4, f5, f6, f7]
      | (refine condK_cases (fun h => ?_) (fun h => ?_) <;> (try simp only [h]) <;> (try simp only [athA, ne_eq] at h) <;> (try (exfalso; omega)))
      | (refine guardK_cases (fun h => ?_) (fun h => ?_) <;> (try simp only [h]) <;> (try simp only [athA, ne_eq] at h) <;> (try (exfalso; omega)))
      | (clear H f0 f1 f2 f3 f4 f5 f6 f7; (with_reducible intro v2 hs H); (try simp only [setA, overw, Nat.reduceAdd] at H); refine need ?_)
      | refine opC_K ?_
      | ((with_reducible show opC (unit (hstore _ _ _ _)) _); refine sl_store1 (by with_reducible first | exact H | exact H.p1 | exact H.p2 | exact H.p3 | exact H.p4 | exact H.p5 | exact H.p6 | exact H.p7) (Nat.le_of_ble_eq_true rfl) (by first | exact rfl | (simp only [f0, f1, f2, f3, f4, f5, f6, f7]; done) | (simp only [onA, *]; done)) (by first | exact rfl | (simp only [f0, f1, f2, f3, f4, f5, f6, f7]; done) | (simp only [onA, *]; done)) ?_)
      | ((with_reducible show opC (unit (hstore _ _ _ _)) _); refine sl_storeN (by with_reducible first | exact H | exact H.p1 | exact H.p2 | exact H.p3 | exact H.p4 | exact H.p5 | exact H.p6 | exact H.p7) rfl (Nat.le_of_ble_eq_true rfl) (by first | exact rfl | (simp only [f0, f1, f2, f3, f4, f5, f6, f7]; done) | (simp only [onA, *]; done)) ?_)
      | with_reducible intro hy

    · rw [he, if_pos (by simp [*])]
      exact ⟨H, Rw⟩
    all_goals
      rw [if_neg (by simp [*])] at he
      exact ⟨(i + 1, _), _, by simp only; omega, ⟨by simp only; omega, he⟩, (by (repeat first | exact Less.nil | refine Less.undef _ ?_ | refine Less.keep _ ?_)), Weak.refl _, H⟩
  · obtain rfl : i = bs.length := by omega
    rw [List.drop_length, skipL] at he
    repeat' first
      | ((with_reducible show Need _); refine need_of ?_; (first | have f0 := Sat.pf (H) | have f0 := trivial); (first | have f1 := Sat.pf (H.t) | have f1 := trivial); (first | have f2 := Sat.pf (H.t.t) | have f2 := trivial); (first | have f3 := Sat.pf (H.t.t.t) | have f3 := trivial); (first | have f4 := Sat.pf (H.t.t.t.t) | have f4 := trivial); (first | have f5 := Sat.pf (H.t.t.t.t.t) | have f5 := trivial); (first | have f6 := Sat.pf (H.t.t.t.t.t.t) | have f6 := trivial); (first | have f7 := Sat.pf (H.t.t.t.t.t.t.t) | have f7 := trivial))
      | simp -implicitDefEqProofs (disch := first | omega | decide | exact rfl | assumption | exact Nat.le_of_ble_eq_true rfl | exact One.c | exact One.o) only [vsA, vsB, eq_self, if_true, if_false, implies_true, false_implies, evp, HX.ev, Nat.reduceAdd, HOp.looks, Nat.reduceEqDiff, overw, Nat.reduceBEq, ub36, f0, f1, f2, f3, f4, f5, f6, f7]
      | (refine condK_cases (fun h => ?_) (fun h => ?_) <;> (try simp only [h]) <;> (try simp only [athA, ne_eq] at h) <;> (try (exfalso; omega)))
      | (refine guardK_cases (fun h => ?_) (fun h => ?_) <;> (try simp only [h]) <;> (try simp only [athA, ne_eq] at h) <;> (try (exfalso; omega)))
      | (clear H f0 f1 f2 f3 f4 f5 f6 f7; (with_reducible intro v2 hs H); (try simp only [setA, overw, Nat.reduceAdd] at H); refine need ?_)
      | refine opC_K ?_
      | ((with_reducible show opC (unit (hstore _ _ _ _)) _); refine sl_store1 (by with_reducible first | exact H | exact H.p1 | exact H.p2 | exact H.p3 | exact H.p4 | exact H.p5 | exact H.p6 | exact H.p7) (Nat.le_of_ble_eq_true rfl) (by first | exact rfl | (simp only [f0, f1, f2, f3, f4, f5, f6, f7]; done) | (simp only [onA, *]; done)) (by first | exact rfl | (simp only [f0, f1, f2, f3, f4, f5, f6, f7]; done) | (simp only [onA, *]; done)) ?_)
      | ((with_reducible show opC (unit (hstore _ _ _ _)) _); refine sl_storeN (by with_reducible first | exact H | exact H.p1 | exact H.p2 | exact H.p3 | exact H.p4 | exact H.p5 | exact H.p6 | exact H.p7) rfl (Nat.le_of_ble_eq_true rfl) (by first | exact rfl | (simp only [f0, f1, f2, f3, f4, f5, f6, f7]; done) | (simp only [onA, *]; done)) ?_)
      | with_reducible intro hy

    rw [he]
    exact ⟨H, fun _ _ => Rd.nil⟩

theorem skip37 {hs : HS} {l : List SA} {p : Nat} {m st v sz hf en b : HV} {lf : Nat} {bs : List UInt8} (H : Sat hs (pt p (.cells 1 [m, st, v, sz, .int .i64 (lf : Nat), hf, en] false false []) :: l)) (R : Rdl l b bs.length (bcells bs)) (hb : bs.length < 4611686018427387904) (hl : lf < 4611686018427387904) :
    HC Try.prog 37 [.ptr p 0, b] hs fun w hs' => Sat hs' (pt p (.cells 1 [m, st, v, sz, .int .i64 ((lf - min lf bs.length : Nat) : Int), hf, en] false false []) :: l) ∧ Rdl l w (bs.drop (min lf bs.length)).length (bcells (bs.drop (min lf bs.length))) ∧ hslice b (some (.int .i64 ((min lf bs.length : Nat) : Int))) none none = some w := by
  have lb := fun hs => (R _ H.t).len hs
  have rb := (R _ H.t).sOk
  obtain ⟨w, hw, _⟩ := rd_cut (R _ H.t) rfl (lo := min lf bs.length) (hi := bs.length) (Lo.some (k := .i64)) Hi.none (by omega) (by omega)
  have Rw : Rdl l w (bs.drop (min lf bs.length)).length (bcells (bs.drop (min lf bs.length))) := by
    intro hs2 H2
    obtain ⟨w2, hw2, r2⟩ := rd_cut (R _ H2) rfl (lo := min lf bs.length) (hi := bs.length) (Lo.some (k := .i64)) Hi.none (by omega) (by omega)
    rw [hw] at hw2; cases hw2
    rw [List.length_drop]
    rwa [List.take_of_length_le (by rw [List.length_drop]; omega)] at r2
  refine HC.wp mixed Try.func37 c37 ?_
  first | have f0 := Sat.pf (H) | have f0 := trivial
  first | have f1 := Sat.pf (H.t) | have f1 := trivial
  first | have f2 := Sat.pf (H.t.t) | have f2 := trivial
  first | have f3 := Sat.pf (H.t.t.t) | have f3 := trivial
  first | have f4 := Sat.pf (H.t.t.t.t) | have f4 := trivial
  first | have f5 := Sat.pf (H.t.t.t.t.t) | have f5 := trivial
  first | have f6 := Sat.pf (H.t.t.t.t.t.t) | have f6 := trivial
  first | have f7 := Sat.pf (H.t.t.t.t.t.t.t) | have f7 := trivial
  repeat' first
    | ((with_reducible show Need _); refine need_of ?_; (first | have f0 := Sat.pf (H) | have f0 := trivial); (first | have f1 := Sat.pf (H.t) | have f1 := trivial); (first | have f2 := Sat.pf (H.t.t) | have f2 := trivial); (first | have f3 := Sat.pf (H.t.t.t) | have f3 := trivial); (first | have f4 := Sat.pf (H.t.t.t.t) | have f4 := trivial); (first | have f5 := Sat.pf (H.t.t.t.t.t) | have f5 := trivial); (first | have f6 := Sat.pf (H.t.t.t.t.t.t) | have f6 := trivial); (first | have f7 := Sat.pf (H.t.t.t.t.t.t.t) | have f7 := trivial); (first | have rb := (R _ H.t).sOk | skip))
    | simp -implicitDefEqProofs (disch := first | omega | decide | exact rfl | assumption | exact Nat.le_of_ble_eq_true rfl | exact One.c | exact One.o) only [vsA, vsB, eq_self, if_true, if_false, implies_true, false_implies, evp, HX.ev, Nat.reduceAdd, HOp.looks, Nat.reduceEqDiff, overw, Nat.reduceBEq, h37, lb, hw, rb, vsubn, ub37, f0, f1, f2, f3, f4, f5, f6, f7, frame0, List.replicate, Nat.sub]
    | (refine condK_cases (fun h => ?_) (fun h => ?_) <;> (try simp only [h]) <;> (try simp only [athA, ne_eq] at h) <;> (try (exfalso; omega)))
    | (refine guardK_cases (fun h => ?_) (fun h => ?_) <;> (try simp only [h]) <;> (try simp only [athA, ne_eq] at h) <;> (try (exfalso; omega)))
    | (clear H f0 f1 f2 f3 f4 f5 f6 f7; (with_reducible intro v2 hs H); (try simp only [setA, overw, Nat.reduceAdd] at H); refine need ?_)
    | refine opC_K ?_
    | ((with_reducible show opC (unit (hstore _ _ _ _)) _); refine sl_store1 (by with_reducible first | exact H | exact H.p1 | exact H.p2 | exact H.p3 | exact H.p4 | exact H.p5 | exact H.p6 | exact H.p7) (Nat.le_of_ble_eq_true rfl) (by first | exact rfl | (simp only [f0, f1, f2, f3, f4, f5, f6, f7]; done) | (simp only [onA, *]; done)) (by first | exact rfl | (simp only [f0, f1, f2, f3, f4, f5, f6, f7]; done) | (simp only [onA, *]; done)) ?_)
    | ((with_reducible show opC (unit (hstore _ _ _ _)) _); refine sl_storeN (by with_reducible first | exact H | exact H.p1 | exact H.p2 | exact H.p3 | exact H.p4 | exact H.p5 | exact H.p6 | exact H.p7) rfl (Nat.le_of_ble_eq_true rfl) (by first | exact rfl | (simp only [f0, f1, f2, f3, f4, f5, f6, f7]; done) | (simp only [onA, *]; done)) ?_)
    | with_reducible intro hy

  exact ⟨H, Rw⟩

theorem take39 {hs : HS} {l : List SA} {p : Nat} {m st v sz lf hf en : HV} {xs : List HV} {n k : Nat} (H : Sat hs (pt p (.cells 1 [m, st, v, sz, lf, hf, en] false false []) :: l)) (R : Rdl l v n xs) (hk : k ≤ n) :
    HC Try.prog 39 [.ptr p 0, .int .i64 (k : Nat)] hs fun b hs' => ∃ v', hslice v none (some (.int .i64 (k : Nat))) none = some b ∧ hslice v (some (.int .i64 (k : Nat))) none none = some v' ∧ Sat hs' (pt p (.cells 1 [m, st, v', sz, lf, hf, en] false false []) :: l) := by
  have rb := (R _ H.t).sOk
  obtain ⟨b, hb1, _⟩ := (R _ H.t).cut Lo.none (Hi.some (hi := k) (k := .i64)) (Nat.zero_le _) hk
  obtain ⟨v', hv1, rv⟩ := (R _ H.t).cut (Lo.some (lo := k) (k := .i64)) Hi.none hk (Nat.le_refl _)
  have o1 := rv.one
  have o2 := rv.cells
  refine HC.wp mixed Try.func39 c39 ?_
  first | have f0 := Sat.pf (H) | have f0 := trivial
  first | have f1 := Sat.pf (H.t) | have f1 := trivial
  first | have f2 := Sat.pf (H.t.t) | have f2 := trivial
  first | have f3 := Sat.pf (H.t.t.t) | have f3 := trivial
  first | have f4 := Sat.pf (H.t.t.t.t) | have f4 := trivial
  first | have f5 := Sat.pf (H.t.t.t.t.t) | have f5 := trivial
  first | have f6 := Sat.pf (H.t.t.t.t.t.t) | have f6 := trivial
  first | have f7 := Sat.pf (H.t.t.t.t.t.t.t) | have f7 := trivial
  repeat' first
    | ((with_reducible show Need _); refine need_of ?_; (first | have f0 := Sat.pf (H) | have f0 := trivial); (first | have f1 := Sat.pf (H.t) | have f1 := trivial); (first | have f2 := Sat.pf (H.t.t) | have f2 := trivial); (first | have f3 := Sat.pf (H.t.t.t) | have f3 := trivial); (first | have f4 := Sat.pf (H.t.t.t.t) | have f4 := trivial); (first | have f5 := Sat.pf (H.t.t.t.t.t) | have f5 := trivial); (first | have f6 := Sat.pf (H.t.t.t.t.t.t) | have f6 := trivial); (first | have f7 := Sat.pf (H.t.t.t.t.t.t.t) | have f7 := trivial))
    | simp -implicitDefEqProofs (disch := first | omega | decide | exact rfl | assumption | exact Nat.le_of_ble_eq_true rfl | exact One.c | exact One.o) only [vsA, vsB, eq_self, if_true, if_false, implies_true, false_implies, evp, HX.ev, Nat.reduceAdd, HOp.looks, Nat.reduceEqDiff, overw, Nat.reduceBEq, h39, hb1, hv1, rb, o1, o2, ub39, f0, f1, f2, f3, f4, f5, f6, f7, frame0, List.replicate, Nat.sub]
    | (refine condK_cases (fun h => ?_) (fun h => ?_) <;> (try simp only [h]) <;> (try simp only [athA, ne_eq] at h) <;> (try (exfalso; omega)))
    | (refine guardK_cases (fun h => ?_) (fun h => ?_) <;> (try simp only [h]) <;> (try simp only [athA, ne_eq] at h) <;> (try (exfalso; omega)))
    | (clear H f0 f1 f2 f3 f4 f5 f6 f7; (with_reducible intro v2 hs H); (try simp only [setA, overw, Nat.reduceAdd] at H); refine need ?_)
    | refine opC_K ?_
    | ((with_reducible show opC (unit (hstore _ _ _ _)) _); refine sl_store1 (by with_reducible first | exact H | exact H.p1 | exact H.p2 | exact H.p3 | exact H.p4 | exact H.p5 | exact H.p6 | exact H.p7) (Nat.le_of_ble_eq_true rfl) (by first | exact rfl | (simp only [f0, f1, f2, f3, f4, f5, f6, f7]; done) | (simp only [onA, *]; done)) (by first | exact rfl | (simp only [f0, f1, f2, f3, f4, f5, f6, f7]; done) | (simp only [onA, *]; done)) ?_)
    | ((with_reducible show opC (unit (hstore _ _ _ _)) _); refine sl_storeN (by with_reducible first | exact H | exact H.p1 | exact H.p2 | exact H.p3 | exact H.p4 | exact H.p5 | exact H.p6 | exact H.p7) rfl (Nat.le_of_ble_eq_true rfl) (by first | exact rfl | (simp only [f0, f1, f2, f3, f4, f5, f6, f7]; done) | (simp only [onA, *]; done)) ?_)
    | with_reducible intro hy

  exact H

structure St where
  most : Nat
  st : Nat
  held : List UInt8
  size : Nat
  left : Nat
  half : Bool
  ended : Bool
def St.cells (s : St) (v : HV) : List HV := [.int .i64 (s.most : Nat), .int .i64 (s.st : Nat), v, .int .i64 (s.size : Nat), .int .i64 (s.left : Nat), .bool s.half, .bool s.ended]
def feedF (s : St) (bs : List UInt8) : St :=
  if s.st = 1 ∧ s.ended = false then { s with half := (skipL s.half bs).1, ended := (skipL s.half bs).2.1, held := s.held ++ (skipL s.half bs).2.2 }
  else if s.st = 3 then { s with left := s.left - min s.left bs.length, held := s.held ++ bs.drop (min s.left bs.length) }
  else { s with held := s.held ++ bs }
theorem skipL_len : ∀ (h : Bool) (bs : List UInt8), (skipL h bs).2.2.length ≤ bs.length
  | h, [] => by simp [skipL]
  | h, c :: r => by
    unfold skipL
    split
    · simp
    · have := skipL_len (c == 13) r; simp; omega
theorem feedF1 {s : St} {bs : List UInt8} (h : s.st = 1) (h2 : s.ended = false) : feedF s bs = { s with half := (skipL s.half bs).1, ended := (skipL s.half bs).2.1, held := s.held ++ (skipL s.half bs).2.2 } := if_pos ⟨h, h2⟩
theorem feedF2 {s : St} {bs : List UInt8} (h : s.st = 3) : feedF s bs = { s with left := s.left - min s.left bs.length, held := s.held ++ bs.drop (min s.left bs.length) } :=
  (if_neg (by rintro ⟨h1, _⟩; omega)).trans (if_pos h)
theorem feedF3 {s : St} {bs : List UInt8} (h : s.st ≠ 1 ∨ s.ended = true) (h2 : s.st ≠ 3) : feedF s bs = { s with held := s.held ++ bs } :=
  (if_neg (by rintro ⟨h1, h3⟩; rcases h with h | h; exact h h1; rw [h] at h3; cases h3)).trans (if_neg h2)
theorem feed18 {hs : HS} {l : List SA} {O : SA} {p : Nat} {v b : HV} {s : St} {bs : List UInt8} (H : Sat hs (pt p (.cells 1 (s.cells v) false false []) :: O :: l)) (hO : ∀ hs l', Sat hs (O :: l') → Sat hs (My 1 v s.held.length (bcells s.held) :: l')) (R : Rdl (O :: l) b bs.length (bcells bs))
    (hb : s.held.length + bs.length < 46116860184) (hl : s.left < 4611686018427387904) :
    HC Try.prog 18 [.ptr p 0, b] hs fun _ hs' => ∃ v', Sat hs' (pt p (.cells 1 ((feedF s bs).cells v') false false []) :: My 1 v' (feedF s bs).held.length (bcells (feedF s bs).held) :: l) := by
  have hmax : maxLen = 9223372036854775807 := rfl
  have sl := skipL_len s.half bs
  have T := (R _ H.t).take
  have g := H.get
  obtain ⟨most, st, held, size, left, half, ended⟩ := s
  simp only [St.cells] at H g hO hb hl sl
  have ld : (bs.drop (min left bs.length)).length ≤ bs.length := by simp
  refine HC.wp mixed Try.func18 c18 ?_
  first | have f0 := Sat.pf (H) | have f0 := trivial
  first | have f1 := Sat.pf (H.t) | have f1 := trivial
  first | have f2 := Sat.pf (H.t.t) | have f2 := trivial
  first | have f3 := Sat.pf (H.t.t.t) | have f3 := trivial
  first | have f4 := Sat.pf (H.t.t.t.t) | have f4 := trivial
  first | have f5 := Sat.pf (H.t.t.t.t.t) | have f5 := trivial
  first | have f6 := Sat.pf (H.t.t.t.t.t.t) | have f6 := trivial
  first | have f7 := Sat.pf (H.t.t.t.t.t.t.t) | have f7 := trivial
  cases ended
  all_goals
    repeat' first
      | ((with_reducible show Need _); refine need_of ?_; (first | have f0 := Sat.pf (H) | have f0 := trivial); (first | have f1 := Sat.pf (H.t) | have f1 := trivial); (first | have f2 := Sat.pf (H.t.t) | have f2 := trivial); (first | have f3 := Sat.pf (H.t.t.t) | have f3 := trivial); (first | have f4 := Sat.pf (H.t.t.t.t) | have f4 := trivial); (first | have f5 := Sat.pf (H.t.t.t.t.t) | have f5 := trivial); (first | have f6 := Sat.pf (H.t.t.t.t.t.t) | have f6 := trivial); (first | have f7 := Sat.pf (H.t.t.t.t.t.t.t) | have f7 := trivial))
      | simp -implicitDefEqProofs (disch := first | omega | decide | exact rfl | assumption | exact Nat.le_of_ble_eq_true rfl | exact One.c | exact One.o) only [vsA, vsB, eq_self, if_true, if_false, implies_true, false_implies, evp, HX.ev, Nat.reduceAdd, HOp.looks, Nat.reduceEqDiff, overw, Nat.reduceBEq, h18, ub18, f0, f1, f2, f3, f4, f5, f6, f7, frame0, List.replicate, Nat.sub]
      | (refine condK_cases (fun h => ?_) (fun h => ?_) <;> (try simp only [h]) <;> (try simp only [athA, ne_eq] at h) <;> (try (exfalso; omega)))
      | (refine guardK_cases (fun h => ?_) (fun h => ?_) <;> (try simp only [h]) <;> (try simp only [athA, ne_eq] at h) <;> (try (exfalso; omega)))
      | (clear H f0 f1 f2 f3 f4 f5 f6 f7; (with_reducible intro v2 hs H); (try simp only [setA, overw, Nat.reduceAdd] at H); refine need ?_)
      | ((with_reducible show actK _ (HAct.call (HX.cst (HV.func (Fn.func 36) _ _)) _) _ _ _ _ _); refine vcall_of ok36 rfl (skip36 H R (by omega)) ?_;  clear H f0 f1 f2 f3 f4 f5 f6 f7; rintro w hs ⟨H, Rw⟩; have T := (Rw _ H.t).take; refine need ?_)
      | ((with_reducible show actK _ (HAct.call (HX.cst (HV.func (Fn.func 37) _ _)) _) _ _ _ _ _); refine vcall_of ok37 rfl (skip37 H R (by omega) hl) ?_;  clear H f0 f1 f2 f3 f4 f5 f6 f7; rintro w hs ⟨H, Rw, _⟩; have T := (Rw _ H.t).take; refine need ?_)
      | refine opC_K ?_
      | ((with_reducible show opC (happend _ _ _ _ _) _); refine sl_append (hO _ _ H.p1) (by assumption) (roomFor_of (by omega)) (by omega) ?_; clear H f0 f1 f2 f3 f4 f5 f6 f7; intro vn hs H; refine need ?_)
      | ((with_reducible show opC (unit (hstore _ _ _ _)) _); refine sl_store1 (by with_reducible first | exact H | exact H.p1 | exact H.p2 | exact H.p3 | exact H.p4 | exact H.p5 | exact H.p6 | exact H.p7) (Nat.le_of_ble_eq_true rfl) (by first | exact rfl | (simp only [f0, f1, f2, f3, f4, f5, f6, f7]; done) | (simp only [onA, *]; done)) (by first | exact rfl | (simp only [f0, f1, f2, f3, f4, f5, f6, f7]; done) | (simp only [onA, *]; done)) ?_)
      | ((with_reducible show opC (unit (hstore _ _ _ _)) _); refine sl_storeN (by with_reducible first | exact H | exact H.p1 | exact H.p2 | exact H.p3 | exact H.p4 | exact H.p5 | exact H.p6 | exact H.p7) rfl (Nat.le_of_ble_eq_true rfl) (by first | exact rfl | (simp only [f0, f1, f2, f3, f4, f5, f6, f7]; done) | (simp only [onA, *]; done)) ?_)
      | ((with_reducible show opC (happend _ _ _ _ _) _); refine sl_append (by with_reducible first | exact H | exact H.p1 | exact H.p2 | exact H.p3 | exact H.p4 | exact H.p5 | exact H.p6 | exact H.p7) (by first | assumption | with_reducible first | exact f0.2.1 | exact f1.2.1 | exact f2.2.1 | exact f3.2.1 | exact f4.2.1 | exact f5.2.1 | exact f6.2.1 | exact f7.2.1 | exact va_takeS) (by first | exact roomFor_of (by omega) | exact roomFor_wide (by omega)) (by omega) ?_)
      | ((with_reducible show opC (happend _ _ _ _ _) _); refine sl_append0X H (by first | assumption | with_reducible first | exact f0.2.1 | exact f1.2.1 | exact f2.2.1 | exact f3.2.1 | exact f4.2.1 | exact f5.2.1 | exact f6.2.1 | exact f7.2.1 | exact va_takeS) (by first | exact roomFor_of (by omega) | exact roomFor_wide (by omega)) (by omega) ?_)
      | ((with_reducible show opC (happend _ _ _ _ _) _); refine sl_appendX (by with_reducible first | exact H | exact H.p1 | exact H.p2 | exact H.p3 | exact H.p4 | exact H.p5 | exact H.p6 | exact H.p7) (by first | assumption | with_reducible first | exact f0.2.1 | exact f1.2.1 | exact f2.2.1 | exact f3.2.1 | exact f4.2.1 | exact f5.2.1 | exact f6.2.1 | exact f7.2.1 | exact va_takeS) (by first | exact roomFor_of (by omega) | exact roomFor_wide (by omega)) (by omega) ?_)
      | with_reducible intro hy

  all_goals
    refine ⟨vn, ?_⟩
    first
    | rw [feedF1 (s := ⟨most, st, held, size, left, half, _⟩) (show st = 1 by omega) rfl]
    | rw [feedF2 (s := ⟨most, st, held, size, left, half, _⟩) (show st = 3 by omega)]
    | rw [feedF3 (s := ⟨most, st, held, size, left, half, _⟩) (by first | exact .inl (show st ≠ 1 by omega) | exact .inr rfl) (show st ≠ 3 by omega)]
    simp only [St.cells]
    rw [bcells_app, List.length_append]
    exact H

theorem nil_or {hs : HS} {s n : Nat} {v : HV} {xs : List HV} (R : Rd hs s v n xs) : (v = .nilSlice ∧ n = 0) ∨ ∃ h o c, v = .slice h o n c := by
  obtain ⟨_, h | ⟨h, o, h1, h2⟩ | ⟨h, o, cap, cs, ro, opn, olds, h1, _⟩⟩ := R
  · exact .inl h
  · exact .inr ⟨h, o, some 0, by rw [h1, h2]⟩
  · exact .inr ⟨h, o, cap, h1⟩
theorem eq_nil1 : hbin .eql (some .slice) .nilSlice .nilSlice = some (.bool true) := rfl
theorem eq_nil2 {h o n : Nat} {c : Option Nat} : hbin .eql (some .slice) (.slice h o n c) .nilSlice = some (.bool false) := rfl
theorem clone41 {hs : HS} {l : List SA} {b : HV} {bs : List UInt8} (H : Sat hs l) (R : Rdl l b bs.length (bcells bs)) (hb : bs.length < 46116860184) :
    HC Try.prog 41 [b] hs fun v hs' => Sat hs' (Ex 1 v bs.length (bcells bs) :: l) := by
  have hmax : maxLen = 9223372036854775807 := rfl
  refine HC.wp mixed Try.func41 c41 ?_
  rcases nil_or (R _ H) with ⟨rfl, hn⟩ | ⟨h, o, c, rfl⟩
  · have e : bs = [] := List.eq_nil_of_length_eq_zero hn
    subst e
    first | have f0 := Sat.pf (H) | have f0 := trivial
    first | have f1 := Sat.pf (H.t) | have f1 := trivial
    first | have f2 := Sat.pf (H.t.t) | have f2 := trivial
    first | have f3 := Sat.pf (H.t.t.t) | have f3 := trivial
    first | have f4 := Sat.pf (H.t.t.t.t) | have f4 := trivial
    first | have f5 := Sat.pf (H.t.t.t.t.t) | have f5 := trivial
    first | have f6 := Sat.pf (H.t.t.t.t.t.t) | have f6 := trivial
    first | have f7 := Sat.pf (H.t.t.t.t.t.t.t) | have f7 := trivial
    repeat' first
      | ((with_reducible show Need _); refine need_of ?_; (first | have f0 := Sat.pf (H) | have f0 := trivial); (first | have f1 := Sat.pf (H.t) | have f1 := trivial); (first | have f2 := Sat.pf (H.t.t) | have f2 := trivial); (first | have f3 := Sat.pf (H.t.t.t) | have f3 := trivial); (first | have f4 := Sat.pf (H.t.t.t.t) | have f4 := trivial); (first | have f5 := Sat.pf (H.t.t.t.t.t) | have f5 := trivial); (first | have f6 := Sat.pf (H.t.t.t.t.t.t) | have f6 := trivial); (first | have f7 := Sat.pf (H.t.t.t.t.t.t.t) | have f7 := trivial))
      | simp -implicitDefEqProofs (disch := first | omega | decide | exact rfl | assumption | exact Nat.le_of_ble_eq_true rfl | exact One.c | exact One.o) only [vsA, vsB, eq_self, if_true, if_false, implies_true, false_implies, evp, HX.ev, Nat.reduceAdd, HOp.looks, Nat.reduceEqDiff, overw, Nat.reduceBEq, h41, eq_nil1, f0, f1, f2, f3, f4, f5, f6, f7, frame0, List.replicate, Nat.sub]
      | (refine condK_cases (fun h => ?_) (fun h => ?_) <;> (try simp only [h]) <;> (try simp only [athA, ne_eq] at h) <;> (try (exfalso; omega)))
      | (refine guardK_cases (fun h => ?_) (fun h => ?_) <;> (try simp only [h]) <;> (try simp only [athA, ne_eq] at h) <;> (try (exfalso; omega)))
      | (clear H f0 f1 f2 f3 f4 f5 f6 f7; (with_reducible intro v2 hs H); (try simp only [setA, overw, Nat.reduceAdd] at H); refine need ?_)
      | refine opC_K ?_
      | ((with_reducible show opC (happend _ _ _ _ _) _); refine sl_append (by with_reducible first | exact H | exact H.p1 | exact H.p2 | exact H.p3 | exact H.p4 | exact H.p5 | exact H.p6 | exact H.p7) (by first | assumption | with_reducible first | exact f0.2.1 | exact f1.2.1 | exact f2.2.1 | exact f3.2.1 | exact f4.2.1 | exact f5.2.1 | exact f6.2.1 | exact f7.2.1 | exact va_takeS) (by first | exact roomFor_of (by omega) | exact roomFor_wide (by omega)) (by omega) ?_)
      | ((with_reducible show opC (happend _ _ _ _ _) _); refine sl_append0X H (by first | assumption | with_reducible first | exact f0.2.1 | exact f1.2.1 | exact f2.2.1 | exact f3.2.1 | exact f4.2.1 | exact f5.2.1 | exact f6.2.1 | exact f7.2.1 | exact va_takeS) (by first | exact roomFor_of (by omega) | exact roomFor_wide (by omega)) (by omega) ?_)
      | ((with_reducible show opC (happend _ _ _ _ _) _); refine sl_appendX (by with_reducible first | exact H | exact H.p1 | exact H.p2 | exact H.p3 | exact H.p4 | exact H.p5 | exact H.p6 | exact H.p7) (by first | assumption | with_reducible first | exact f0.2.1 | exact f1.2.1 | exact f2.2.1 | exact f3.2.1 | exact f4.2.1 | exact f5.2.1 | exact f6.2.1 | exact f7.2.1 | exact va_takeS) (by first | exact roomFor_of (by omega) | exact roomFor_wide (by omega)) (by omega) ?_)
      | ((with_reducible show opC (hbuildSlice _ _ _ _ _) _); refine sl_bslice1 H rfl (by first | exact rfl | (simp only [f0, f1, f2, f3, f4, f5, f6, f7]; done) | (simp only [onA, *]; done)) (by first | exact rfl | (simp only [f0, f1, f2, f3, f4, f5, f6, f7]; done) | (simp only [onA, *]; done)) ?_)
      | with_reducible intro hy

    exact H.ex0
  · have hnil := @eq_nil2 h o bs.length c
    first | have f0 := Sat.pf (H) | have f0 := trivial
    first | have f1 := Sat.pf (H.t) | have f1 := trivial
    first | have f2 := Sat.pf (H.t.t) | have f2 := trivial
    first | have f3 := Sat.pf (H.t.t.t) | have f3 := trivial
    first | have f4 := Sat.pf (H.t.t.t.t) | have f4 := trivial
    first | have f5 := Sat.pf (H.t.t.t.t.t) | have f5 := trivial
    first | have f6 := Sat.pf (H.t.t.t.t.t.t) | have f6 := trivial
    first | have f7 := Sat.pf (H.t.t.t.t.t.t.t) | have f7 := trivial
    repeat' first
      | ((with_reducible show Need _); refine need_of ?_; (first | have f0 := Sat.pf (H) | have f0 := trivial); (first | have f1 := Sat.pf (H.t) | have f1 := trivial); (first | have f2 := Sat.pf (H.t.t) | have f2 := trivial); (first | have f3 := Sat.pf (H.t.t.t) | have f3 := trivial); (first | have f4 := Sat.pf (H.t.t.t.t) | have f4 := trivial); (first | have f5 := Sat.pf (H.t.t.t.t.t) | have f5 := trivial); (first | have f6 := Sat.pf (H.t.t.t.t.t.t) | have f6 := trivial); (first | have f7 := Sat.pf (H.t.t.t.t.t.t.t) | have f7 := trivial))
      | simp -implicitDefEqProofs (disch := first | omega | decide | exact rfl | assumption | exact Nat.le_of_ble_eq_true rfl | exact One.c | exact One.o) only [vsA, vsB, eq_self, if_true, if_false, implies_true, false_implies, evp, HX.ev, Nat.reduceAdd, HOp.looks, Nat.reduceEqDiff, overw, Nat.reduceBEq, h41, hnil, f0, f1, f2, f3, f4, f5, f6, f7, frame0, List.replicate, Nat.sub]
      | (refine condK_cases (fun h => ?_) (fun h => ?_) <;> (try simp only [h]) <;> (try simp only [athA, ne_eq] at h) <;> (try (exfalso; omega)))
      | (refine guardK_cases (fun h => ?_) (fun h => ?_) <;> (try simp only [h]) <;> (try simp only [athA, ne_eq] at h) <;> (try (exfalso; omega)))
      | (clear H f0 f1 f2 f3 f4 f5 f6 f7; (with_reducible intro v2 hs H); (try simp only [setA, overw, Nat.reduceAdd] at H); refine need ?_)
      | refine opC_K ?_
      | ((with_reducible show opC (hbuildSlice _ _ _ _ _) _); refine sl_bslice0X H ?_; clear H f0 f1 f2 f3 f4 f5 f6 f7; intro v hs H; have T := (R _ H.t).take; refine need ?_)
      | ((with_reducible show opC (happend _ _ _ _ _) _); refine sl_append (by with_reducible first | exact H | exact H.p1 | exact H.p2 | exact H.p3 | exact H.p4 | exact H.p5 | exact H.p6 | exact H.p7) (by first | assumption | with_reducible first | exact f0.2.1 | exact f1.2.1 | exact f2.2.1 | exact f3.2.1 | exact f4.2.1 | exact f5.2.1 | exact f6.2.1 | exact f7.2.1 | exact va_takeS) (by first | exact roomFor_of (by omega) | exact roomFor_wide (by omega)) (by omega) ?_)
      | ((with_reducible show opC (happend _ _ _ _ _) _); refine sl_append0X H (by first | assumption | with_reducible first | exact f0.2.1 | exact f1.2.1 | exact f2.2.1 | exact f3.2.1 | exact f4.2.1 | exact f5.2.1 | exact f6.2.1 | exact f7.2.1 | exact va_takeS) (by first | exact roomFor_of (by omega) | exact roomFor_wide (by omega)) (by omega) ?_)
      | ((with_reducible show opC (happend _ _ _ _ _) _); refine sl_appendX (by with_reducible first | exact H | exact H.p1 | exact H.p2 | exact H.p3 | exact H.p4 | exact H.p5 | exact H.p6 | exact H.p7) (by first | assumption | with_reducible first | exact f0.2.1 | exact f1.2.1 | exact f2.2.1 | exact f3.2.1 | exact f4.2.1 | exact f5.2.1 | exact f6.2.1 | exact f7.2.1 | exact va_takeS) (by first | exact roomFor_of (by omega) | exact roomFor_wide (by omega)) (by omega) ?_)
      | ((with_reducible show opC (hbuildSlice _ _ _ _ _) _); refine sl_bslice1 H rfl (by first | exact rfl | (simp only [f0, f1, f2, f3, f4, f5, f6, f7]; done) | (simp only [onA, *]; done)) (by first | exact rfl | (simp only [f0, f1, f2, f3, f4, f5, f6, f7]; done) | (simp only [onA, *]; done)) ?_)
      | with_reducible intro hy

    simpa using H

/-- a body's item. -/
def bodyF (bs : List UInt8) (n : Nat) : Int × List UInt8 := if bs[n]? = some 13 ∧ bs[n + 1]? = some 10 then (3, bs.take n) else (5, [])
theorem body40 {hs : HS} {l : List SA} {b : HV} {bs : List UInt8} {n : Nat} (hn : bs.length = n + 2) (H : Sat hs l) (R : Rdl l b bs.length (bcells bs)) (hb : bs.length < 46116860184) :
    HC Try.prog 40 [b] hs fun v hs' => ∃ w, v = .agg [.int .i64 (bodyF bs n).1, .str [], w] ∧ Sat hs' (Ex 1 w (bodyF bs n).2.length (bcells (bodyF bs n).2) :: l) := by
  have hmax : maxLen = 9223372036854775807 := rfl
  have lb := fun hs => (R _ H).len hs
  have rb := (R _ H).sOk
  have es : hbin .sub none (.int .i64 (bs.length : Nat)) (.int .i64 2) = some (.int .i64 (n : Nat)) := by rw [va_m2 (by omega)]; congr 3; omega
  obtain ⟨q, hq1, hq2⟩ := (R _ H).idx1 (bc_get (show n < bs.length by omega)) .i64
  obtain ⟨q', hq1', hq2'⟩ := (R _ H).idx1 (bc_get (show n + 1 < bs.length by omega)) .i64
  obtain ⟨w, hw, _⟩ := rd_cut (R _ H) rfl (lo := 0) (hi := n) Lo.none (Hi.some (k := .i64)) (by omega) (by omega)
  have Rw : Rdl l w (bs.take n).length (bcells (bs.take n)) := by
    intro hs2 H2
    obtain ⟨w2, hw2, r2⟩ := rd_cut (R _ H2) rfl (lo := 0) (hi := n) Lo.none (Hi.some (k := .i64)) (by omega) (by omega)
    rw [hw] at hw2; cases hw2
    rw [List.length_take, Nat.min_eq_left (by omega)]
    simpa using r2
  refine HC.wp mixed Try.func40 c40 ?_
  first | have f0 := Sat.pf (H) | have f0 := trivial
  first | have f1 := Sat.pf (H.t) | have f1 := trivial
  first | have f2 := Sat.pf (H.t.t) | have f2 := trivial
  first | have f3 := Sat.pf (H.t.t.t) | have f3 := trivial
  first | have f4 := Sat.pf (H.t.t.t.t) | have f4 := trivial
  first | have f5 := Sat.pf (H.t.t.t.t.t) | have f5 := trivial
  first | have f6 := Sat.pf (H.t.t.t.t.t.t) | have f6 := trivial
  first | have f7 := Sat.pf (H.t.t.t.t.t.t.t) | have f7 := trivial
  repeat' first
    | ((with_reducible show Need _); refine need_of ?_; (first | have f0 := Sat.pf (H) | have f0 := trivial); (first | have f1 := Sat.pf (H.t) | have f1 := trivial); (first | have f2 := Sat.pf (H.t.t) | have f2 := trivial); (first | have f3 := Sat.pf (H.t.t.t) | have f3 := trivial); (first | have f4 := Sat.pf (H.t.t.t.t) | have f4 := trivial); (first | have f5 := Sat.pf (H.t.t.t.t.t) | have f5 := trivial); (first | have f6 := Sat.pf (H.t.t.t.t.t.t) | have f6 := trivial); (first | have f7 := Sat.pf (H.t.t.t.t.t.t.t) | have f7 := trivial); (first | have rb := (R _ H.t).sOk | skip); (first | have hq2 := (R _ H.t).ld1 hq1 (bc_get (show n < bs.length by omega)) | skip); (first | have hq2' := (R _ H.t).ld1 hq1' (bc_get (show n + 1 < bs.length by omega)) | skip))
    | simp -implicitDefEqProofs (disch := first | omega | decide | exact rfl | assumption | exact Nat.le_of_ble_eq_true rfl | exact One.c | exact One.o) only [vsA, vsB, eq_self, if_true, if_false, implies_true, false_implies, evp, HX.ev, Nat.reduceAdd, HOp.looks, Nat.reduceEqDiff, overw, Nat.reduceBEq, h40, lb, rb, hw, es, hq1, hq1', hq2, hq2', u8e10, u8e13, vadd1, ub40, f0, f1, f2, f3, f4, f5, f6, f7, frame0, List.replicate, Nat.sub]
    | (refine condK_cases (fun h => ?_) (fun h => ?_) <;> (try simp only [h]) <;> (try simp only [athA, ne_eq] at h) <;> (try (exfalso; omega)))
    | (refine guardK_cases (fun h => ?_) (fun h => ?_) <;> (try simp only [h]) <;> (try simp only [athA, ne_eq] at h) <;> (try (exfalso; omega)))
    | (clear H f0 f1 f2 f3 f4 f5 f6 f7; (with_reducible intro v2 hs H); (try simp only [setA, overw, Nat.reduceAdd] at H); refine need ?_)
    | ((with_reducible show actK _ (HAct.call (HX.cst (HV.func (Fn.func 41) _ _)) _) _ _ _ _ _); refine vcall_of ok41 rfl (clone41 (l := _) H (fun _ h => Rw _ h.t) (by simp; omega)) ?_;  clear H f0 f1 f2 f3 f4 f5 f6 f7; rintro w hs H; refine need ?_; have o1 := H.rdX.one; have o2 := H.rdX.cells)
    | refine opC_K ?_
    | ((with_reducible show opC (unit (hstore _ _ _ _)) _); refine sl_store1 (by with_reducible first | exact H | exact H.p1 | exact H.p2 | exact H.p3 | exact H.p4 | exact H.p5 | exact H.p6 | exact H.p7) (Nat.le_of_ble_eq_true rfl) (by first | exact rfl | (simp only [f0, f1, f2, f3, f4, f5, f6, f7]; done) | (simp only [onA, *]; done)) (by first | exact rfl | (simp only [f0, f1, f2, f3, f4, f5, f6, f7]; done) | (simp only [onA, *]; done)) ?_)
    | ((with_reducible show opC (unit (hstore _ _ _ _)) _); refine sl_storeN (by with_reducible first | exact H | exact H.p1 | exact H.p2 | exact H.p3 | exact H.p4 | exact H.p5 | exact H.p6 | exact H.p7) rfl (Nat.le_of_ble_eq_true rfl) (by first | exact rfl | (simp only [f0, f1, f2, f3, f4, f5, f6, f7]; done) | (simp only [onA, *]; done)) ?_)
    | ((with_reducible show opC (hbox _ _) _); refine sl_box1 H (by first | exact rfl | (simp only [f0, f1, f2, f3, f4, f5, f6, f7]; done) | (simp only [onA, *]; done)) (by first | exact rfl | (simp only [f0, f1, f2, f3, f4, f5, f6, f7]; done) | (simp only [onA, *]; done)) ?_)
    | ((with_reducible show opC (hbox _ _) _); refine sl_boxA H (by first | exact rfl | (simp only [f0, f1, f2, f3, f4, f5, f6, f7]; done) | (simp only [onA, *]; done)) ?_)
    | with_reducible intro hy

  iterate 2
    · have e : bodyF bs n = (5, []) := if_neg (by rw [List.getElem?_eq_getElem (show n < bs.length by omega), List.getElem?_eq_getElem (show n + 1 < bs.length by omega)]; simp [*])
      rw [e]
      exact ⟨_, rfl, H.t.ex0⟩
  · have e : bodyF bs n = (3, bs.take n) := if_pos (by rw [List.getElem?_eq_getElem (show n < bs.length by omega), List.getElem?_eq_getElem (show n + 1 < bs.length by omega)]; simp [*])
    rw [e]
    exact ⟨_, rfl, H.t⟩

/-- the place of a line's end. -/
def lineAt : List UInt8 → Option Nat
  | [] => none
  | c :: r => if c = 13 ∧ r.head? = some 10 then some 0 else (lineAt r).map (· + 1)
theorem lineAt_index : ∀ b : List UInt8, Lib.index b [13, 10] = match lineAt b with | some k => (k : Int) | none => -1
  | [] => rfl
  | c :: r => by
    have ih := lineAt_index r
    have hp : [13, 10].isPrefixOf (c :: r) = decide (c = 13 ∧ r.head? = some 10) := by
      cases r with
      | nil => simp [List.isPrefixOf]
      | cons d r =>
        have e : [13, 10].isPrefixOf (c :: d :: r) = ((13 == c) && ((10 == d) && true)) := by simp only [List.isPrefixOf]
        rw [e, Bool.eq_iff_iff]
        simp only [Bool.and_true, Bool.and_eq_true, beq_iff_eq, decide_eq_true_eq, List.head?_cons, Option.some.injEq]
        exact ⟨fun h => ⟨h.1.symm, h.2.symm⟩, fun h => ⟨h.1.symm, h.2.symm⟩⟩
    unfold Lib.index lineAt
    rw [hp]
    by_cases h : c = 13 ∧ r.head? = some 10
    · simp [h]
    · simp only [h, decide_false, Bool.false_eq_true, if_false]
      rw [ih]
      cases lineAt r with
      | none => simp
      | some k =>
        simp only [Option.map_some]
        rw [if_neg (by rw [beq_iff_eq]; omega)]
        show (k : Int) + 1 = ((k + 1 : Nat) : Int)
        omega
theorem lineAt_le : ∀ {b : List UInt8} {k : Nat}, lineAt b = some k → k + 2 ≤ b.length
  | [], k, h => by simp [lineAt] at h
  | c :: r, k, h => by
    unfold lineAt at h
    split at h
    · rename_i hc
      cases h
      cases r with
      | nil => simp at hc
      | cons d r => simp
    · cases hr : lineAt r with
      | none => rw [hr] at h; simp at h
      | some j =>
        rw [hr] at h
        simp only [Option.map_some, Option.some.injEq] at h
        have := lineAt_le hr
        simp only [List.length_cons]; omega
theorem rd_b2sK {hs : HS} {v : HV} {n : Nat} {b : List UInt8} (R : Rd hs 1 v n (bcells b)) : b2sK hs v = some (.str b, hs) := by
  have h := rd_b2s (fr := []) (x := .cst v) rfl R
  rw [vo_b2s] at h; exact h
theorem index38R {hs : HS} {x y : HV} {n : Nat} {b : List UInt8} (g : hs[0]? = some (some (HB.gint 0))) (A : Rd hs 1 x n (bcells b)) (B : Rd hs 1 y 2 (bcells [13, 10])) (hn : n < 4294967281) :
    HCall Try.prog 38 [x, y] hs fun v hs' => v = .int .i64 (Lib.index b [13, 10]) ∧ hs' = hs := by
  have hu : ∀ (b : List UInt8), ∃ xs, u8s (bcells b) = some xs ∧ Lib.bytesOf xs = b := by
    intro b
    induction b with
    | nil => exact ⟨[], rfl, rfl⟩
    | cons c b ih =>
      obtain ⟨xs, h1, h2⟩ := ih
      have hc := c.toNat_lt
      refine ⟨(c.toNat : Int) :: xs, ?_, ?_⟩
      · show (if 0 ≤ (c.toNat : Int) ∧ (c.toNat : Int) < 256 then (u8s (bcells b)).map ((c.toNat : Int) :: ·) else none) = _
        rw [if_pos (by omega), h1]; rfl
      · rw [← h2]; simp [Lib.bytesOf]
  obtain ⟨xs, x1, x2⟩ := hu b
  obtain ⟨ys, y1, y2⟩ := hu [13, 10]
  refine index38 ?_
  have tA := A.take
  have tB := B.take
  rcases nil_or B with ⟨_, h0⟩ | ⟨h', o', c', rfl⟩
  · omega
  rcases nil_or A with ⟨rfl, h0⟩ | ⟨h, o, c, rfl⟩
  · simp only [xIndex, g]
    have hb : b = [] := by
      have := A.1; rw [bcells_length, h0] at this; exact List.eq_nil_of_length_eq_zero (by omega)
    subst hb
    rfl
  · simp only [xIndex, g, hu8s, tA, tB, x1, y1, x2, y2]
    rw [if_pos trivial, if_pos ⟨by omega, by omega⟩]
end Go.Proofs.Ytccfcegmaejlnaa
namespace Go.Proofs.Ytccfcegmaejlnaa
open Go Go.HL
set_option maxRecDepth 100000
set_option maxHeartbeats 40000000
set_option linter.unusedSimpArgs false
attribute [local irreducible] pt My Ex Vw Gr GrK each grp exs Sat takeCells happend hbuildSlice hstore hbox hslice hmakeSlice hs2b hcopy HL.unit opC
def InP (p : Nat) (s : St) : SA := exs fun v => grp [pt p (.cells 1 (s.cells v) false false []), My 1 v s.held.length (bcells s.held)]
theorem in_open {hs : HS} {l : List SA} {p : Nat} {s : St} : Sat hs (InP p s :: l) ↔ ∃ v, Sat hs (pt p (.cells 1 (s.cells v) false false []) :: My 1 v s.held.length (bcells s.held) :: l) := by
  unfold InP
  rw [Sat.exs_iff]
  exact exists_congr fun v => Sat.grp_iff
theorem held14 {hs : HS} {l : List SA} {p : Nat} {s : St} (H : Sat hs (InP p s :: l)) : HC Try.prog 14 [.ptr p 0] hs fun v hs' => v = .int .i64 (s.held.length : Nat) ∧ hs' = hs := by
  obtain ⟨v, H⟩ := in_open.1 H
  simp only [St.cells] at H
  refine HC.wp mixed Try.func14 c14 ?_
  first | have f0 := Sat.pf (H) | have f0 := trivial
  first | have f1 := Sat.pf (H.t) | have f1 := trivial
  first | have f2 := Sat.pf (H.t.t) | have f2 := trivial
  first | have f3 := Sat.pf (H.t.t.t) | have f3 := trivial
  first | have f4 := Sat.pf (H.t.t.t.t) | have f4 := trivial
  first | have f5 := Sat.pf (H.t.t.t.t.t) | have f5 := trivial
  first | have f6 := Sat.pf (H.t.t.t.t.t.t) | have f6 := trivial
  first | have f7 := Sat.pf (H.t.t.t.t.t.t.t) | have f7 := trivial
  repeat' first
    | ((with_reducible show Need _); refine need_of ?_; (first | have f0 := Sat.pf (H) | have f0 := trivial); (first | have f1 := Sat.pf (H.t) | have f1 := trivial); (first | have f2 := Sat.pf (H.t.t) | have f2 := trivial); (first | have f3 := Sat.pf (H.t.t.t) | have f3 := trivial); (first | have f4 := Sat.pf (H.t.t.t.t) | have f4 := trivial); (first | have f5 := Sat.pf (H.t.t.t.t.t) | have f5 := trivial); (first | have f6 := Sat.pf (H.t.t.t.t.t.t) | have f6 := trivial); (first | have f7 := Sat.pf (H.t.t.t.t.t.t.t) | have f7 := trivial))
    | simp -implicitDefEqProofs (disch := first | omega | decide | exact rfl | assumption | exact Nat.le_of_ble_eq_true rfl | exact One.c | exact One.o) only [vsA, vsB, eq_self, if_true, if_false, implies_true, false_implies, evp, HX.ev, Nat.reduceAdd, HOp.looks, Nat.reduceEqDiff, overw, Nat.reduceBEq, h14, f0, f1, f2, f3, f4, f5, f6, f7, frame0, List.replicate, Nat.sub]
    | (refine condK_cases (fun h => ?_) (fun h => ?_) <;> (try simp only [h]) <;> (try simp only [athA, ne_eq] at h) <;> (try (exfalso; omega)))
    | (refine guardK_cases (fun h => ?_) (fun h => ?_) <;> (try simp only [h]) <;> (try simp only [athA, ne_eq] at h) <;> (try (exfalso; omega)))
    | (clear H f0 f1 f2 f3 f4 f5 f6 f7; (with_reducible intro v2 hs H); (try simp only [setA, overw, Nat.reduceAdd] at H); refine need ?_)
    | refine opC_K ?_
    | with_reducible intro hy

theorem feedP {hs : HS} {l : List SA} {p : Nat} {s : St} {b : HV} {bs : List UInt8} (H : Sat hs (InP p s :: l)) (R : Rdl l b bs.length (bcells bs)) (hb : s.held.length + bs.length < 46116860184) (hl : s.left < 4611686018427387904) :
    HC Try.prog 18 [.ptr p 0, b] hs fun _ hs' => Sat hs' (InP p (feedF s bs) :: l) := by
  obtain ⟨v, H⟩ := in_open.1 H
  exact (feed18 H (fun _ _ h => h) (fun _ h => R _ h.t) hb hl).mono fun _ _ ⟨v', h⟩ => in_open.2 ⟨v', h⟩
def newS (m : Nat) : St := ⟨m, 0, [], 0, 0, false, false⟩
theorem new17 {hs : HS} {l : List SA} (H : Sat hs l) (m : Int) :
    HC Try.prog 17 [.int .i64 m] hs fun v hs' => if m < 1 ∨ 65535 < m then v = .tup [.nilPtr, .int .i64 60] ∧ Sat hs' l else ∃ p, v = .tup [.ptr p 0, .int .i64 0] ∧ Sat hs' (InP p (newS m.toNat) :: l) := by
  refine HC.wp mixed Try.func17 c17 ?_
  first | have f0 := Sat.pf (H) | have f0 := trivial
  first | have f1 := Sat.pf (H.t) | have f1 := trivial
  first | have f2 := Sat.pf (H.t.t) | have f2 := trivial
  first | have f3 := Sat.pf (H.t.t.t) | have f3 := trivial
  first | have f4 := Sat.pf (H.t.t.t.t) | have f4 := trivial
  first | have f5 := Sat.pf (H.t.t.t.t.t) | have f5 := trivial
  first | have f6 := Sat.pf (H.t.t.t.t.t.t) | have f6 := trivial
  first | have f7 := Sat.pf (H.t.t.t.t.t.t.t) | have f7 := trivial
  repeat' first
    | ((with_reducible show Need _); refine need_of ?_; (first | have f0 := Sat.pf (H) | have f0 := trivial); (first | have f1 := Sat.pf (H.t) | have f1 := trivial); (first | have f2 := Sat.pf (H.t.t) | have f2 := trivial); (first | have f3 := Sat.pf (H.t.t.t) | have f3 := trivial); (first | have f4 := Sat.pf (H.t.t.t.t) | have f4 := trivial); (first | have f5 := Sat.pf (H.t.t.t.t.t) | have f5 := trivial); (first | have f6 := Sat.pf (H.t.t.t.t.t.t) | have f6 := trivial); (first | have f7 := Sat.pf (H.t.t.t.t.t.t.t) | have f7 := trivial))
    | simp -implicitDefEqProofs (disch := first | omega | decide | exact rfl | assumption | exact Nat.le_of_ble_eq_true rfl | exact One.c | exact One.o) only [vsA, vsB, eq_self, if_true, if_false, implies_true, false_implies, evp, HX.ev, Nat.reduceAdd, HOp.looks, Nat.reduceEqDiff, overw, Nat.reduceBEq, h17, ub17, f0, f1, f2, f3, f4, f5, f6, f7, frame0, List.replicate, Nat.sub]
    | (refine condK_cases (fun h => ?_) (fun h => ?_) <;> (try simp only [h]) <;> (try simp only [athA, ne_eq] at h) <;> (try (exfalso; omega)))
    | (refine guardK_cases (fun h => ?_) (fun h => ?_) <;> (try simp only [h]) <;> (try simp only [athA, ne_eq] at h) <;> (try (exfalso; omega)))
    | (clear H f0 f1 f2 f3 f4 f5 f6 f7; (with_reducible intro v2 hs H); (try simp only [setA, overw, Nat.reduceAdd] at H); refine need ?_)
    | refine opC_K ?_
    | ((with_reducible show opC (hbox _ _) _); refine sl_box1 H (by first | exact rfl | (simp only [f0, f1, f2, f3, f4, f5, f6, f7]; done) | (simp only [onA, *]; done)) (by first | exact rfl | (simp only [f0, f1, f2, f3, f4, f5, f6, f7]; done) | (simp only [onA, *]; done)) ?_)
    | ((with_reducible show opC (hbox _ _) _); refine sl_boxA H (by first | exact rfl | (simp only [f0, f1, f2, f3, f4, f5, f6, f7]; done) | (simp only [onA, *]; done)) ?_)
    | with_reducible intro hy

  iterate 2
    · rw [if_pos (by omega)]; exact H
  rw [if_neg (by omega)]
  obtain ⟨k, rfl⟩ := Int.eq_ofNat_of_zero_le (show 0 ≤ m by omega)
  exact ⟨_, rfl, in_open.2 ⟨.nilSlice, H.own0.p1⟩⟩
def bodyS (s : St) (n : Int) : St × Int :=
  if n < 0 ∨ 4294967295 < n ∨ s.st ≠ 0 then (s, 61)
  else if n ≤ (s.most : Nat) then ({ s with st := 2, size := n.toNat }, 0)
  else ({ s with st := 3, left := n.toNat + 2 - min (n.toNat + 2) s.held.length, held := s.held.drop (min (n.toNat + 2) s.held.length) }, 0)
theorem body27 {hs : HS} {l : List SA} {p : Nat} {s : St} (H : Sat hs (InP p s :: l)) (n : Int) (hb : s.held.length < 46116860184) :
    HC Try.prog 27 [.ptr p 0, .int .i64 n] hs fun v hs' => v = .int .i64 (bodyS s n).2 ∧ Sat hs' (InP p (bodyS s n).1 :: l) := by
  obtain ⟨v, H⟩ := in_open.1 H
  obtain ⟨most, st, held, size, left, half, ended⟩ := s
  simp only [St.cells] at H hb
  refine HC.wp mixed Try.func27 c27 ?_
  first | have f0 := Sat.pf (H) | have f0 := trivial
  first | have f1 := Sat.pf (H.t) | have f1 := trivial
  first | have f2 := Sat.pf (H.t.t) | have f2 := trivial
  first | have f3 := Sat.pf (H.t.t.t) | have f3 := trivial
  first | have f4 := Sat.pf (H.t.t.t.t) | have f4 := trivial
  first | have f5 := Sat.pf (H.t.t.t.t.t) | have f5 := trivial
  first | have f6 := Sat.pf (H.t.t.t.t.t.t) | have f6 := trivial
  first | have f7 := Sat.pf (H.t.t.t.t.t.t.t) | have f7 := trivial
  by_cases hn : 0 ≤ n ∧ n ≤ 4294967295
  · obtain ⟨k, rfl⟩ := Int.eq_ofNat_of_zero_le hn.1
    repeat' first
      | ((with_reducible show Need _); refine need_of ?_; (first | have f0 := Sat.pf (H) | have f0 := trivial); (first | have f1 := Sat.pf (H.t) | have f1 := trivial); (first | have f2 := Sat.pf (H.t.t) | have f2 := trivial); (first | have f3 := Sat.pf (H.t.t.t) | have f3 := trivial); (first | have f4 := Sat.pf (H.t.t.t.t) | have f4 := trivial); (first | have f5 := Sat.pf (H.t.t.t.t.t) | have f5 := trivial); (first | have f6 := Sat.pf (H.t.t.t.t.t.t) | have f6 := trivial); (first | have f7 := Sat.pf (H.t.t.t.t.t.t.t) | have f7 := trivial))
      | simp -implicitDefEqProofs (disch := first | omega | decide | exact rfl | assumption | exact Nat.le_of_ble_eq_true rfl | exact One.c | exact One.o) only [vsA, vsB, eq_self, if_true, if_false, implies_true, false_implies, evp, HX.ev, Nat.reduceAdd, HOp.looks, Nat.reduceEqDiff, overw, Nat.reduceBEq, h27, ub27, f0, f1, f2, f3, f4, f5, f6, f7, frame0, List.replicate, Nat.sub]
      | (refine condK_cases (fun h => ?_) (fun h => ?_) <;> (try simp only [h]) <;> (try simp only [athA, ne_eq] at h) <;> (try (exfalso; omega)))
      | (refine guardK_cases (fun h => ?_) (fun h => ?_) <;> (try simp only [h]) <;> (try simp only [athA, ne_eq] at h) <;> (try (exfalso; omega)))
      | (clear H f0 f1 f2 f3 f4 f5 f6 f7; (with_reducible intro v2 hs H); (try simp only [setA, overw, Nat.reduceAdd] at H); refine need ?_)
      | ((with_reducible show actK _ (HAct.call (HX.cst (HV.func (Fn.func 37) _ _)) _) _ _ _ _ _); refine vcall_of ok37 rfl (skip37 H (fun _ h => h.rd) (by omega) (by omega)) ?_;  clear H f0 f1 f2 f3 f4 f5 f6 f7; rintro w hs ⟨H, Rw, hw⟩; have H := (H.p1.cut (Lo.some (k := .i64)) Hi.none (by omega) (by omega) hw).p1; refine need ?_)
      | refine opC_K ?_
      | ((with_reducible show opC (unit (hstore _ _ _ _)) _); refine sl_store1 (by with_reducible first | exact H | exact H.p1 | exact H.p2 | exact H.p3 | exact H.p4 | exact H.p5 | exact H.p6 | exact H.p7) (Nat.le_of_ble_eq_true rfl) (by first | exact rfl | (simp only [f0, f1, f2, f3, f4, f5, f6, f7]; done) | (simp only [onA, *]; done)) (by first | exact rfl | (simp only [f0, f1, f2, f3, f4, f5, f6, f7]; done) | (simp only [onA, *]; done)) ?_)
      | ((with_reducible show opC (unit (hstore _ _ _ _)) _); refine sl_storeN (by with_reducible first | exact H | exact H.p1 | exact H.p2 | exact H.p3 | exact H.p4 | exact H.p5 | exact H.p6 | exact H.p7) rfl (Nat.le_of_ble_eq_true rfl) (by first | exact rfl | (simp only [f0, f1, f2, f3, f4, f5, f6, f7]; done) | (simp only [onA, *]; done)) ?_)
      | with_reducible intro hy

    · have e : bodyS ⟨most, st, held, size, left, half, ended⟩ (k : Nat) = (⟨most, st, held, size, left, half, ended⟩, 61) := if_pos (.inr (.inr (by simp only; omega)))
      rw [e]
      exact ⟨rfl, in_open.2 ⟨_, H⟩⟩
    · have e : bodyS ⟨most, st, held, size, left, half, ended⟩ (k : Nat) = (⟨most, 2, held, k, left, half, ended⟩, 0) := (if_neg (by simp only; omega)).trans (if_pos (by simp only; omega))
      rw [e]
      exact ⟨rfl, in_open.2 ⟨_, H⟩⟩
    · have e : bodyS ⟨most, st, held, size, left, half, ended⟩ (k : Nat) = (⟨most, 3, held.drop (min (k + 2) held.length), size, k + 2 - min (k + 2) held.length, half, ended⟩, 0) := (if_neg (by simp only; omega)).trans (if_neg (by simp only; omega))
      rw [e]
      refine ⟨rfl, in_open.2 ⟨w, ?_⟩⟩
      rw [Nat.mul_one, Nat.mul_one, bc_drop, bc_take, List.take_of_length_le (by simp)] at H
      simp only [List.length_drop]
      exact H
  · skip
    repeat' first
      | ((with_reducible show Need _); refine need_of ?_; (first | have f0 := Sat.pf (H) | have f0 := trivial); (first | have f1 := Sat.pf (H.t) | have f1 := trivial); (first | have f2 := Sat.pf (H.t.t) | have f2 := trivial); (first | have f3 := Sat.pf (H.t.t.t) | have f3 := trivial); (first | have f4 := Sat.pf (H.t.t.t.t) | have f4 := trivial); (first | have f5 := Sat.pf (H.t.t.t.t.t) | have f5 := trivial); (first | have f6 := Sat.pf (H.t.t.t.t.t.t) | have f6 := trivial); (first | have f7 := Sat.pf (H.t.t.t.t.t.t.t) | have f7 := trivial))
      | simp -implicitDefEqProofs (disch := first | omega | decide | exact rfl | assumption | exact Nat.le_of_ble_eq_true rfl | exact One.c | exact One.o) only [vsA, vsB, eq_self, if_true, if_false, implies_true, false_implies, evp, HX.ev, Nat.reduceAdd, HOp.looks, Nat.reduceEqDiff, overw, Nat.reduceBEq, h27, ub27, f0, f1, f2, f3, f4, f5, f6, f7, frame0, List.replicate, Nat.sub]
      | (refine condK_cases (fun h => ?_) (fun h => ?_) <;> (try simp only [h]) <;> (try simp only [athA, ne_eq] at h) <;> (try (exfalso; omega)))
      | (refine guardK_cases (fun h => ?_) (fun h => ?_) <;> (try simp only [h]) <;> (try simp only [athA, ne_eq] at h) <;> (try (exfalso; omega)))
      | (clear H f0 f1 f2 f3 f4 f5 f6 f7; (with_reducible intro v2 hs H); (try simp only [setA, overw, Nat.reduceAdd] at H); refine need ?_)
      | refine opC_K ?_
      | ((with_reducible show opC (unit (hstore _ _ _ _)) _); refine sl_store1 (by with_reducible first | exact H | exact H.p1 | exact H.p2 | exact H.p3 | exact H.p4 | exact H.p5 | exact H.p6 | exact H.p7) (Nat.le_of_ble_eq_true rfl) (by first | exact rfl | (simp only [f0, f1, f2, f3, f4, f5, f6, f7]; done) | (simp only [onA, *]; done)) (by first | exact rfl | (simp only [f0, f1, f2, f3, f4, f5, f6, f7]; done) | (simp only [onA, *]; done)) ?_)
      | ((with_reducible show opC (unit (hstore _ _ _ _)) _); refine sl_storeN (by with_reducible first | exact H | exact H.p1 | exact H.p2 | exact H.p3 | exact H.p4 | exact H.p5 | exact H.p6 | exact H.p7) rfl (Nat.le_of_ble_eq_true rfl) (by first | exact rfl | (simp only [f0, f1, f2, f3, f4, f5, f6, f7]; done) | (simp only [onA, *]; done)) ?_)
      | with_reducible intro hy

    all_goals
      have e : bodyS ⟨most, st, held, size, left, half, ended⟩ n = (⟨most, st, held, size, left, half, ended⟩, 61) := if_pos (by omega)
      rw [e]
      exact ⟨rfl, in_open.2 ⟨_, H⟩⟩
theorem clone28 {hs : HS} {l : List SA} {p : Nat} {s : St} (H : Sat hs (InP p s :: l)) (hb : s.held.length < 46116860184) :
    HC Try.prog 28 [.ptr p 0] hs fun v hs' => ∃ q, v = .ptr q 0 ∧ Sat hs' (InP q s :: InP p s :: l) := by
  obtain ⟨v, H⟩ := in_open.1 H
  obtain ⟨most, st, held, size, left, half, ended⟩ := s
  simp only [St.cells] at H hb
  refine HC.wp mixed Try.func28 c28 ?_
  first | have f0 := Sat.pf (H) | have f0 := trivial
  first | have f1 := Sat.pf (H.t) | have f1 := trivial
  first | have f2 := Sat.pf (H.t.t) | have f2 := trivial
  first | have f3 := Sat.pf (H.t.t.t) | have f3 := trivial
  first | have f4 := Sat.pf (H.t.t.t.t) | have f4 := trivial
  first | have f5 := Sat.pf (H.t.t.t.t.t) | have f5 := trivial
  first | have f6 := Sat.pf (H.t.t.t.t.t.t) | have f6 := trivial
  first | have f7 := Sat.pf (H.t.t.t.t.t.t.t) | have f7 := trivial
  repeat' first
    | ((with_reducible show Need _); refine need_of ?_; (first | have f0 := Sat.pf (H) | have f0 := trivial); (first | have f1 := Sat.pf (H.t) | have f1 := trivial); (first | have f2 := Sat.pf (H.t.t) | have f2 := trivial); (first | have f3 := Sat.pf (H.t.t.t) | have f3 := trivial); (first | have f4 := Sat.pf (H.t.t.t.t) | have f4 := trivial); (first | have f5 := Sat.pf (H.t.t.t.t.t) | have f5 := trivial); (first | have f6 := Sat.pf (H.t.t.t.t.t.t) | have f6 := trivial); (first | have f7 := Sat.pf (H.t.t.t.t.t.t.t) | have f7 := trivial))
    | simp -implicitDefEqProofs (disch := first | omega | decide | exact rfl | assumption | exact Nat.le_of_ble_eq_true rfl | exact One.c | exact One.o) only [vsA, vsB, eq_self, if_true, if_false, implies_true, false_implies, evp, HX.ev, Nat.reduceAdd, HOp.looks, Nat.reduceEqDiff, overw, Nat.reduceBEq, h28, ub28, f0, f1, f2, f3, f4, f5, f6, f7, frame0, List.replicate, Nat.sub]
    | (refine condK_cases (fun h => ?_) (fun h => ?_) <;> (try simp only [h]) <;> (try simp only [athA, ne_eq] at h) <;> (try (exfalso; omega)))
    | (refine guardK_cases (fun h => ?_) (fun h => ?_) <;> (try simp only [h]) <;> (try simp only [athA, ne_eq] at h) <;> (try (exfalso; omega)))
    | (clear H f0 f1 f2 f3 f4 f5 f6 f7; (with_reducible intro v2 hs H); (try simp only [setA, overw, Nat.reduceAdd] at H); refine need ?_)
    | ((with_reducible show actK _ (HAct.call (HX.cst (HV.func (Fn.func 41) _ _)) _) _ _ _ _ _); refine vcall_of ok41 rfl (clone41 H (fun _ h => h.t.t.rd) (by omega)) ?_;  clear H f0 f1 f2 f3 f4 f5 f6 f7; rintro w hs H; refine need ?_)
    | refine opC_K ?_
    | ((with_reducible show opC (unit (hstore _ _ _ _)) _); refine sl_store1 (by with_reducible first | exact H | exact H.p1 | exact H.p2 | exact H.p3 | exact H.p4 | exact H.p5 | exact H.p6 | exact H.p7) (Nat.le_of_ble_eq_true rfl) (by first | exact rfl | (simp only [f0, f1, f2, f3, f4, f5, f6, f7]; done) | (simp only [onA, *]; done)) (by first | exact rfl | (simp only [f0, f1, f2, f3, f4, f5, f6, f7]; done) | (simp only [onA, *]; done)) ?_)
    | ((with_reducible show opC (unit (hstore _ _ _ _)) _); refine sl_storeN (by with_reducible first | exact H | exact H.p1 | exact H.p2 | exact H.p3 | exact H.p4 | exact H.p5 | exact H.p6 | exact H.p7) rfl (Nat.le_of_ble_eq_true rfl) (by first | exact rfl | (simp only [f0, f1, f2, f3, f4, f5, f6, f7]; done) | (simp only [onA, *]; done)) ?_)
    | ((with_reducible show opC (hbox _ _) _); refine sl_box1 H (by first | exact rfl | (simp only [f0, f1, f2, f3, f4, f5, f6, f7]; done) | (simp only [onA, *]; done)) (by first | exact rfl | (simp only [f0, f1, f2, f3, f4, f5, f6, f7]; done) | (simp only [onA, *]; done)) ?_)
    | ((with_reducible show opC (hbox _ _) _); refine sl_boxA H (by first | exact rfl | (simp only [f0, f1, f2, f3, f4, f5, f6, f7]; done) | (simp only [onA, *]; done)) ?_)
    | with_reducible intro hy

  have H := Sat.my H.p3.p3.p2.p3
  exact ⟨_, rfl, in_open.2 ⟨_, (in_open.2 ⟨_, H.p1.p3.p3⟩).p2.p2⟩⟩

/-- what Next tells: kind, text, body. -/
structure It where
  kind : Int
  text : List UInt8
  body : List UInt8
def nextS (s : St) : Option It × St :=
  if s.st = 0 then
    match lineAt (s.held.take (min 224 s.held.length)) with
    | some k => (some ⟨1, s.held.take k, []⟩, { s with st := 0, held := s.held.drop (k + 2) })
    | none => if s.held.length < 224 then (none, s) else
      if (skipL false s.held).2.1 = true then (some ⟨2, [], []⟩, { s with st := 0, half := (skipL false s.held).1, ended := true, held := (skipL false s.held).2.2 })
      else (none, { s with st := 1, half := (skipL false s.held).1, ended := false, held := (skipL false s.held).2.2 })
  else if s.st = 1 then (if s.ended = true then (some ⟨2, [], []⟩, { s with st := 0 }) else (none, s))
  else if s.st = 2 then (if s.held.length < s.size + 2 then (none, s) else (some ⟨(bodyF (s.held.take (s.size + 2)) s.size).1, [], (bodyF (s.held.take (s.size + 2)) s.size).2⟩, { s with st := 0, held := s.held.drop (s.size + 2) }))
  else (if 0 < s.left then (none, s) else (some ⟨4, [], []⟩, { s with st := 0 }))
/-- the answer in memory. -/
def itV (o : Option It) (w : HV) : HV := match o with
  | none => .tup [.agg [.int .i64 0, .str [], .nilSlice], .bool false]
  | some i => .tup [.agg [.int .i64 i.kind, .str i.text, w], .bool true]
def itB (o : Option It) : List UInt8 := match o with
  | none => []
  | some i => i.body
theorem next26 {hs : HS} {l : List SA} {p : Nat} {s : St} (H : Sat hs (InP p s :: l)) (G : ∀ hs, Sat hs l → hs[0]? = some (some (HB.gint 0))) (hb : s.held.length < 4294967281) (hst : s.st ≤ 3) (hsz : s.size ≤ 4294967295) (hlf : s.left ≤ 4294967297) :
    HC Try.prog 26 [.ptr p 0] hs fun v hs' => ∃ w, v = itV (nextS s).1 w ∧ Sat hs' (InP p (nextS s).2 :: Ex 1 w (itB (nextS s).1).length (bcells (itB (nextS s).1)) :: l) := by
  obtain ⟨v, H⟩ := in_open.1 H
  obtain ⟨most, st, held, size, left, half, ended⟩ := s
  simp only [St.cells] at H hb hst hsz hlf
  refine HC.wp mixed Try.func26 c26 ?_
  first | have f0 := Sat.pf (H) | have f0 := trivial
  first | have f1 := Sat.pf (H.t) | have f1 := trivial
  first | have f2 := Sat.pf (H.t.t) | have f2 := trivial
  first | have f3 := Sat.pf (H.t.t.t) | have f3 := trivial
  first | have f4 := Sat.pf (H.t.t.t.t) | have f4 := trivial
  first | have f5 := Sat.pf (H.t.t.t.t.t) | have f5 := trivial
  first | have f6 := Sat.pf (H.t.t.t.t.t.t) | have f6 := trivial
  first | have f7 := Sat.pf (H.t.t.t.t.t.t.t) | have f7 := trivial
  have hmax : maxLen = 9223372036854775807 := rfl
  have hst4 : st = 0 ∨ st = 1 ∨ st = 2 ∨ st = 3 := by omega
  repeat' first
    | ((with_reducible show Need _); refine need_of ?_; (first | have f0 := Sat.pf (H) | have f0 := trivial); (first | have f1 := Sat.pf (H.t) | have f1 := trivial); (first | have f2 := Sat.pf (H.t.t) | have f2 := trivial); (first | have f3 := Sat.pf (H.t.t.t) | have f3 := trivial); (first | have f4 := Sat.pf (H.t.t.t.t) | have f4 := trivial); (first | have f5 := Sat.pf (H.t.t.t.t.t) | have f5 := trivial); (first | have f6 := Sat.pf (H.t.t.t.t.t.t) | have f6 := trivial); (first | have f7 := Sat.pf (H.t.t.t.t.t.t.t) | have f7 := trivial))
    | simp -implicitDefEqProofs (disch := first | omega | decide | exact rfl | assumption | exact Nat.le_of_ble_eq_true rfl | exact One.c | exact One.o) only [vsA, vsB, eq_self, if_true, if_false, implies_true, false_implies, evp, HX.ev, Nat.reduceAdd, HOp.looks, Nat.reduceEqDiff, overw, Nat.reduceBEq, h26, ub26, f0, f1, f2, f3, f4, f5, f6, f7, frame0, List.replicate, Nat.sub]
    | (refine condK_cases (fun h => ?_) (fun h => ?_) <;> (try simp only [h]) <;> (try simp only [athA, ne_eq] at h) <;> (try (exfalso; omega)))
    | (refine guardK_cases (fun h => ?_) (fun h => ?_) <;> (try simp only [h]) <;> (try simp only [athA, ne_eq] at h) <;> (try (exfalso; omega)))
    | (refine dgK_cases (fun h => ?_) (fun h => ?_) <;> (try simp only [h]) <;> (try simp only [athA, ne_eq] at h) <;> (try (exfalso; omega)))
    | (clear H f0 f1 f2 f3 f4 f5 f6 f7; (with_reducible intro v2 hs H); (try simp only [setA, overw, Nat.reduceAdd] at H); refine need ?_)
    | refine opC_K ?_
    | refine opC_D ?_
    | ((with_reducible show opC (unit (hstore _ _ _ _)) _); refine sl_store1 (by with_reducible first | exact H | exact H.p1 | exact H.p2 | exact H.p3 | exact H.p4 | exact H.p5 | exact H.p6 | exact H.p7) (Nat.le_of_ble_eq_true rfl) (by first | exact rfl | (simp only [f0, f1, f2, f3, f4, f5, f6, f7]; done) | (simp only [onA, *]; done)) (by first | exact rfl | (simp only [f0, f1, f2, f3, f4, f5, f6, f7]; done) | (simp only [onA, *]; done)) ?_)
    | ((with_reducible show opC (unit (hstore _ _ _ _)) _); refine sl_storeN (by with_reducible first | exact H | exact H.p1 | exact H.p2 | exact H.p3 | exact H.p4 | exact H.p5 | exact H.p6 | exact H.p7) rfl (Nat.le_of_ble_eq_true rfl) (by first | exact rfl | (simp only [f0, f1, f2, f3, f4, f5, f6, f7]; done) | (simp only [onA, *]; done)) ?_)
    | ((with_reducible show opC (hbuildSlice _ _ _ _ _) _); refine sl_bslice1 H rfl (by first | exact rfl | (simp only [f0, f1, f2, f3, f4, f5, f6, f7]; done) | (simp only [onA, *]; done)) (by first | exact rfl | (simp only [f0, f1, f2, f3, f4, f5, f6, f7]; done) | (simp only [onA, *]; done)) ?_)
    | ((with_reducible show opC (hbox _ _) _); refine sl_box1 H (by first | exact rfl | (simp only [f0, f1, f2, f3, f4, f5, f6, f7]; done) | (simp only [onA, *]; done)) (by first | exact rfl | (simp only [f0, f1, f2, f3, f4, f5, f6, f7]; done) | (simp only [onA, *]; done)) ?_)
    | ((with_reducible show opC (hbox _ _) _); refine sl_boxA H (by first | exact rfl | (simp only [f0, f1, f2, f3, f4, f5, f6, f7]; done) | (simp only [onA, *]; done)) ?_)
    | refine hwp_draw mixed rfl ?_
    | with_reducible intro hy

  refine HW.rounds mixed 2 ?_
  rcases hst4 with rfl | rfl | rfl | rfl
  · -- a line
    have Rx : ∃ x, hslice v none (some (.int .i64 ((min 224 held.length : Nat) : Int))) none = some x ∧ ∀ hs l, Sat hs (My 1 v held.length (bcells held) :: l) → Rd hs 1 x (min 224 held.length) (bcells (held.take (min 224 held.length))) := by
      obtain ⟨x, hx, _⟩ := rd_cut (H.t.t.t.rd) rfl (lo := 0) (hi := min 224 held.length) Lo.none (Hi.some (k := .i64)) (by omega) (by omega)
      refine ⟨x, hx, fun hs l H => ?_⟩
      obtain ⟨x2, hx2, r2⟩ := rd_cut H.rd rfl (lo := 0) (hi := min 224 held.length) Lo.none (Hi.some (k := .i64)) (by omega) (by omega)
      rw [hx] at hx2; cases hx2; simpa using r2
    obtain ⟨x, hx, Rx⟩ := Rx
    have hix := lineAt_index (held.take (min 224 held.length))
    cases hln : lineAt (held.take (min 224 held.length)) with
    | some k =>
      rw [hln] at hix
      have hk := lineAt_le hln
      rw [List.length_take] at hk
      simp only at hix
      have rcs := True.intro
      have rbs := True.intro
      have hc := True.intro
      repeat' first
        | ((with_reducible show Need _); refine need_of ?_; (first | have f0 := Sat.pf (H) | have f0 := trivial); (first | have f1 := Sat.pf (H.t) | have f1 := trivial); (first | have f2 := Sat.pf (H.t.t) | have f2 := trivial); (first | have f3 := Sat.pf (H.t.t.t) | have f3 := trivial); (first | have f4 := Sat.pf (H.t.t.t.t) | have f4 := trivial); (first | have f5 := Sat.pf (H.t.t.t.t.t) | have f5 := trivial); (first | have f6 := Sat.pf (H.t.t.t.t.t.t) | have f6 := trivial); (first | have f7 := Sat.pf (H.t.t.t.t.t.t.t) | have f7 := trivial))
        | simp -implicitDefEqProofs (disch := first | omega | decide | exact rfl | assumption | exact Nat.le_of_ble_eq_true rfl | exact One.c | exact One.o) only [vsA, vsB, eq_self, if_true, if_false, implies_true, false_implies, evp, HX.ev, Nat.reduceAdd, HOp.looks, Nat.reduceEqDiff, overw, Nat.reduceBEq, lr_succ, hx, rcs, rbs, hc, ub26, f0, f1, f2, f3, f4, f5, f6, f7]
        | (refine condK_cases (fun h => ?_) (fun h => ?_) <;> (try simp only [h]) <;> (try simp only [athA, ne_eq] at h) <;> (try (exfalso; omega)))
        | (refine guardK_cases (fun h => ?_) (fun h => ?_) <;> (try simp only [h]) <;> (try simp only [athA, ne_eq] at h) <;> (try (exfalso; omega)))
        | (refine dgK_cases (fun h => ?_) (fun h => ?_) <;> (try simp only [h]) <;> (try simp only [athA, ne_eq] at h) <;> (try (exfalso; omega)))
        | (clear H f0 f1 f2 f3 f4 f5 f6 f7; (with_reducible intro v2 hs H); (try simp only [setA, overw, Nat.reduceAdd] at H); refine need ?_)
        | ((with_reducible show actK _ (HAct.call _ _) _ _ _ _ _); refine vcall_ofC rfl (index38R (G _ H.t.t.t.t) (Rx _ _ H.t.t.t) hy (by omega)) ?_;  rw [hix]; rintro _ _ ⟨rfl, rfl⟩)
        | ((with_reducible show drK _ _ _ _ _ _ _ _ _ (some ⟨_, HAct.call _ _, none⟩)); refine vdr_callC rfl (index38R (G _ H.t.t.t.t) (Rx _ _ H.t.t.t) hy (by omega)) ?_;  rw [hix]; rintro _ _ ⟨rfl, rfl⟩)
        | ((with_reducible show actK _ (HAct.call (HX.cst (HV.func (Fn.func 39) _ _)) _) _ _ _ _ _); refine vcall_of ok39 rfl (take39 H.p2 (fun _ h => h.t.t.rd) (by omega)) ?_;  clear H f0 f1 f2 f3 f4 f5 f6 f7; rintro b hs ⟨v', hb1, hv1, H⟩; obtain ⟨b2, e1, rb⟩ := rd_cut (H.t.t.t.rd) rfl (lo := 0) (hi := k + 2) Lo.none (Hi.some (k := .i64)) (by omega) (by omega); rw [hb1] at e1; cases e1; simp only [List.drop_zero, Nat.sub_zero] at rb; obtain ⟨c, hc, rc⟩ := rd_cut rb (by simp; omega) (lo := 0) (hi := k) Lo.none (Hi.some (k := .i64)) (by omega) (by omega); simp only [List.drop_zero, Nat.sub_zero, List.take_take, Nat.min_eq_left (show k ≤ k + 2 by omega)] at rc; have rcs := rd_b2sK rc; have rbs := rb.sOk; have H := H.p3.cut (Lo.some (k := .i64)) Hi.none (by omega) (by omega) hv1; refine need ?_)
        | ((with_reducible show drK _ _ _ _ _ _ _ _ _ (some ⟨_, HAct.call (HX.cst (HV.func (Fn.func 39) _ _)) _, none⟩)); refine vdr_call ok39 rfl (take39 H.p2 (fun _ h => h.t.t.rd) (by omega)) ?_;  clear H f0 f1 f2 f3 f4 f5 f6 f7; rintro b hs ⟨v', hb1, hv1, H⟩; obtain ⟨b2, e1, rb⟩ := rd_cut (H.t.t.t.rd) rfl (lo := 0) (hi := k + 2) Lo.none (Hi.some (k := .i64)) (by omega) (by omega); rw [hb1] at e1; cases e1; simp only [List.drop_zero, Nat.sub_zero] at rb; obtain ⟨c, hc, rc⟩ := rd_cut rb (by simp; omega) (lo := 0) (hi := k) Lo.none (Hi.some (k := .i64)) (by omega) (by omega); simp only [List.drop_zero, Nat.sub_zero, List.take_take, Nat.min_eq_left (show k ≤ k + 2 by omega)] at rc; have rcs := rd_b2sK rc; have rbs := rb.sOk; have H := H.p3.cut (Lo.some (k := .i64)) Hi.none (by omega) (by omega) hv1; refine need ?_)
        | refine opC_K ?_
        | refine opC_D ?_
        | ((with_reducible show opC (hbuildSlice _ _ _ _ _) _); refine sl_bslice H rfl rfl (by omega) rfl rfl ?_; clear H f0 f1 f2 f3 f4 f5 f6 f7; intro y hs H hy; refine need ?_)
        | ((with_reducible show opC (unit (hstore _ _ _ _)) _); refine sl_store1 (by with_reducible first | exact H | exact H.p1 | exact H.p2 | exact H.p3 | exact H.p4 | exact H.p5 | exact H.p6 | exact H.p7) (Nat.le_of_ble_eq_true rfl) (by first | exact rfl | (simp only [f0, f1, f2, f3, f4, f5, f6, f7]; done) | (simp only [onA, *]; done)) (by first | exact rfl | (simp only [f0, f1, f2, f3, f4, f5, f6, f7]; done) | (simp only [onA, *]; done)) ?_)
        | ((with_reducible show opC (unit (hstore _ _ _ _)) _); refine sl_storeN (by with_reducible first | exact H | exact H.p1 | exact H.p2 | exact H.p3 | exact H.p4 | exact H.p5 | exact H.p6 | exact H.p7) rfl (Nat.le_of_ble_eq_true rfl) (by first | exact rfl | (simp only [f0, f1, f2, f3, f4, f5, f6, f7]; done) | (simp only [onA, *]; done)) ?_)
        | ((with_reducible show opC (hbuildSlice _ _ _ _ _) _); refine sl_bslice1 H rfl (by first | exact rfl | (simp only [f0, f1, f2, f3, f4, f5, f6, f7]; done) | (simp only [onA, *]; done)) (by first | exact rfl | (simp only [f0, f1, f2, f3, f4, f5, f6, f7]; done) | (simp only [onA, *]; done)) ?_)
        | ((with_reducible show opC (hbox _ _) _); refine sl_box1 H (by first | exact rfl | (simp only [f0, f1, f2, f3, f4, f5, f6, f7]; done) | (simp only [onA, *]; done)) (by first | exact rfl | (simp only [f0, f1, f2, f3, f4, f5, f6, f7]; done) | (simp only [onA, *]; done)) ?_)
        | ((with_reducible show opC (hbox _ _) _); refine sl_boxA H (by first | exact rfl | (simp only [f0, f1, f2, f3, f4, f5, f6, f7]; done) | (simp only [onA, *]; done)) ?_)
        | refine hwp_draw mixed rfl ?_
        | with_reducible intro hy

      have e : nextS ⟨most, 0, held, size, left, half, ended⟩ = (some ⟨1, held.take k, []⟩, ⟨most, 0, held.drop (k + 2), size, left, half, ended⟩) := by
        unfold nextS; rw [if_pos rfl]; simp only [hln]
      rw [e]
      have H := H.t.p1.t.p1
      rw [Nat.mul_one, Nat.mul_one, bc_drop, bc_take, List.take_of_length_le (by simp)] at H
      refine ⟨.nilSlice, rfl, Sat.p1 (Sat.ex0 (in_open.2 ⟨v', ?_⟩))⟩
      simp only [List.length_drop]
      exact H.p1
    | none =>
      rw [hln] at hix
      simp only at hix
      by_cases hlen : held.length < 224
      · skip
        repeat' first
          | ((with_reducible show Need _); refine need_of ?_; (first | have f0 := Sat.pf (H) | have f0 := trivial); (first | have f1 := Sat.pf (H.t) | have f1 := trivial); (first | have f2 := Sat.pf (H.t.t) | have f2 := trivial); (first | have f3 := Sat.pf (H.t.t.t) | have f3 := trivial); (first | have f4 := Sat.pf (H.t.t.t.t) | have f4 := trivial); (first | have f5 := Sat.pf (H.t.t.t.t.t) | have f5 := trivial); (first | have f6 := Sat.pf (H.t.t.t.t.t.t) | have f6 := trivial); (first | have f7 := Sat.pf (H.t.t.t.t.t.t.t) | have f7 := trivial))
          | simp -implicitDefEqProofs (disch := first | omega | decide | exact rfl | assumption | exact Nat.le_of_ble_eq_true rfl | exact One.c | exact One.o) only [vsA, vsB, eq_self, if_true, if_false, implies_true, false_implies, evp, HX.ev, Nat.reduceAdd, HOp.looks, Nat.reduceEqDiff, overw, Nat.reduceBEq, lr_succ, hx, ub26, f0, f1, f2, f3, f4, f5, f6, f7]
          | (refine condK_cases (fun h => ?_) (fun h => ?_) <;> (try simp only [h]) <;> (try simp only [athA, ne_eq] at h) <;> (try (exfalso; omega)))
          | (refine guardK_cases (fun h => ?_) (fun h => ?_) <;> (try simp only [h]) <;> (try simp only [athA, ne_eq] at h) <;> (try (exfalso; omega)))
          | (refine dgK_cases (fun h => ?_) (fun h => ?_) <;> (try simp only [h]) <;> (try simp only [athA, ne_eq] at h) <;> (try (exfalso; omega)))
          | (clear H f0 f1 f2 f3 f4 f5 f6 f7; (with_reducible intro v2 hs H); (try simp only [setA, overw, Nat.reduceAdd] at H); refine need ?_)
          | ((with_reducible show actK _ (HAct.call _ _) _ _ _ _ _); refine vcall_ofC rfl (index38R (G _ H.t.t.t.t) (Rx _ _ H.t.t.t) hy (by omega)) ?_;  rw [hix]; rintro _ _ ⟨rfl, rfl⟩)
          | ((with_reducible show drK _ _ _ _ _ _ _ _ _ (some ⟨_, HAct.call _ _, none⟩)); refine vdr_callC rfl (index38R (G _ H.t.t.t.t) (Rx _ _ H.t.t.t) hy (by omega)) ?_;  rw [hix]; rintro _ _ ⟨rfl, rfl⟩)
          | refine opC_K ?_
          | refine opC_D ?_
          | ((with_reducible show opC (hbuildSlice _ _ _ _ _) _); refine sl_bslice H rfl rfl (by omega) rfl rfl ?_; clear H f0 f1 f2 f3 f4 f5 f6 f7; intro y hs H hy; refine need ?_)
          | ((with_reducible show opC (unit (hstore _ _ _ _)) _); refine sl_store1 (by with_reducible first | exact H | exact H.p1 | exact H.p2 | exact H.p3 | exact H.p4 | exact H.p5 | exact H.p6 | exact H.p7) (Nat.le_of_ble_eq_true rfl) (by first | exact rfl | (simp only [f0, f1, f2, f3, f4, f5, f6, f7]; done) | (simp only [onA, *]; done)) (by first | exact rfl | (simp only [f0, f1, f2, f3, f4, f5, f6, f7]; done) | (simp only [onA, *]; done)) ?_)
          | ((with_reducible show opC (unit (hstore _ _ _ _)) _); refine sl_storeN (by with_reducible first | exact H | exact H.p1 | exact H.p2 | exact H.p3 | exact H.p4 | exact H.p5 | exact H.p6 | exact H.p7) rfl (Nat.le_of_ble_eq_true rfl) (by first | exact rfl | (simp only [f0, f1, f2, f3, f4, f5, f6, f7]; done) | (simp only [onA, *]; done)) ?_)
          | ((with_reducible show opC (hbuildSlice _ _ _ _ _) _); refine sl_bslice1 H rfl (by first | exact rfl | (simp only [f0, f1, f2, f3, f4, f5, f6, f7]; done) | (simp only [onA, *]; done)) (by first | exact rfl | (simp only [f0, f1, f2, f3, f4, f5, f6, f7]; done) | (simp only [onA, *]; done)) ?_)
          | ((with_reducible show opC (hbox _ _) _); refine sl_box1 H (by first | exact rfl | (simp only [f0, f1, f2, f3, f4, f5, f6, f7]; done) | (simp only [onA, *]; done)) (by first | exact rfl | (simp only [f0, f1, f2, f3, f4, f5, f6, f7]; done) | (simp only [onA, *]; done)) ?_)
          | ((with_reducible show opC (hbox _ _) _); refine sl_boxA H (by first | exact rfl | (simp only [f0, f1, f2, f3, f4, f5, f6, f7]; done) | (simp only [onA, *]; done)) ?_)
          | refine hwp_draw mixed rfl ?_
          | with_reducible intro hy

        have e : nextS ⟨most, 0, held, size, left, half, ended⟩ = (none, ⟨most, 0, held, size, left, half, ended⟩) := by
          unfold nextS; rw [if_pos rfl]; simp only [hln]; rw [if_pos hlen]
        rw [e]
        exact ⟨.nilSlice, rfl, Sat.p1 (Sat.ex0 (in_open.2 ⟨v, H.t.t⟩))⟩
      · skip
        repeat' first
          | ((with_reducible show Need _); refine need_of ?_; (first | have f0 := Sat.pf (H) | have f0 := trivial); (first | have f1 := Sat.pf (H.t) | have f1 := trivial); (first | have f2 := Sat.pf (H.t.t) | have f2 := trivial); (first | have f3 := Sat.pf (H.t.t.t) | have f3 := trivial); (first | have f4 := Sat.pf (H.t.t.t.t) | have f4 := trivial); (first | have f5 := Sat.pf (H.t.t.t.t.t) | have f5 := trivial); (first | have f6 := Sat.pf (H.t.t.t.t.t.t) | have f6 := trivial); (first | have f7 := Sat.pf (H.t.t.t.t.t.t.t) | have f7 := trivial))
          | simp -implicitDefEqProofs (disch := first | omega | decide | exact rfl | assumption | exact Nat.le_of_ble_eq_true rfl | exact One.c | exact One.o) only [vsA, vsB, eq_self, if_true, if_false, implies_true, false_implies, evp, HX.ev, Nat.reduceAdd, HOp.looks, Nat.reduceEqDiff, overw, Nat.reduceBEq, lr_succ, hx, ub26, f0, f1, f2, f3, f4, f5, f6, f7]
          | (refine condK_cases (fun h => ?_) (fun h => ?_) <;> (try simp only [h]) <;> (try simp only [athA, ne_eq] at h) <;> (try (exfalso; omega)))
          | (refine guardK_cases (fun h => ?_) (fun h => ?_) <;> (try simp only [h]) <;> (try simp only [athA, ne_eq] at h) <;> (try (exfalso; omega)))
          | (refine dgK_cases (fun h => ?_) (fun h => ?_) <;> (try simp only [h]) <;> (try simp only [athA, ne_eq] at h) <;> (try (exfalso; omega)))
          | (clear H f0 f1 f2 f3 f4 f5 f6 f7; (with_reducible intro v2 hs H); (try simp only [setA, overw, Nat.reduceAdd] at H); refine need ?_)
          | ((with_reducible show actK _ (HAct.call _ _) _ _ _ _ _); refine vcall_ofC rfl (index38R (G _ H.t.t.t.t) (Rx _ _ H.t.t.t) hy (by omega)) ?_;  rw [hix]; rintro _ _ ⟨rfl, rfl⟩)
          | ((with_reducible show drK _ _ _ _ _ _ _ _ _ (some ⟨_, HAct.call _ _, none⟩)); refine vdr_callC rfl (index38R (G _ H.t.t.t.t) (Rx _ _ H.t.t.t) hy (by omega)) ?_;  rw [hix]; rintro _ _ ⟨rfl, rfl⟩)
          | ((with_reducible show actK _ (HAct.call (HX.cst (HV.func (Fn.func 39) _ _)) _) _ _ _ _ _); refine vcall_of ok39 rfl (take39 H (fun _ h => h.t.t.rd) (Nat.le_refl _)) ?_;  clear H f0 f1 f2 f3 f4 f5 f6 f7; rintro b hs ⟨v', hb1, hv1, H⟩; refine need ?_)
          | ((with_reducible show drK _ _ _ _ _ _ _ _ _ (some ⟨_, HAct.call (HX.cst (HV.func (Fn.func 39) _ _)) _, none⟩)); refine vdr_call ok39 rfl (take39 H (fun _ h => h.t.t.rd) (Nat.le_refl _)) ?_;  clear H f0 f1 f2 f3 f4 f5 f6 f7; rintro b hs ⟨v', hb1, hv1, H⟩; refine need ?_)
          | ((with_reducible show actK _ (HAct.call (HX.cst (HV.func (Fn.func 18) _ _)) _) _ _ _ _ _); refine vcall_of ok18 rfl (feed18 (b := b) (v := v') (s := ⟨most, 1, [], size, left, false, false⟩) (bs := held) H.p2.p2.p3.p3 (fun hs l' h => by have := h.cut (Lo.some (k := .i64)) Hi.none (Nat.le_refl _) (Nat.le_refl _) hv1; simpa [bcells] using this) (fun hs h => by obtain ⟨b2, e1, rb⟩ := rd_cut h.rd rfl (lo := 0) (hi := held.length) Lo.none (Hi.some (k := .i64)) (by omega) (by omega); rw [hb1] at e1; cases e1; simpa using rb) (by simp only [List.length_nil]; omega) (by simp only; omega)) ?_;  clear H f0 f1 f2 f3 f4 f5 f6 f7; rintro _ hs ⟨vq, H⟩; rw [feedF1 rfl rfl] at H; simp only [St.cells, List.nil_append] at H; refine need ?_)
          | ((with_reducible show drK _ _ _ _ _ _ _ _ _ (some ⟨_, HAct.call (HX.cst (HV.func (Fn.func 18) _ _)) _, none⟩)); refine vdr_call ok18 rfl (feed18 (b := b) (v := v') (s := ⟨most, 1, [], size, left, false, false⟩) (bs := held) H.p2.p2.p3.p3 (fun hs l' h => by have := h.cut (Lo.some (k := .i64)) Hi.none (Nat.le_refl _) (Nat.le_refl _) hv1; simpa [bcells] using this) (fun hs h => by obtain ⟨b2, e1, rb⟩ := rd_cut h.rd rfl (lo := 0) (hi := held.length) Lo.none (Hi.some (k := .i64)) (by omega) (by omega); rw [hb1] at e1; cases e1; simpa using rb) (by simp only [List.length_nil]; omega) (by simp only; omega)) ?_;  clear H f0 f1 f2 f3 f4 f5 f6 f7; rintro _ hs ⟨vq, H⟩; rw [feedF1 rfl rfl] at H; simp only [St.cells, List.nil_append] at H; refine need ?_)
          | refine opC_K ?_
          | refine opC_D ?_
          | ((with_reducible show opC (hbuildSlice _ _ _ _ _) _); refine sl_bslice H rfl rfl (by omega) rfl rfl ?_; clear H f0 f1 f2 f3 f4 f5 f6 f7; intro y hs H hy; refine need ?_)
          | ((with_reducible show opC (unit (hstore _ _ _ _)) _); refine sl_store1 (by with_reducible first | exact H | exact H.p1 | exact H.p2 | exact H.p3 | exact H.p4 | exact H.p5 | exact H.p6 | exact H.p7) (Nat.le_of_ble_eq_true rfl) (by first | exact rfl | (simp only [f0, f1, f2, f3, f4, f5, f6, f7]; done) | (simp only [onA, *]; done)) (by first | exact rfl | (simp only [f0, f1, f2, f3, f4, f5, f6, f7]; done) | (simp only [onA, *]; done)) ?_)
          | ((with_reducible show opC (unit (hstore _ _ _ _)) _); refine sl_storeN (by with_reducible first | exact H | exact H.p1 | exact H.p2 | exact H.p3 | exact H.p4 | exact H.p5 | exact H.p6 | exact H.p7) rfl (Nat.le_of_ble_eq_true rfl) (by first | exact rfl | (simp only [f0, f1, f2, f3, f4, f5, f6, f7]; done) | (simp only [onA, *]; done)) ?_)
          | ((with_reducible show opC (hbuildSlice _ _ _ _ _) _); refine sl_bslice1 H rfl (by first | exact rfl | (simp only [f0, f1, f2, f3, f4, f5, f6, f7]; done) | (simp only [onA, *]; done)) (by first | exact rfl | (simp only [f0, f1, f2, f3, f4, f5, f6, f7]; done) | (simp only [onA, *]; done)) ?_)
          | ((with_reducible show opC (hbox _ _) _); refine sl_box1 H (by first | exact rfl | (simp only [f0, f1, f2, f3, f4, f5, f6, f7]; done) | (simp only [onA, *]; done)) (by first | exact rfl | (simp only [f0, f1, f2, f3, f4, f5, f6, f7]; done) | (simp only [onA, *]; done)) ?_)
          | ((with_reducible show opC (hbox _ _) _); refine sl_boxA H (by first | exact rfl | (simp only [f0, f1, f2, f3, f4, f5, f6, f7]; done) | (simp only [onA, *]; done)) ?_)
          | refine hwp_draw mixed rfl ?_
          | with_reducible intro hy

        · have e : nextS ⟨most, 0, held, size, left, half, ended⟩ = (none, ⟨most, 1, (skipL false held).2.2, size, left, (skipL false held).1, false⟩) := by
            unfold nextS; rw [if_pos rfl]; simp only [hln]; rw [if_neg hlen, if_neg (by simp [*])]
          rw [e]
          have hE : (skipL false held).2.1 = false := by assumption
          rw [hE] at H
          exact ⟨.nilSlice, rfl, Sat.p1 (Sat.ex0 (in_open.2 ⟨vq, H.t.p2.t⟩))⟩
        · have e : nextS ⟨most, 0, held, size, left, half, ended⟩ = (some ⟨2, [], []⟩, ⟨most, 0, (skipL false held).2.2, size, left, (skipL false held).1, true⟩) := by
            unfold nextS; rw [if_pos rfl]; simp only [hln]; rw [if_neg hlen, if_pos (by simp [*])]
          rw [e]
          have hE : (skipL false held).2.1 = true := by assumption
          rw [hE] at H
          exact ⟨.nilSlice, rfl, Sat.p1 (Sat.ex0 (in_open.2 ⟨vq, H.t.p1.t⟩))⟩
  · skip
    repeat' first
      | ((with_reducible show Need _); refine need_of ?_; (first | have f0 := Sat.pf (H) | have f0 := trivial); (first | have f1 := Sat.pf (H.t) | have f1 := trivial); (first | have f2 := Sat.pf (H.t.t) | have f2 := trivial); (first | have f3 := Sat.pf (H.t.t.t) | have f3 := trivial); (first | have f4 := Sat.pf (H.t.t.t.t) | have f4 := trivial); (first | have f5 := Sat.pf (H.t.t.t.t.t) | have f5 := trivial); (first | have f6 := Sat.pf (H.t.t.t.t.t.t) | have f6 := trivial); (first | have f7 := Sat.pf (H.t.t.t.t.t.t.t) | have f7 := trivial))
      | simp -implicitDefEqProofs (disch := first | omega | decide | exact rfl | assumption | exact Nat.le_of_ble_eq_true rfl | exact One.c | exact One.o) only [vsA, vsB, eq_self, if_true, if_false, implies_true, false_implies, evp, HX.ev, Nat.reduceAdd, HOp.looks, Nat.reduceEqDiff, overw, Nat.reduceBEq, lr_succ, ub26, f0, f1, f2, f3, f4, f5, f6, f7]
      | (refine condK_cases (fun h => ?_) (fun h => ?_) <;> (try simp only [h]) <;> (try simp only [athA, ne_eq] at h) <;> (try (exfalso; omega)))
      | (refine guardK_cases (fun h => ?_) (fun h => ?_) <;> (try simp only [h]) <;> (try simp only [athA, ne_eq] at h) <;> (try (exfalso; omega)))
      | (refine dgK_cases (fun h => ?_) (fun h => ?_) <;> (try simp only [h]) <;> (try simp only [athA, ne_eq] at h) <;> (try (exfalso; omega)))
      | (clear H f0 f1 f2 f3 f4 f5 f6 f7; (with_reducible intro v2 hs H); (try simp only [setA, overw, Nat.reduceAdd] at H); refine need ?_)
      | refine opC_K ?_
      | refine opC_D ?_
      | ((with_reducible show opC (unit (hstore _ _ _ _)) _); refine sl_store1 (by with_reducible first | exact H | exact H.p1 | exact H.p2 | exact H.p3 | exact H.p4 | exact H.p5 | exact H.p6 | exact H.p7) (Nat.le_of_ble_eq_true rfl) (by first | exact rfl | (simp only [f0, f1, f2, f3, f4, f5, f6, f7]; done) | (simp only [onA, *]; done)) (by first | exact rfl | (simp only [f0, f1, f2, f3, f4, f5, f6, f7]; done) | (simp only [onA, *]; done)) ?_)
      | ((with_reducible show opC (unit (hstore _ _ _ _)) _); refine sl_storeN (by with_reducible first | exact H | exact H.p1 | exact H.p2 | exact H.p3 | exact H.p4 | exact H.p5 | exact H.p6 | exact H.p7) rfl (Nat.le_of_ble_eq_true rfl) (by first | exact rfl | (simp only [f0, f1, f2, f3, f4, f5, f6, f7]; done) | (simp only [onA, *]; done)) ?_)
      | ((with_reducible show opC (hbuildSlice _ _ _ _ _) _); refine sl_bslice1 H rfl (by first | exact rfl | (simp only [f0, f1, f2, f3, f4, f5, f6, f7]; done) | (simp only [onA, *]; done)) (by first | exact rfl | (simp only [f0, f1, f2, f3, f4, f5, f6, f7]; done) | (simp only [onA, *]; done)) ?_)
      | ((with_reducible show opC (hbox _ _) _); refine sl_box1 H (by first | exact rfl | (simp only [f0, f1, f2, f3, f4, f5, f6, f7]; done) | (simp only [onA, *]; done)) (by first | exact rfl | (simp only [f0, f1, f2, f3, f4, f5, f6, f7]; done) | (simp only [onA, *]; done)) ?_)
      | ((with_reducible show opC (hbox _ _) _); refine sl_boxA H (by first | exact rfl | (simp only [f0, f1, f2, f3, f4, f5, f6, f7]; done) | (simp only [onA, *]; done)) ?_)
      | refine hwp_draw mixed rfl ?_
      | with_reducible intro hy

    · have e : nextS ⟨most, 1, held, size, left, half, ended⟩ = (none, ⟨most, 1, held, size, left, half, ended⟩) := by
        unfold nextS; rw [if_neg (by simp), if_pos rfl, if_neg (by simp [*])]
      rw [e]
      exact ⟨.nilSlice, rfl, Sat.p1 (Sat.ex0 (in_open.2 ⟨v, H.t.t⟩))⟩
    · have e : nextS ⟨most, 1, held, size, left, half, ended⟩ = (some ⟨2, [], []⟩, ⟨most, 0, held, size, left, half, ended⟩) := by
        unfold nextS; rw [if_neg (by simp), if_pos rfl, if_pos (by simp [*])]
      rw [e]
      exact ⟨.nilSlice, rfl, Sat.p1 (Sat.ex0 (in_open.2 ⟨v, H.t.p1.t⟩))⟩
  · by_cases hlen : held.length < size + 2
    · skip
      repeat' first
        | ((with_reducible show Need _); refine need_of ?_; (first | have f0 := Sat.pf (H) | have f0 := trivial); (first | have f1 := Sat.pf (H.t) | have f1 := trivial); (first | have f2 := Sat.pf (H.t.t) | have f2 := trivial); (first | have f3 := Sat.pf (H.t.t.t) | have f3 := trivial); (first | have f4 := Sat.pf (H.t.t.t.t) | have f4 := trivial); (first | have f5 := Sat.pf (H.t.t.t.t.t) | have f5 := trivial); (first | have f6 := Sat.pf (H.t.t.t.t.t.t) | have f6 := trivial); (first | have f7 := Sat.pf (H.t.t.t.t.t.t.t) | have f7 := trivial))
        | simp -implicitDefEqProofs (disch := first | omega | decide | exact rfl | assumption | exact Nat.le_of_ble_eq_true rfl | exact One.c | exact One.o) only [vsA, vsB, eq_self, if_true, if_false, implies_true, false_implies, evp, HX.ev, Nat.reduceAdd, HOp.looks, Nat.reduceEqDiff, overw, Nat.reduceBEq, lr_succ, ub26, f0, f1, f2, f3, f4, f5, f6, f7]
        | (refine condK_cases (fun h => ?_) (fun h => ?_) <;> (try simp only [h]) <;> (try simp only [athA, ne_eq] at h) <;> (try (exfalso; omega)))
        | (refine guardK_cases (fun h => ?_) (fun h => ?_) <;> (try simp only [h]) <;> (try simp only [athA, ne_eq] at h) <;> (try (exfalso; omega)))
        | (refine dgK_cases (fun h => ?_) (fun h => ?_) <;> (try simp only [h]) <;> (try simp only [athA, ne_eq] at h) <;> (try (exfalso; omega)))
        | (clear H f0 f1 f2 f3 f4 f5 f6 f7; (with_reducible intro v2 hs H); (try simp only [setA, overw, Nat.reduceAdd] at H); refine need ?_)
        | refine opC_K ?_
        | refine opC_D ?_
        | ((with_reducible show opC (unit (hstore _ _ _ _)) _); refine sl_store1 (by with_reducible first | exact H | exact H.p1 | exact H.p2 | exact H.p3 | exact H.p4 | exact H.p5 | exact H.p6 | exact H.p7) (Nat.le_of_ble_eq_true rfl) (by first | exact rfl | (simp only [f0, f1, f2, f3, f4, f5, f6, f7]; done) | (simp only [onA, *]; done)) (by first | exact rfl | (simp only [f0, f1, f2, f3, f4, f5, f6, f7]; done) | (simp only [onA, *]; done)) ?_)
        | ((with_reducible show opC (unit (hstore _ _ _ _)) _); refine sl_storeN (by with_reducible first | exact H | exact H.p1 | exact H.p2 | exact H.p3 | exact H.p4 | exact H.p5 | exact H.p6 | exact H.p7) rfl (Nat.le_of_ble_eq_true rfl) (by first | exact rfl | (simp only [f0, f1, f2, f3, f4, f5, f6, f7]; done) | (simp only [onA, *]; done)) ?_)
        | ((with_reducible show opC (hbuildSlice _ _ _ _ _) _); refine sl_bslice1 H rfl (by first | exact rfl | (simp only [f0, f1, f2, f3, f4, f5, f6, f7]; done) | (simp only [onA, *]; done)) (by first | exact rfl | (simp only [f0, f1, f2, f3, f4, f5, f6, f7]; done) | (simp only [onA, *]; done)) ?_)
        | ((with_reducible show opC (hbox _ _) _); refine sl_box1 H (by first | exact rfl | (simp only [f0, f1, f2, f3, f4, f5, f6, f7]; done) | (simp only [onA, *]; done)) (by first | exact rfl | (simp only [f0, f1, f2, f3, f4, f5, f6, f7]; done) | (simp only [onA, *]; done)) ?_)
        | ((with_reducible show opC (hbox _ _) _); refine sl_boxA H (by first | exact rfl | (simp only [f0, f1, f2, f3, f4, f5, f6, f7]; done) | (simp only [onA, *]; done)) ?_)
        | refine hwp_draw mixed rfl ?_
        | with_reducible intro hy

      have e : nextS ⟨most, 2, held, size, left, half, ended⟩ = (none, ⟨most, 2, held, size, left, half, ended⟩) := by
        unfold nextS; rw [if_neg (by simp), if_neg (by simp), if_pos rfl, if_pos hlen]
      rw [e]
      exact ⟨.nilSlice, rfl, Sat.p1 (Sat.ex0 (in_open.2 ⟨v, H.t.t⟩))⟩
    · have o1 := True.intro
      have o2 := True.intro
      repeat' first
        | ((with_reducible show Need _); refine need_of ?_; (first | have f0 := Sat.pf (H) | have f0 := trivial); (first | have f1 := Sat.pf (H.t) | have f1 := trivial); (first | have f2 := Sat.pf (H.t.t) | have f2 := trivial); (first | have f3 := Sat.pf (H.t.t.t) | have f3 := trivial); (first | have f4 := Sat.pf (H.t.t.t.t) | have f4 := trivial); (first | have f5 := Sat.pf (H.t.t.t.t.t) | have f5 := trivial); (first | have f6 := Sat.pf (H.t.t.t.t.t.t) | have f6 := trivial); (first | have f7 := Sat.pf (H.t.t.t.t.t.t.t) | have f7 := trivial))
        | simp -implicitDefEqProofs (disch := first | omega | decide | exact rfl | assumption | exact Nat.le_of_ble_eq_true rfl | exact One.c | exact One.o) only [vsA, vsB, eq_self, if_true, if_false, implies_true, false_implies, evp, HX.ev, Nat.reduceAdd, HOp.looks, Nat.reduceEqDiff, overw, Nat.reduceBEq, lr_succ, o1, o2, ub26, f0, f1, f2, f3, f4, f5, f6, f7]
        | (refine condK_cases (fun h => ?_) (fun h => ?_) <;> (try simp only [h]) <;> (try simp only [athA, ne_eq] at h) <;> (try (exfalso; omega)))
        | (refine guardK_cases (fun h => ?_) (fun h => ?_) <;> (try simp only [h]) <;> (try simp only [athA, ne_eq] at h) <;> (try (exfalso; omega)))
        | (refine dgK_cases (fun h => ?_) (fun h => ?_) <;> (try simp only [h]) <;> (try simp only [athA, ne_eq] at h) <;> (try (exfalso; omega)))
        | (clear H f0 f1 f2 f3 f4 f5 f6 f7; (with_reducible intro v2 hs H); (try simp only [setA, overw, Nat.reduceAdd] at H); refine need ?_)
        | ((with_reducible show actK _ (HAct.call (HX.cst (HV.func (Fn.func 39) _ _)) _) _ _ _ _ _); refine vcall_of ok39 rfl (take39 H.p2 (fun _ h => h.t.t.rd) (by omega)) ?_;  clear H f0 f1 f2 f3 f4 f5 f6 f7; rintro b hs ⟨v', hb1, hv1, H⟩; refine need ?_)
        | ((with_reducible show drK _ _ _ _ _ _ _ _ _ (some ⟨_, HAct.call (HX.cst (HV.func (Fn.func 39) _ _)) _, none⟩)); refine vdr_call ok39 rfl (take39 H.p2 (fun _ h => h.t.t.rd) (by omega)) ?_;  clear H f0 f1 f2 f3 f4 f5 f6 f7; rintro b hs ⟨v', hb1, hv1, H⟩; refine need ?_)
        | ((with_reducible show actK _ (HAct.call (HX.cst (HV.func (Fn.func 40) _ _)) _) _ _ _ _ _); refine vcall_of ok40 rfl (body40 (b := b) (bs := held.take (size + 2)) (n := size) (by simp; omega) H (fun hs h => by obtain ⟨b2, e1, rb⟩ := rd_cut h.t.t.t.rd rfl (lo := 0) (hi := size + 2) Lo.none (Hi.some (k := .i64)) (by omega) (by omega); rw [hb1] at e1; cases e1; rw [List.length_take, Nat.min_eq_left (by omega)]; simpa using rb) (by simp; omega)) ?_;  clear H f0 f1 f2 f3 f4 f5 f6 f7; rintro _ hs ⟨w, rfl, H⟩; have o1 := H.rdX.one; have o2 := H.rdX.cells; have H := H.p4.cut (Lo.some (k := .i64)) Hi.none (by omega) (by omega) hv1; refine need ?_)
        | ((with_reducible show drK _ _ _ _ _ _ _ _ _ (some ⟨_, HAct.call (HX.cst (HV.func (Fn.func 40) _ _)) _, none⟩)); refine vdr_call ok40 rfl (body40 (b := b) (bs := held.take (size + 2)) (n := size) (by simp; omega) H (fun hs h => by obtain ⟨b2, e1, rb⟩ := rd_cut h.t.t.t.rd rfl (lo := 0) (hi := size + 2) Lo.none (Hi.some (k := .i64)) (by omega) (by omega); rw [hb1] at e1; cases e1; rw [List.length_take, Nat.min_eq_left (by omega)]; simpa using rb) (by simp; omega)) ?_;  clear H f0 f1 f2 f3 f4 f5 f6 f7; rintro _ hs ⟨w, rfl, H⟩; have o1 := H.rdX.one; have o2 := H.rdX.cells; have H := H.p4.cut (Lo.some (k := .i64)) Hi.none (by omega) (by omega) hv1; refine need ?_)
        | refine opC_K ?_
        | refine opC_D ?_
        | ((with_reducible show opC (unit (hstore _ _ _ _)) _); refine sl_store1 (by with_reducible first | exact H | exact H.p1 | exact H.p2 | exact H.p3 | exact H.p4 | exact H.p5 | exact H.p6 | exact H.p7) (Nat.le_of_ble_eq_true rfl) (by first | exact rfl | (simp only [f0, f1, f2, f3, f4, f5, f6, f7]; done) | (simp only [onA, *]; done)) (by first | exact rfl | (simp only [f0, f1, f2, f3, f4, f5, f6, f7]; done) | (simp only [onA, *]; done)) ?_)
        | ((with_reducible show opC (unit (hstore _ _ _ _)) _); refine sl_storeN (by with_reducible first | exact H | exact H.p1 | exact H.p2 | exact H.p3 | exact H.p4 | exact H.p5 | exact H.p6 | exact H.p7) rfl (Nat.le_of_ble_eq_true rfl) (by first | exact rfl | (simp only [f0, f1, f2, f3, f4, f5, f6, f7]; done) | (simp only [onA, *]; done)) ?_)
        | ((with_reducible show opC (hbuildSlice _ _ _ _ _) _); refine sl_bslice1 H rfl (by first | exact rfl | (simp only [f0, f1, f2, f3, f4, f5, f6, f7]; done) | (simp only [onA, *]; done)) (by first | exact rfl | (simp only [f0, f1, f2, f3, f4, f5, f6, f7]; done) | (simp only [onA, *]; done)) ?_)
        | ((with_reducible show opC (hbox _ _) _); refine sl_box1 H (by first | exact rfl | (simp only [f0, f1, f2, f3, f4, f5, f6, f7]; done) | (simp only [onA, *]; done)) (by first | exact rfl | (simp only [f0, f1, f2, f3, f4, f5, f6, f7]; done) | (simp only [onA, *]; done)) ?_)
        | ((with_reducible show opC (hbox _ _) _); refine sl_boxA H (by first | exact rfl | (simp only [f0, f1, f2, f3, f4, f5, f6, f7]; done) | (simp only [onA, *]; done)) ?_)
        | refine hwp_draw mixed rfl ?_
        | with_reducible intro hy

      have e : nextS ⟨most, 2, held, size, left, half, ended⟩ = (some ⟨(bodyF (held.take (size + 2)) size).1, [], (bodyF (held.take (size + 2)) size).2⟩, ⟨most, 0, held.drop (size + 2), size, left, half, ended⟩) := by
        unfold nextS; rw [if_neg (by simp), if_neg (by simp), if_pos rfl, if_neg hlen]
      rw [e]
      have H := H.t.p1.t.p2.p1.p2
      rw [Nat.mul_one, Nat.mul_one, bc_drop, bc_take, List.take_of_length_le (by simp)] at H
      refine ⟨w, rfl, in_open.2 ⟨v', ?_⟩⟩
      simp only [List.length_drop]
      exact H.p1
  · skip
    repeat' first
      | ((with_reducible show Need _); refine need_of ?_; (first | have f0 := Sat.pf (H) | have f0 := trivial); (first | have f1 := Sat.pf (H.t) | have f1 := trivial); (first | have f2 := Sat.pf (H.t.t) | have f2 := trivial); (first | have f3 := Sat.pf (H.t.t.t) | have f3 := trivial); (first | have f4 := Sat.pf (H.t.t.t.t) | have f4 := trivial); (first | have f5 := Sat.pf (H.t.t.t.t.t) | have f5 := trivial); (first | have f6 := Sat.pf (H.t.t.t.t.t.t) | have f6 := trivial); (first | have f7 := Sat.pf (H.t.t.t.t.t.t.t) | have f7 := trivial))
      | simp -implicitDefEqProofs (disch := first | omega | decide | exact rfl | assumption | exact Nat.le_of_ble_eq_true rfl | exact One.c | exact One.o) only [vsA, vsB, eq_self, if_true, if_false, implies_true, false_implies, evp, HX.ev, Nat.reduceAdd, HOp.looks, Nat.reduceEqDiff, overw, Nat.reduceBEq, lr_succ, ub26, f0, f1, f2, f3, f4, f5, f6, f7]
      | (refine condK_cases (fun h => ?_) (fun h => ?_) <;> (try simp only [h]) <;> (try simp only [athA, ne_eq] at h) <;> (try (exfalso; omega)))
      | (refine guardK_cases (fun h => ?_) (fun h => ?_) <;> (try simp only [h]) <;> (try simp only [athA, ne_eq] at h) <;> (try (exfalso; omega)))
      | (refine dgK_cases (fun h => ?_) (fun h => ?_) <;> (try simp only [h]) <;> (try simp only [athA, ne_eq] at h) <;> (try (exfalso; omega)))
      | (clear H f0 f1 f2 f3 f4 f5 f6 f7; (with_reducible intro v2 hs H); (try simp only [setA, overw, Nat.reduceAdd] at H); refine need ?_)
      | refine opC_K ?_
      | refine opC_D ?_
      | ((with_reducible show opC (unit (hstore _ _ _ _)) _); refine sl_store1 (by with_reducible first | exact H | exact H.p1 | exact H.p2 | exact H.p3 | exact H.p4 | exact H.p5 | exact H.p6 | exact H.p7) (Nat.le_of_ble_eq_true rfl) (by first | exact rfl | (simp only [f0, f1, f2, f3, f4, f5, f6, f7]; done) | (simp only [onA, *]; done)) (by first | exact rfl | (simp only [f0, f1, f2, f3, f4, f5, f6, f7]; done) | (simp only [onA, *]; done)) ?_)
      | ((with_reducible show opC (unit (hstore _ _ _ _)) _); refine sl_storeN (by with_reducible first | exact H | exact H.p1 | exact H.p2 | exact H.p3 | exact H.p4 | exact H.p5 | exact H.p6 | exact H.p7) rfl (Nat.le_of_ble_eq_true rfl) (by first | exact rfl | (simp only [f0, f1, f2, f3, f4, f5, f6, f7]; done) | (simp only [onA, *]; done)) ?_)
      | ((with_reducible show opC (hbuildSlice _ _ _ _ _) _); refine sl_bslice1 H rfl (by first | exact rfl | (simp only [f0, f1, f2, f3, f4, f5, f6, f7]; done) | (simp only [onA, *]; done)) (by first | exact rfl | (simp only [f0, f1, f2, f3, f4, f5, f6, f7]; done) | (simp only [onA, *]; done)) ?_)
      | ((with_reducible show opC (hbox _ _) _); refine sl_box1 H (by first | exact rfl | (simp only [f0, f1, f2, f3, f4, f5, f6, f7]; done) | (simp only [onA, *]; done)) (by first | exact rfl | (simp only [f0, f1, f2, f3, f4, f5, f6, f7]; done) | (simp only [onA, *]; done)) ?_)
      | ((with_reducible show opC (hbox _ _) _); refine sl_boxA H (by first | exact rfl | (simp only [f0, f1, f2, f3, f4, f5, f6, f7]; done) | (simp only [onA, *]; done)) ?_)
      | refine hwp_draw mixed rfl ?_
      | with_reducible intro hy

    · have e : nextS ⟨most, 3, held, size, left, half, ended⟩ = (none, ⟨most, 3, held, size, left, half, ended⟩) := by
        unfold nextS; rw [if_neg (by simp), if_neg (by simp), if_neg (by simp), if_pos (by simp only; omega)]
      rw [e]
      exact ⟨.nilSlice, rfl, Sat.p1 (Sat.ex0 (in_open.2 ⟨v, H.t.t⟩))⟩
    · have e : nextS ⟨most, 3, held, size, left, half, ended⟩ = (some ⟨4, [], []⟩, ⟨most, 0, held, size, left, half, ended⟩) := by
        unfold nextS; rw [if_neg (by simp), if_neg (by simp), if_neg (by simp), if_neg (by simp only; omega)]
      rw [e]
      exact ⟨.nilSlice, rfl, Sat.p1 (Sat.ex0 (in_open.2 ⟨v, H.t.p1.t⟩))⟩
end Go.Proofs.Ytccfcegmaejlnaa
namespace Go.Proofs.Ytccfcegmaejlnaa
open Go Go.HL
set_option maxRecDepth 100000
set_option maxHeartbeats 40000000
set_option linter.unusedSimpArgs false
attribute [local irreducible] pt My Ex Vw Gr GrK each grp exs Sat takeCells happend hbuildSlice hstore hbox hslice hmakeSlice hs2b hcopy HL.unit opC
theorem ok8 : okF Try.prog 8 := ⟨_, Try.func8, by kernel_rfl, by kernel_rfl⟩
theorem ok9 : okF Try.prog 9 := ⟨_, Try.func9, by kernel_rfl, by kernel_rfl⟩
theorem ok20 : okF Try.prog 20 := ⟨_, Try.func20, by kernel_rfl, by kernel_rfl⟩
theorem ok21 : okF Try.prog 21 := ⟨_, Try.func21, by kernel_rfl, by kernel_rfl⟩
theorem ok22 : okF Try.prog 22 := ⟨_, Try.func22, by kernel_rfl, by kernel_rfl⟩
theorem ok23 : okF Try.prog 23 := ⟨_, Try.func23, by kernel_rfl, by kernel_rfl⟩
theorem ok24 : okF Try.prog 24 := ⟨_, Try.func24, by kernel_rfl, by kernel_rfl⟩
theorem ok25 : okF Try.prog 25 := ⟨_, Try.func25, by kernel_rfl, by kernel_rfl⟩
/-- an act that was handed in. -/
structure ActV where
  kind : Int
  at_ : Int
  n : Int
  v : HV
  data : List UInt8
def ActV.cells (a : ActV) : List HV := [.int .i64 a.kind, .int .i64 a.at_, .int .i64 a.n, a.v]
structure ArgsAt (hs : HS) (sv : HV) (A : List ActV) : Prop where
  row : Rd hs 4 sv A.length (A.flatMap ActV.cells)
  data : ∀ a ∈ A, Rd hs 1 a.v a.data.length (bcells a.data)
  few : A.length < 4611686018427387904
  small : ∀ a ∈ A, a.data.length < 4611686018427387904
def total (A : List ActV) : Nat := A.length + (A.map fun a => a.data.length).sum
theorem ArgsAt.idx {hs : HS} {sv : HV} {A : List ActV} (R : ArgsAt hs sv A) {i : Nat} {a : ActV} (hi : A[i]? = some a) :
    ∃ h o, hindexAddr 4 sv (.int .i64 (i : Nat)) = some (.ptr h o) ∧ hload none hs (.ptr h (o + 3)) = some a.v ∧ hload (some 4) hs (.ptr h o) = some (.agg a.cells) := by
  obtain ⟨h, o, h1, h2, h3⟩ := R.row.idxF (s := 4) (fun _ => rfl) rfl hi .i64
  exact ⟨h, o, h1, h2 3 (by omega), h3⟩
theorem sum_take {A : List ActV} {i : Nat} {a : ActV} (hi : A[i]? = some a) : ((A.take (i + 1)).map fun a => a.data.length).sum = ((A.take i).map fun a => a.data.length).sum + a.data.length := by
  rw [List.take_add_one, hi]; simp
theorem sum_le : ∀ (A : List ActV) (i : Nat), ((A.take i).map fun a => a.data.length).sum ≤ (A.map fun a => a.data.length).sum
  | [], i => by simp
  | a :: A, 0 => by simp
  | a :: A, i + 1 => by have := sum_le A i; simp only [List.take_succ_cons, List.map_cons, List.sum_cons]; omega

def amongF (i : Int) (m : Nat) : Nat := (i % (m : Int)).toNat
theorem among_lt {i : Int} {m : Nat} (h : 1 ≤ m) : amongF i m < m := by
  unfold amongF
  have h1 := Int.emod_nonneg i (show (m : Int) ≠ 0 by omega)
  have h2 := Int.emod_lt_of_pos i (show (0 : Int) < m by omega)
  omega
theorem among20 {hs : HS} (i : Int) (m : Nat) (hm : 1 ≤ m ∧ m < 4611686018427387904) : HC Try.prog 20 [.int .i64 i, .int .i64 (m : Nat)] hs fun v hs' => v = .int .i64 (amongF i m : Nat) ∧ hs' = hs := by
  refine HC.wp mixed Try.func20 c20 ?_
  · skip
    have hr : hbin .rem none (.int .i64 i) (.int .i64 (m : Nat)) = some (.int .i64 (i.tmod m)) := by
      have : hbin .rem none (.int .i64 i) (.int .i64 (m : Nat)) = if IntKind.i64 = IntKind.i64 ∧ ((m : Nat) : Int) ≠ 0 then some (.int .i64 (i.tmod m)) else none := rfl
      rw [this, if_pos ⟨rfl, by omega⟩]
    have hlt := among_lt (i := i) (m := m) (by omega)
    have h1 := Int.emod_nonneg i (show (m : Int) ≠ 0 by omega)
    have ht : i.tmod m = if i.tmod m < 0 then (amongF i m : Int) - m else (amongF i m : Int) := by
      unfold amongF
      rw [Int.toNat_of_nonneg h1, Int.tmod_eq_emod]
      have h2 := Int.emod_lt_of_pos i (show (0 : Int) < m by omega)
      by_cases hd : 0 ≤ i ∨ (m : Int) ∣ i
      · rw [if_pos hd, if_neg (by omega)]; omega
      · rw [if_neg hd, Int.natAbs_natCast, if_pos (by omega)]
    have ha : i.tmod m < 0 → hbin .add none (.int .i64 (i.tmod m)) (.int .i64 (m : Nat)) = some (.int .i64 (amongF i m : Nat)) := by
      intro h
      rw [if_pos h] at ht
      rw [vaddI (by omega)]
      congr 2; omega
    by_cases hneg : i.tmod m < 0
    · have ha := ha hneg
      repeat' first
        | simp -implicitDefEqProofs (disch := first | omega | decide | exact rfl | assumption | exact Nat.le_of_ble_eq_true rfl | exact One.c | exact One.o) only [vsA, vsB, eq_self, if_true, if_false, implies_true, false_implies, evp, HX.ev, Nat.reduceAdd, HOp.looks, Nat.reduceEqDiff, overw, Nat.reduceBEq, h20, hr, ha, ub20, frame0, List.replicate, Nat.sub]
        | (refine condK_cases (fun h => ?_) (fun h => ?_) <;> (try simp only [h]) <;> (try simp only [athA, ne_eq] at h) <;> (try (exfalso; omega)))
        | (refine guardK_cases (fun h => ?_) (fun h => ?_) <;> (try simp only [h]) <;> (try simp only [athA, ne_eq] at h) <;> (try (exfalso; omega)))

    · rw [if_neg hneg] at ht
      repeat' first
        | simp -implicitDefEqProofs (disch := first | omega | decide | exact rfl | assumption | exact Nat.le_of_ble_eq_true rfl | exact One.c | exact One.o) only [vsA, vsB, eq_self, if_true, if_false, implies_true, false_implies, evp, HX.ev, Nat.reduceAdd, HOp.looks, Nat.reduceEqDiff, overw, Nat.reduceBEq, h20, hr, ub20, frame0, List.replicate, Nat.sub]
        | (refine condK_cases (fun h => ?_) (fun h => ?_) <;> (try simp only [h]) <;> (try simp only [athA, ne_eq] at h) <;> (try (exfalso; omega)))
        | (refine guardK_cases (fun h => ?_) (fun h => ?_) <;> (try simp only [h]) <;> (try simp only [athA, ne_eq] at h) <;> (try (exfalso; omega)))

      rw [ht]
theorem beyond8 {hs : HS} {sv : HV} {A : List ActV} (R : ArgsAt hs sv A) : HC Try.prog 8 [sv] hs fun v hs' => v = .bool (decide (2147483647 < total A)) ∧ hs' = hs := by
  have ls := R.row.len hs
  have so := R.row.sOk
  have few := R.few
  refine HC.wp mixed Try.func8 c8 ?_
  repeat' first
    | simp -implicitDefEqProofs (disch := first | omega | decide | exact rfl | assumption | exact Nat.le_of_ble_eq_true rfl | exact One.c | exact One.o) only [vsA, vsB, eq_self, if_true, if_false, implies_true, false_implies, evp, HX.ev, Nat.reduceAdd, HOp.looks, Nat.reduceEqDiff, overw, Nat.reduceBEq, h8, ls, ub8, frame0, List.replicate, Nat.sub]
    | (refine condK_cases (fun h => ?_) (fun h => ?_) <;> (try simp only [h]) <;> (try simp only [athA, ne_eq] at h) <;> (try (exfalso; omega)))
    | (refine guardK_cases (fun h => ?_) (fun h => ?_) <;> (try simp only [h]) <;> (try simp only [athA, ne_eq] at h) <;> (try (exfalso; omega)))

  refine HW.loopR mixed (fun i : Nat => (sv :: .undef :: .undef :: .int .i64 ((A.length + ((A.take i).map fun a => a.data.length).sum : Nat) : Int) :: .int .i64 (i : Nat) :: .undef :: .undef :: .undef :: .undef :: .undef :: .undef :: .undef :: .undef :: .undef :: .undef :: .undef :: .undef :: .undef :: .undef :: .undef :: .undef :: .undef :: .undef :: .undef :: .undef :: .undef :: .undef :: [])) (fun i => A.length - i) (fun i => i ≤ A.length ∧ (((A.take i).map fun a => a.data.length).sum < 9223372036854775807 - A.length)) 0 ⟨by omega, by simp; omega⟩ (by (repeat first | exact Less.nil | refine Less.undef _ ?_ | refine Less.keep _ ?_)) ?_
  rintro i ⟨hi, hsum⟩
  by_cases h : i < A.length
  · obtain ⟨a, ha⟩ : ∃ a, A[i]? = some a := ⟨_, List.getElem?_eq_getElem h⟩
    obtain ⟨q, o, h1, h2, _⟩ := R.idx ha
    have hd := (R.data a (List.mem_of_getElem? ha)).len hs
    have hs1 := sum_take ha
    have hsm := R.small a (List.mem_of_getElem? ha)
    repeat' first
      | simp -implicitDefEqProofs (disch := first | omega | decide | exact rfl | assumption | exact Nat.le_of_ble_eq_true rfl | exact One.c | exact One.o) only [vsA, vsB, eq_self, if_true, if_false, implies_true, false_implies, evp, HX.ev, Nat.reduceAdd, HOp.looks, Nat.reduceEqDiff, overw, Nat.reduceBEq, ls, so, h1, h2, hd, vadd1, vaddn, ub8]
      | (refine condK_cases (fun h => ?_) (fun h => ?_) <;> (try simp only [h]) <;> (try simp only [athA, ne_eq] at h) <;> (try (exfalso; omega)))
      | (refine guardK_cases (fun h => ?_) (fun h => ?_) <;> (try simp only [h]) <;> (try simp only [athA, ne_eq] at h) <;> (try (exfalso; omega)))

    · refine ⟨i + 1, by omega, ⟨by omega, by omega⟩, ?_⟩
      rw [hs1, ← Nat.add_assoc]
      (repeat first | exact Less.nil | refine Less.undef _ ?_ | refine Less.keep _ ?_)
    · have := sum_le A i
      refine congrArg HV.bool (decide_eq_decide.2 ?_)
      unfold total
      omega
  · skip
    repeat' first
      | simp -implicitDefEqProofs (disch := first | omega | decide | exact rfl | assumption | exact Nat.le_of_ble_eq_true rfl | exact One.c | exact One.o) only [vsA, vsB, eq_self, if_true, if_false, implies_true, false_implies, evp, HX.ev, Nat.reduceAdd, HOp.looks, Nat.reduceEqDiff, overw, Nat.reduceBEq, ls, ub8]
      | (refine condK_cases (fun h => ?_) (fun h => ?_) <;> (try simp only [h]) <;> (try simp only [athA, ne_eq] at h) <;> (try (exfalso; omega)))
      | (refine guardK_cases (fun h => ?_) (fun h => ?_) <;> (try simp only [h]) <;> (try simp only [athA, ne_eq] at h) <;> (try (exfalso; omega)))

    obtain rfl : i = A.length := by omega
    rw [List.take_length]
    refine congrArg HV.bool (decide_eq_decide.2 ?_)
    unfold total
    omega

theorem shown9 {hs : HS} {l : List SA} (H : Sat hs l) (G : ∀ hs, Sat hs l → hs[0]? = some (some (HB.gint 0))) : HC Try.prog 9 [] hs fun v hs' => v = .bool true ∧ Sat hs' l := by
  have n1 := new17 H 4
  refine HC.wp mixed Try.func9 c9 ?_
  first | have f0 := Sat.pf (H) | have f0 := trivial
  first | have f1 := Sat.pf (H.t) | have f1 := trivial
  first | have f2 := Sat.pf (H.t.t) | have f2 := trivial
  first | have f3 := Sat.pf (H.t.t.t) | have f3 := trivial
  first | have f4 := Sat.pf (H.t.t.t.t) | have f4 := trivial
  first | have f5 := Sat.pf (H.t.t.t.t.t) | have f5 := trivial
  first | have f6 := Sat.pf (H.t.t.t.t.t.t) | have f6 := trivial
  first | have f7 := Sat.pf (H.t.t.t.t.t.t.t) | have f7 := trivial
  have e1 : feedF (newS 4) [97, 98, 13, 10, 120, 121, 122, 13, 10, 113] = ⟨4, 0, [97, 98, 13, 10, 120, 121, 122, 13, 10, 113], 0, 0, false, false⟩ := by kernel_rfl
  have e2 : nextS ⟨4, 0, [97, 98, 13, 10, 120, 121, 122, 13, 10, 113], 0, 0, false, false⟩ = (some ⟨1, [97, 98], []⟩, ⟨4, 0, [120, 121, 122, 13, 10, 113], 0, 0, false, false⟩) := by kernel_rfl
  have e3 : bodyS ⟨4, 0, [120, 121, 122, 13, 10, 113], 0, 0, false, false⟩ 3 = (⟨4, 2, [120, 121, 122, 13, 10, 113], 3, 0, false, false⟩, 0) := by kernel_rfl
  have e4 : nextS ⟨4, 2, [120, 121, 122, 13, 10, 113], 3, 0, false, false⟩ = (some ⟨3, [], [120, 121, 122]⟩, ⟨4, 0, [113], 3, 0, false, false⟩) := by kernel_rfl
  have hm := True.intro
  have o1 := True.intro
  have o2 := True.intro
  have rcs := True.intro
  have H := H
  repeat' first
    | ((with_reducible show Need _); refine need_of ?_; (first | have f0 := Sat.pf (H) | have f0 := trivial); (first | have f1 := Sat.pf (H.t) | have f1 := trivial); (first | have f2 := Sat.pf (H.t.t) | have f2 := trivial); (first | have f3 := Sat.pf (H.t.t.t) | have f3 := trivial); (first | have f4 := Sat.pf (H.t.t.t.t) | have f4 := trivial); (first | have f5 := Sat.pf (H.t.t.t.t.t) | have f5 := trivial); (first | have f6 := Sat.pf (H.t.t.t.t.t.t) | have f6 := trivial); (first | have f7 := Sat.pf (H.t.t.t.t.t.t.t) | have f7 := trivial); (first | have rcs := rd_b2sK (Sat.rdX H.t.t) | skip))
    | simp -implicitDefEqProofs (disch := first | omega | decide | exact rfl | assumption | exact Nat.le_of_ble_eq_true rfl | exact One.c | exact One.o) only [vsA, vsB, eq_self, if_true, if_false, implies_true, false_implies, evp, HX.ev, Nat.reduceAdd, HOp.looks, Nat.reduceEqDiff, overw, Nat.reduceBEq, h9, hm, o1, o2, rcs, u8e10, va_loadA, va_ldA, ub9, f0, f1, f2, f3, f4, f5, f6, f7, frame0, List.replicate, Nat.sub]
    | (refine condK_cases (fun h => ?_) (fun h => ?_) <;> (try simp only [h]) <;> (try simp only [athA, ne_eq] at h) <;> (try (exfalso; omega)))
    | (refine guardK_cases (fun h => ?_) (fun h => ?_) <;> (try simp only [h]) <;> (try simp only [athA, ne_eq] at h) <;> (try (exfalso; omega)))
    | (clear H f0 f1 f2 f3 f4 f5 f6 f7; (with_reducible intro v2 hs H); (try simp only [setA, overw, Nat.reduceAdd] at H); refine need ?_)
    | ((with_reducible show actK _ (HAct.call (HX.cst (HV.func (Fn.func 17) _ _)) _) _ _ _ _ _); refine vcall_of ok17 rfl (new17 H 4) ?_;  intro v hs h; rw [if_neg (by decide)] at h; obtain ⟨p, rfl, H⟩ := h; refine need ?_)
    | ((with_reducible show actK _ (HAct.call (HX.cst (HV.func (Fn.func 28) _ _)) _) _ _ _ _ _); refine vcall_of ok28 rfl (clone28 H (by decide)) ?_;  clear H f0 f1 f2 f3 f4 f5 f6 f7; rintro v hs ⟨q, rfl, H⟩; have H := H.t; refine need ?_)
    | ((with_reducible show actK _ (HAct.call (HX.cst (HV.func (Fn.func 18) _ _)) _) _ _ _ _ _); refine vcall_of ok18 rfl (feedP (bs := [97, 98, 13, 10, 120, 121, 122, 13, 10, 113]) H.p1 (fun _ h => h.rd) (by decide) (by decide)) ?_;  clear H f0 f1 f2 f3 f4 f5 f6 f7; rintro _ hs H; have H := H.p1.t; rw [show (4 : Int).toNat = 4 from rfl, e1] at H; refine need ?_)
    | ((with_reducible show actK _ (HAct.call (HX.cst (HV.func (Fn.func 26) _ _)) _) _ _ _ _ _); refine vcall_of ok26 rfl (next26 H G (by decide) (by decide) (by decide) (by decide)) ?_;  clear H f0 f1 f2 f3 f4 f5 f6 f7; rintro v hs ⟨w, rfl, H⟩; rw [e2] at H; simp only [e2, itV, itB]; refine need ?_)
    | ((with_reducible show actK _ (HAct.call (HX.cst (HV.func (Fn.func 27) _ _)) _) _ _ _ _ _); refine vcall_of ok27 rfl (body27 H.p1 3 (by decide)) ?_;  clear H f0 f1 f2 f3 f4 f5 f6 f7; rintro v hs ⟨rfl, H⟩; rw [e3] at H; simp only [e3]; refine need ?_)
    | ((with_reducible show actK _ (HAct.call (HX.cst (HV.func (Fn.func 26) _ _)) _) _ _ _ _ _); refine vcall_of ok26 rfl (next26 H (fun _ h => G _ h.t.t) (by decide) (by decide) (by decide) (by decide)) ?_;  clear H f0 f1 f2 f3 f4 f5 f6 f7; rintro v hs ⟨w2, rfl, H⟩; rw [e4] at H; simp only [e4, itV]; refine need ?_)
    | ((with_reducible show actK _ (HAct.call (HX.cst (HV.func (Fn.func 14) _ _)) _) _ _ _ _ _); refine vcall_of ok14 rfl (held14 H.p1) ?_; rintro _ _ ⟨rfl, rfl⟩)
    | refine opC_K ?_
    | ((with_reducible show opC (hbuildSlice _ _ _ _ _) _); refine sl_bsliceKM H (by decide) rfl rfl (by decide) rfl rfl ?_; clear H f0 f1 f2 f3 f4 f5 f6 f7; intro y hs H hm; refine need ?_)
    | ((with_reducible show opC (unit (hstore _ _ _ _)) _); refine sl_store1 (by with_reducible first | exact H | exact H.p1 | exact H.p2 | exact H.p3 | exact H.p4 | exact H.p5 | exact H.p6 | exact H.p7) (Nat.le_of_ble_eq_true rfl) (by first | exact rfl | (simp only [f0, f1, f2, f3, f4, f5, f6, f7]; done) | (simp only [onA, *]; done)) (by first | exact rfl | (simp only [f0, f1, f2, f3, f4, f5, f6, f7]; done) | (simp only [onA, *]; done)) ?_)
    | ((with_reducible show opC (unit (hstore _ _ _ _)) _); refine sl_storeN (by with_reducible first | exact H | exact H.p1 | exact H.p2 | exact H.p3 | exact H.p4 | exact H.p5 | exact H.p6 | exact H.p7) rfl (Nat.le_of_ble_eq_true rfl) (by first | exact rfl | (simp only [f0, f1, f2, f3, f4, f5, f6, f7]; done) | (simp only [onA, *]; done)) ?_)
    | ((with_reducible show opC (hbuildSlice _ _ _ _ _) _); refine sl_bslice1 H rfl (by first | exact rfl | (simp only [f0, f1, f2, f3, f4, f5, f6, f7]; done) | (simp only [onA, *]; done)) (by first | exact rfl | (simp only [f0, f1, f2, f3, f4, f5, f6, f7]; done) | (simp only [onA, *]; done)) ?_)
    | ((with_reducible show opC (hbox _ _) _); refine sl_box1 H (by first | exact rfl | (simp only [f0, f1, f2, f3, f4, f5, f6, f7]; done) | (simp only [onA, *]; done)) (by first | exact rfl | (simp only [f0, f1, f2, f3, f4, f5, f6, f7]; done) | (simp only [onA, *]; done)) ?_)
    | ((with_reducible show opC (hbox _ _) _); refine sl_boxA H (by first | exact rfl | (simp only [f0, f1, f2, f3, f4, f5, f6, f7]; done) | (simp only [onA, *]; done)) ?_)
    | with_reducible intro hy

  all_goals first | exact absurd rfl h | exact ⟨rfl, H.t.t.t.t.t⟩ | exact H.t.t.t.t.t | exact ⟨congrArg HV.bool (by decide), H.t.t.t.t.t⟩
/-- a text up to the first end of a line in it. -/
def cutF (s : List UInt8) : List UInt8 := match lineAt s with
  | some k => s.take k
  | none => s
theorem slStr_hi {s : List UInt8} {i : Nat} (h : i ≤ s.length) : hsliceStr (.str s) none (some (.int .i64 (i : Nat))) = some (.str (s.take i)) := by
  simp only [hsliceStr, bounds_of Lo.none (Hi.some (hi := i) (k := .i64)) (Nat.zero_le _) h (Nat.le_refl _)]
  rfl
theorem cut23 {hs : HS} (s : List UInt8) (hb : s.length < 4611686018427387904) : HC Try.prog 23 [.str s] hs fun v hs' => v = .str (cutF s) ∧ hs' = hs := by
  refine HC.wp mixed Try.func23 c23 ?_
  repeat' first
    | simp -implicitDefEqProofs (disch := first | omega | decide | exact rfl | assumption | exact Nat.le_of_ble_eq_true rfl | exact One.c | exact One.o) only [vsA, vsB, eq_self, if_true, if_false, implies_true, false_implies, evp, HX.ev, Nat.reduceAdd, HOp.looks, Nat.reduceEqDiff, overw, Nat.reduceBEq, h23, ub23, frame0, List.replicate, Nat.sub]
    | (refine condK_cases (fun h => ?_) (fun h => ?_) <;> (try simp only [h]) <;> (try simp only [athA, ne_eq] at h) <;> (try (exfalso; omega)))
    | (refine guardK_cases (fun h => ?_) (fun h => ?_) <;> (try simp only [h]) <;> (try simp only [athA, ne_eq] at h) <;> (try (exfalso; omega)))

  refine HW.loopR mixed (fun i : Nat => (.str s :: .undef :: .undef :: .int .i64 (i : Nat) :: .undef :: .undef :: .undef :: .undef :: .undef :: .undef :: .undef :: .undef :: .undef :: .undef :: .undef :: .undef :: .undef :: .undef :: .undef :: .undef :: .undef :: .undef :: .undef :: .undef :: .undef :: .undef :: [])) (fun i => s.length - i) (fun i => i ≤ s.length ∧ lineAt s = (lineAt (s.drop i)).map (· + i)) 0 ⟨by omega, by simp⟩ (by (repeat first | exact Less.nil | refine Less.undef _ ?_ | refine Less.keep _ ?_)) ?_
  rintro i ⟨hi, he⟩
  by_cases h : i + 1 < s.length
  · have g1 : hindexStr (.str s) (.int .i64 (i : Nat)) = some (.int .u8 (s[i].toNat)) := vidxStr_some (List.getElem?_eq_getElem (by omega))
    have g2 : hindexStr (.str s) (.int .i64 ((i + 1 : Nat) : Int)) = some (.int .u8 (s[i + 1].toNat)) := vidxStr_some (List.getElem?_eq_getElem h)
    have g3 := slStr_hi (s := s) (i := i) (by omega)
    have hd : s.drop i = s[i] :: s.drop (i + 1) := List.drop_eq_getElem_cons (by omega)
    have hh : (s.drop (i + 1)).head? = some s[i + 1] := by rw [List.head?_drop, List.getElem?_eq_getElem h]
    repeat' first
      | simp -implicitDefEqProofs (disch := first | omega | decide | exact rfl | assumption | exact Nat.le_of_ble_eq_true rfl | exact One.c | exact One.o) only [vsA, vsB, eq_self, if_true, if_false, implies_true, false_implies, evp, HX.ev, Nat.reduceAdd, HOp.looks, Nat.reduceEqDiff, overw, Nat.reduceBEq, g1, g2, g3, u8e10, u8e13, vadd1, ub23]
      | (refine condK_cases (fun h => ?_) (fun h => ?_) <;> (try simp only [h]) <;> (try simp only [athA, ne_eq] at h) <;> (try (exfalso; omega)))
      | (refine guardK_cases (fun h => ?_) (fun h => ?_) <;> (try simp only [h]) <;> (try simp only [athA, ne_eq] at h) <;> (try (exfalso; omega)))

    · have e : lineAt s = some i := by
        rw [he, hd, lineAt, if_pos ⟨by assumption, by rw [hh]; simp [*]⟩]; simp
      unfold cutF; rw [e]
    all_goals
      refine ⟨i + 1, by omega, ⟨by omega, ?_⟩, (by (repeat first | exact Less.nil | refine Less.undef _ ?_ | refine Less.keep _ ?_))⟩
      rw [he, hd, lineAt, if_neg (by rw [hh]; simp [*])]
      cases lineAt (s.drop (i + 1)) with
      | none => rfl
      | some k => simp only [Option.map_some, Option.some.injEq]; omega
  · skip
    repeat' first
      | simp -implicitDefEqProofs (disch := first | omega | decide | exact rfl | assumption | exact Nat.le_of_ble_eq_true rfl | exact One.c | exact One.o) only [vsA, vsB, eq_self, if_true, if_false, implies_true, false_implies, evp, HX.ev, Nat.reduceAdd, HOp.looks, Nat.reduceEqDiff, overw, Nat.reduceBEq, vadd1, ub23]
      | (refine condK_cases (fun h => ?_) (fun h => ?_) <;> (try simp only [h]) <;> (try simp only [athA, ne_eq] at h) <;> (try (exfalso; omega)))
      | (refine guardK_cases (fun h => ?_) (fun h => ?_) <;> (try simp only [h]) <;> (try simp only [athA, ne_eq] at h) <;> (try (exfalso; omega)))

    have e : lineAt s = none := by
      rw [he]
      cases hl : lineAt (s.drop i) with
      | none => rfl
      | some k => have := lineAt_le hl; simp at this; omega
    unfold cutF; rw [e]

end Go.Proofs.Ytccfcegmaejlnaa
namespace Go.Proofs.Ytccfcegmaejlnaa
open Go Go.HL
set_option maxRecDepth 100000
set_option linter.unusedSimpArgs false
theorem skipL_line : ∀ (b : List UInt8) (h : Bool), (skipL h b).2.1 = true →
    (h = true ∧ b.head? = some 10 ∧ (skipL h b).2.2 = b.tail) ∨ (¬ (h = true ∧ b.head? = some 10) ∧ ∃ k, lineAt b = some k ∧ (skipL h b).2.2 = b.drop (k + 2))
  | [], h, e => by simp [skipL] at e
  | c :: r, h, e => by
    by_cases hc : h = true ∧ c = 10
    · left
      refine ⟨hc.1, by rw [hc.2]; rfl, ?_⟩
      unfold skipL
      rw [if_pos (by simp [hc])]; rfl
    · right
      have hs : skipL h (c :: r) = skipL (c == 13) r := by
        rw [skipL, if_neg]
        simp only [Bool.and_eq_true, beq_iff_eq]; exact hc
      rw [hs] at e ⊢
      refine ⟨by simpa using hc, ?_⟩
      rcases skipL_line r (c == 13) e with ⟨h1, h2, h3⟩ | ⟨h1, k, h2, h3⟩
      · refine ⟨0, ?_, ?_⟩
        · unfold lineAt; rw [if_pos ⟨by simpa using h1, h2⟩]
        · rw [h3]; simp [List.drop_one]
      · refine ⟨k + 1, ?_, ?_⟩
        · unfold lineAt
          rw [if_neg (by simpa using h1), h2]; rfl
        · rw [h3]; rfl
theorem skipL_none : ∀ (b : List UInt8) (h : Bool), (skipL h b).2.1 = false → (skipL h b).2.2 = []
  | [], h, _ => rfl
  | c :: r, h, e => by
    unfold skipL at e ⊢
    split
    · rename_i hc; rw [if_pos hc] at e; cases e
    · rename_i hc; rw [if_neg hc] at e; exact skipL_none r _ e
theorem skipL_one {b : List UInt8} {h : Bool} (e : (skipL h b).2.1 = true) : (skipL h b).2.2.length + 1 ≤ b.length := by
  rcases skipL_line b h e with ⟨_, h2, h3⟩ | ⟨_, k, h2, h3⟩
  · rw [h3]
    cases b with
    | nil => simp at h2
    | cons c r => simp
  · have := lineAt_le h2
    rw [h3, List.length_drop]; omega
theorem lineAt_take : ∀ {b : List UInt8} {k n : Nat}, lineAt b = some k → k + 2 ≤ n → lineAt (b.take n) = some k
  | [], k, n, h, _ => by simp [lineAt] at h
  | c :: r, k, 0, h, hn => by omega
  | c :: r, k, n + 1, h, hn => by
    rw [List.take_succ_cons]
    unfold lineAt at h ⊢
    split at h
    · rename_i hc
      cases h
      rw [if_pos ⟨hc.1, by
        cases r with
        | nil => simp at hc
        | cons d r =>
          cases n with
          | zero => omega
          | succ n => simpa using hc.2⟩]
    · rename_i hc
      cases hr : lineAt r with
      | none => rw [hr] at h; simp at h
      | some j =>
        rw [hr] at h
        simp only [Option.map_some, Option.some.injEq] at h
        have hj := lineAt_le hr
        rw [if_neg (by
          rintro ⟨h1, h2⟩
          refine hc ⟨h1, ?_⟩
          cases r with
          | nil => simp at hj
          | cons d r =>
            cases n with
            | zero => omega
            | succ n => simpa using h2), lineAt_take hr (by omega)]
        simp only [Option.map_some, Option.some.injEq]; exact h
theorem lineAt_before : ∀ {b : List UInt8} {k : Nat}, lineAt b = some k → lineAt (b.take k) = none
  | [], k, h => by simp [lineAt] at h
  | c :: r, 0, h => by simp [lineAt]
  | c :: r, k + 1, h => by
    rw [List.take_succ_cons]
    unfold lineAt at h ⊢
    split at h
    · simp at h
    · rename_i hc
      cases hr : lineAt r with
      | none => rw [hr] at h; simp at h
      | some j =>
        rw [hr] at h
        simp only [Option.map_some, Option.some.injEq] at h
        obtain rfl : j = k := by omega
        rw [if_neg (by
          rintro ⟨h1, h2⟩
          refine hc ⟨h1, ?_⟩
          cases r with
          | nil => simp at h2
          | cons d r =>
            cases j with
            | zero => simp at h2
            | succ n => simpa using h2), lineAt_before hr]
        rfl

/-- how an intake stands to what came, what was told, how much it may hold. -/
structure Inv (mx : Nat) (s : St) (came told bound size g : Nat) : Prop where
  st : s.st ≤ 3
  most : s.most = mx ∧ mx ≤ 65535
  size_ : s.size ≤ 4294967295 ∧ size ≤ 4294967295 ∧ s.left ≤ 4294967297
  acc : told + s.held.length + g ≤ came
  s0 : s.st = 0 → bound = 223
  s1 : s.st = 1 → bound = 223 ∧ (s.ended = false → s.held = [] ∧ 224 ≤ g) ∧ (s.ended = true → 225 ≤ g)
  s2 : s.st = 2 → s.size = size ∧ size ≤ mx ∧ bound = size + 1
  s3 : s.st = 3 → bound = 223 ∧ mx < size ∧ size + 2 ≤ g + s.left ∧ (0 < s.left → s.held = [])
variable {mx came told bound size g : Nat} {s : St}
theorem inv_new (h : 1 ≤ mx ∧ mx ≤ 65535) : Inv mx (newS mx) 0 0 223 0 0 :=
  ⟨by simp [newS], ⟨rfl, h.2⟩, by simp [newS], by simp [newS], fun _ => rfl, by simp [newS], by simp [newS], by simp [newS]⟩
theorem inv_feed (I : Inv mx s came told bound size g) (b : List UInt8) : ∃ g', Inv mx (feedF s b) (came + b.length) told bound size g' := by
  obtain ⟨h1, h2, h3, h4, h5, h6, h7, h8⟩ := I
  by_cases c1 : s.st = 1 ∧ s.ended = false
  · obtain ⟨e1, e2⟩ := c1
    rw [feedF1 e1 e2]
    obtain ⟨q1, q2, q3⟩ := h6 e1
    obtain ⟨q4, q5⟩ := q2 e2
    have ql := skipL_len s.half b
    refine ⟨g + (b.length - (skipL s.half b).2.2.length), h1, h2, h3, ?_, fun h => by simp only at h; omega, fun _ => ⟨q1, fun h => ?_, fun h => ?_⟩, fun h => by simp only at h; omega, fun h => by simp only at h; omega⟩
    · simp only [q4, List.nil_append] at h4 ⊢; simp at h4; omega
    · simp only at h
      exact ⟨by simp only [q4, List.nil_append]; exact skipL_none b _ h, by omega⟩
    · simp only at h
      have := skipL_one h
      omega
  · by_cases c3 : s.st = 3
    · rw [feedF2 c3]
      obtain ⟨q1, q2, q3, q4⟩ := h8 c3
      refine ⟨g + min s.left b.length, h1, h2, by simp only; omega, ?_, fun h => by simp only at h; omega, fun h => by simp only at h; omega, fun h => by simp only at h; omega, fun _ => ⟨q1, q2, by simp only; omega, fun h => ?_⟩⟩
      · simp only [List.length_append, List.length_drop]; omega
      · simp only at h ⊢
        rw [q4 (by omega), List.nil_append, List.drop_eq_nil_of_le (by omega)]
    · rw [feedF3 (by
        by_cases e : s.st = 1
        · right
          cases he : s.ended with
          | true => rfl
          | false => exact absurd ⟨e, he⟩ c1
        · exact .inl e) c3]
      refine ⟨g, h1, h2, h3, by simp only [List.length_append]; omega, h5, fun h => ?_, h7, fun h => absurd h c3⟩
      obtain ⟨q1, q2, q3⟩ := h6 h
      refine ⟨q1, fun h' => absurd ⟨h, h'⟩ c1, q3⟩
/-- how much an item tells. -/
def tells (size : Nat) (i : It) : Nat := if i.kind = 1 then i.text.length + 2 else if i.kind = 2 then 225 else size + 2
theorem bodyF_cases (b : List UInt8) (n : Nat) (hn : n ≤ b.length) : ((bodyF b n).1 = 3 ∧ (bodyF b n).2.length = n) ∨ (bodyF b n).1 = 5 := by
  unfold bodyF
  split
  · exact .inl ⟨rfl, by simp; omega⟩
  · exact .inr rfl
theorem inv_next (I : Inv mx s came told bound size g) :
    match nextS s with
    | (none, s') => (∃ g', Inv mx s' came told bound size g') ∧ s'.held.length ≤ bound ∧ told + s'.held.length ≤ came
    | (some i, s') => (∃ g', Inv mx s' came (told + tells size i) 223 size g') ∧ (i.kind = 1 ∧ i.text.length ≤ 222 ∧ lineAt i.text = none ∨ i.kind = 2 ∨ (i.kind = 3 ∧ i.body.length = size ∧ size ≤ mx) ∨ (i.kind = 5 ∧ size ≤ mx) ∨ (i.kind = 4 ∧ mx < size)) ∧
        2 * s'.held.length + (if s'.st = 0 then 0 else 1) < 2 * s.held.length + (if s.st = 0 then 0 else 1) := by
  obtain ⟨h1, h2, h3, h4, h5, h6, h7, h8⟩ := I
  obtain ⟨most, st, held, sz, left, half, ended⟩ := s
  simp only at h1 h2 h3 h4 h5 h6 h7 h8
  have mk0 : ∀ (hd : List UInt8) (hf en : Bool) (lf t : Nat), lf ≤ 4294967297 → t + hd.length ≤ came → Inv mx ⟨most, 0, hd, sz, lf, hf, en⟩ came t 223 size 0 := fun hd hf en lf t hl ht =>
    ⟨by simp, h2, by simp only; omega, by simpa using ht, fun _ => rfl, fun h => by simp at h, fun h => by simp at h, fun h => by simp at h⟩
  have hst : st = 0 ∨ st = 1 ∨ st = 2 ∨ st = 3 := by omega
  rcases hst with rfl | rfl | rfl | rfl
  · unfold nextS
    rw [if_pos rfl]
    simp only
    cases hln : lineAt (held.take (min 224 held.length)) with
    | some k =>
      have hk := lineAt_le hln
      rw [List.length_take] at hk
      have hb := lineAt_before hln
      rw [List.take_take, Nat.min_eq_left (by omega)] at hb
      refine ⟨⟨0, mk0 _ _ _ _ _ h3.2.2 ?_⟩, .inl ⟨rfl, by simp; omega, hb⟩, ?_⟩
      · simp [tells]; omega
      · simp; omega
    | none =>
      simp only
      by_cases hlen : held.length < 224
      · rw [if_pos hlen]
        refine ⟨⟨g, h1, h2, h3, h4, h5, h6, h7, h8⟩, ?_, by simp only; omega⟩
        rw [h5 rfl]; simp only; omega
      · rw [if_neg hlen]
        by_cases he : (skipL false held).2.1 = true
        · rw [if_pos he]
          have hc : (skipL false held).2.2.length + 225 ≤ held.length := by
            rcases skipL_line held false he with ⟨hf, _⟩ | ⟨_, k, hk1, hk2⟩
            · cases hf
            · have hle := lineAt_le hk1
              have : ¬ k + 2 ≤ 224 := fun hh => by
                have := lineAt_take hk1 (n := min 224 held.length) (by omega)
                rw [this] at hln; cases hln
              rw [hk2, List.length_drop]; omega
          refine ⟨⟨0, mk0 _ _ _ _ _ h3.2.2 ?_⟩, .inr (.inl rfl), ?_⟩
          · simp [tells]; omega
          · simp; omega
        · rw [if_neg he]
          have hn := skipL_none held false (by simpa using he)
          refine ⟨⟨held.length, by simp, h2, h3, by simp [hn]; omega, fun h => by simp at h, fun _ => ⟨h5 rfl, fun _ => ⟨hn, by omega⟩, fun h => by simp at h⟩, fun h => by simp at h, fun h => by simp at h⟩, by simp [hn], by simp [hn]; omega⟩
  · unfold nextS
    rw [if_neg (by simp), if_pos rfl]
    simp only
    obtain ⟨q1, q2, q3⟩ := h6 rfl
    cases ended with
    | true =>
      rw [if_pos rfl]
      have := q3 rfl
      exact ⟨⟨0, mk0 _ _ _ _ _ h3.2.2 (by simp [tells]; omega)⟩, .inr (.inl rfl), by simp⟩
    | false =>
      rw [if_neg (by simp)]
      have := q2 rfl
      exact ⟨⟨g, h1, h2, h3, h4, h5, h6, h7, h8⟩, by rw [this.1]; simp, by rw [this.1] at h4 ⊢; simp at h4 ⊢; omega⟩
  · unfold nextS
    rw [if_neg (by simp), if_neg (by simp), if_pos rfl]
    simp only
    obtain ⟨q1, q2, q3⟩ := h7 rfl
    by_cases hlen : held.length < sz + 2
    · rw [if_pos hlen]
      exact ⟨⟨g, h1, h2, h3, h4, h5, h6, h7, h8⟩, by simp only; omega, by simp only; omega⟩
    · rw [if_neg hlen]
      have bc := bodyF_cases (held.take (sz + 2)) sz (by simp; omega)
      refine ⟨⟨0, mk0 _ _ _ _ _ h3.2.2 ?_⟩, ?_, ?_⟩
      · have : tells size ⟨(bodyF (held.take (sz + 2)) sz).1, [], (bodyF (held.take (sz + 2)) sz).2⟩ = size + 2 := by
          unfold tells
          simp only
          rcases bc with ⟨e, _⟩ | e <;> rw [e] <;> rfl
        rw [this]; simp only [List.length_drop]; omega
      · rcases bc with ⟨e, e2⟩ | e
        · exact .inr (.inr (.inl ⟨e, by simp only; omega, q2⟩))
        · exact .inr (.inr (.inr (.inl ⟨e, q2⟩)))
      · simp; omega
  · unfold nextS
    rw [if_neg (by simp), if_neg (by simp), if_neg (by simp)]
    simp only
    obtain ⟨q1, q2, q3, q4⟩ := h8 rfl
    by_cases hl : 0 < left
    · rw [if_pos hl]
      have := q4 hl
      exact ⟨⟨g, h1, h2, h3, h4, h5, h6, h7, h8⟩, by rw [this]; simp, by rw [this] at h4 ⊢; simp at h4 ⊢; omega⟩
    · rw [if_neg hl]
      exact ⟨⟨0, mk0 _ _ _ _ _ h3.2.2 (by simp [tells]; omega)⟩, .inr (.inr (.inr (.inr ⟨rfl, q2⟩))), by simp⟩
theorem inv_body (I : Inv mx s came told bound size g) (n : Int) : if (bodyS s n).2 = 0 then 0 ≤ n ∧ n ≤ 4294967295 ∧ ∃ g', Inv mx (bodyS s n).1 came told (if n ≤ (mx : Nat) then n.toNat + 1 else 223) n.toNat g' else (bodyS s n).1 = s := by
  obtain ⟨h1, h2, h3, h4, h5, h6, h7, h8⟩ := I
  unfold bodyS
  by_cases c : n < 0 ∨ 4294967295 < n ∨ s.st ≠ 0
  · rw [if_pos c, if_neg (by simp)]
  · rw [if_neg c]
    have c0 : s.st = 0 := by omega
    by_cases c2 : n ≤ (s.most : Nat)
    · rw [if_pos c2, if_pos rfl, if_pos (by rw [← h2.1]; exact c2)]
      refine ⟨by omega, by omega, g, by simp, h2, by simp only; omega, h4, fun h => by simp at h, fun h => by simp at h, fun _ => ⟨rfl, by omega, rfl⟩, fun h => by simp at h⟩
    · rw [if_neg c2, if_pos rfl, if_neg (by rw [← h2.1]; exact c2)]
      refine ⟨by omega, by omega, g + min (n.toNat + 2) s.held.length, by simp, h2, by simp only; omega, by simp only [List.length_drop]; omega, fun h => by simp at h, fun h => by simp at h, fun h => by simp at h, fun _ => ⟨rfl, by omega, by simp only; omega, fun h => ?_⟩⟩
      simp only at h ⊢
      exact List.drop_eq_nil_of_le (by omega)
end Go.Proofs.Ytccfcegmaejlnaa
namespace Go.Proofs.Ytccfcegmaejlnaa
open Go Go.HL
set_option maxRecDepth 100000
set_option maxHeartbeats 40000000
set_option linter.unusedSimpArgs false
attribute [local irreducible] pt My Ex Vw Gr GrK each grp exs Sat takeCells happend hbuildSlice hstore hbox hslice hmakeSlice hs2b hcopy HL.unit opC
theorem skipL_app1 : ∀ (a b : List UInt8) (h : Bool), (skipL h a).2.1 = true → skipL h (a ++ b) = ((skipL h a).1, true, (skipL h a).2.2 ++ b)
  | [], b, h, e => by simp [skipL] at e
  | c :: a, b, h, e => by
    rw [List.cons_append]
    unfold skipL at e ⊢
    split
    · rfl
    · rename_i hc
      rw [if_neg hc] at e
      exact skipL_app1 a b _ e
theorem skipL_app0 : ∀ (a b : List UInt8) (h : Bool), (skipL h a).2.1 = false → skipL h (a ++ b) = skipL (skipL h a).1 b
  | [], b, h, e => rfl
  | c :: a, b, h, e => by
    rw [List.cons_append]
    have h1 : skipL h (c :: (a ++ b)) = if (h && c == 10) = true then (h, true, a ++ b) else skipL (c == 13) (a ++ b) := rfl
    have h2 : skipL h (c :: a) = if (h && c == 10) = true then (h, true, a) else skipL (c == 13) a := rfl
    rw [h2] at e ⊢
    rw [h1]
    split
    · rename_i hc
      rw [if_pos hc] at e; cases e
    · rename_i hc
      rw [if_neg hc] at e
      exact skipL_app0 a b _ e
/-- how bytes are cut is not seen. -/
theorem feed_app (s : St) (a b : List UInt8) : feedF (feedF s a) b = feedF s (a ++ b) := by
  by_cases c1 : s.st = 1 ∧ s.ended = false
  · obtain ⟨e1, e2⟩ := c1
    rw [feedF1 (s := s) (bs := a) e1 e2, feedF1 (s := s) (bs := a ++ b) e1 e2]
    cases he : (skipL s.half a).2.1 with
    | true =>
      rw [feedF3 (.inr rfl) (by simp only; omega), skipL_app1 a b s.half he]
      simp
    | false =>
      have e3 := feedF1 (s := { s with half := (skipL s.half a).1, ended := false, held := s.held ++ (skipL s.half a).2.2 }) (bs := b) e1 rfl
      rw [e3, skipL_app0 a b s.half he, skipL_none a s.half he]
      simp
  · by_cases c3 : s.st = 3
    · have e0 := feedF2 (s := s) (bs := a) c3
      have e1 := feedF2 (s := s) (bs := a ++ b) c3
      have e2 := feedF2 (s := { s with left := s.left - min s.left a.length, held := s.held ++ a.drop (min s.left a.length) }) (bs := b) c3
      rw [e0, e1, e2]
      simp only [List.length_append]
      congr 1
      · rw [List.append_assoc]
        congr 1
        rw [List.drop_append]
        congr 1
        · by_cases hl : s.left ≤ a.length
          · rw [Nat.min_eq_left hl, Nat.min_eq_left (by omega)]
          · rw [List.drop_eq_nil_of_le (by omega), List.drop_eq_nil_of_le (by omega)]
        · congr 1; omega
      · omega
    · have h3 : s.st ≠ 1 ∨ s.ended = true := by
        by_cases e : s.st = 1
        · right
          cases he : s.ended with
          | true => rfl
          | false => exact absurd ⟨e, he⟩ c1
        · exact .inl e
      have e0 := feedF3 (s := s) (bs := a) h3 c3
      have e1 := feedF3 (s := s) (bs := a ++ b) h3 c3
      have e2 := feedF3 (s := { s with held := s.held ++ a }) (bs := b) h3 c3
      rw [e0, e1, e2]
      simp
theorem feed_len (s : St) (b : List UInt8) : (feedF s b).held.length ≤ s.held.length + b.length ∧ (feedF s b).left ≤ s.left ∧ (feedF s b).st = s.st ∧ (feedF s b).size = s.size := by
  unfold feedF
  split
  · have := skipL_len s.half b
    simp only [List.length_append, and_true, true_and]
    omega
  · split
    · simp only [List.length_append, List.length_drop]
      simp only [and_true]
      omega
    · simp

theorem alike21 {hs : HS} {l : List SA} {k k' : Int} {t t' x y : List UInt8} {va vb : HV} (H : Sat hs l) (A : Rdl l va x.length (bcells x)) (B : Rdl l vb y.length (bcells y)) (hx : x.length < 4611686018427387904) :
    HC Try.prog 21 [.agg [.int .i64 k, .str t, va], .agg [.int .i64 k', .str t', vb]] hs fun v hs' => v = .bool (decide (k = k') && (t == t') && (x == y)) ∧ Sat hs' l := by
  have a1 := (A _ H).one
  have b1 := (B _ H).one
  refine HC.wp mixed Try.func21 c21 ?_
  first | have f0 := Sat.pf (H) | have f0 := trivial
  first | have f1 := Sat.pf (H.t) | have f1 := trivial
  first | have f2 := Sat.pf (H.t.t) | have f2 := trivial
  first | have f3 := Sat.pf (H.t.t.t) | have f3 := trivial
  first | have f4 := Sat.pf (H.t.t.t.t) | have f4 := trivial
  first | have f5 := Sat.pf (H.t.t.t.t.t) | have f5 := trivial
  first | have f6 := Sat.pf (H.t.t.t.t.t.t) | have f6 := trivial
  first | have f7 := Sat.pf (H.t.t.t.t.t.t.t) | have f7 := trivial
  repeat' first
    | ((with_reducible show Need _); refine need_of ?_; (first | have f0 := Sat.pf (H) | have f0 := trivial); (first | have f1 := Sat.pf (H.t) | have f1 := trivial); (first | have f2 := Sat.pf (H.t.t) | have f2 := trivial); (first | have f3 := Sat.pf (H.t.t.t) | have f3 := trivial); (first | have f4 := Sat.pf (H.t.t.t.t) | have f4 := trivial); (first | have f5 := Sat.pf (H.t.t.t.t.t) | have f5 := trivial); (first | have f6 := Sat.pf (H.t.t.t.t.t.t) | have f6 := trivial); (first | have f7 := Sat.pf (H.t.t.t.t.t.t.t) | have f7 := trivial))
    | simp -implicitDefEqProofs (disch := first | omega | decide | exact rfl | assumption | exact Nat.le_of_ble_eq_true rfl | exact One.c | exact One.o) only [vsA, vsB, eq_self, if_true, if_false, implies_true, false_implies, evp, HX.ev, Nat.reduceAdd, HOp.looks, Nat.reduceEqDiff, overw, Nat.reduceBEq, h21, a1, b1, ub21, f0, f1, f2, f3, f4, f5, f6, f7, frame0, List.replicate, Nat.sub]
    | (refine condK_cases (fun h => ?_) (fun h => ?_) <;> (try simp only [h]) <;> (try simp only [athA, ne_eq] at h) <;> (try (exfalso; omega)))
    | (refine guardK_cases (fun h => ?_) (fun h => ?_) <;> (try simp only [h]) <;> (try simp only [athA, ne_eq] at h) <;> (try (exfalso; omega)))
    | (clear H f0 f1 f2 f3 f4 f5 f6 f7; (with_reducible intro v2 hs H); (try simp only [setA, overw, Nat.reduceAdd] at H); refine need ?_)
    | ((with_reducible show actK _ (HAct.call (HX.cst (HV.func (Fn.func 33) _ _)) _) _ _ _ _ _); refine vcall_of ok33 rfl (same33 (A _ H.t.t) (B _ H.t.t) hx) ?_; rintro _ _ ⟨rfl, rfl⟩)
    | refine opC_K ?_
    | ((with_reducible show opC (hbox _ _) _); refine sl_box1 H (by first | exact rfl | (simp only [f0, f1, f2, f3, f4, f5, f6, f7]; done) | (simp only [onA, *]; done)) (by first | exact rfl | (simp only [f0, f1, f2, f3, f4, f5, f6, f7]; done) | (simp only [onA, *]; done)) ?_)
    | ((with_reducible show opC (hbox _ _) _); refine sl_boxA H (by first | exact rfl | (simp only [f0, f1, f2, f3, f4, f5, f6, f7]; done) | (simp only [onA, *]; done)) ?_)
    | with_reducible intro hy

  all_goals exact ⟨congrArg HV.bool (by simp [*]), H.t.t⟩
end Go.Proofs.Ytccfcegmaejlnaa
