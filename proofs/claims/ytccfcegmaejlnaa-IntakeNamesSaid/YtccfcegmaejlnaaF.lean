import Derived.Test.YtccfcegmaejlnaaHLFun
import Derived.Test.YtccfcegmaejlnaaProg
import Derived.KernelRfl
/- The functions, turned (written by program, each checked by the kernel). -/
namespace Go.Proofs.Ytccfcegmaejlnaa
open Go Go.HL
/-- stint/stintlaw06.IntakeNames -/
def h7 : HFn :=
  ⟨22, [(.tmp 0)],
    (.seq (.region [
      ⟨(some 0), (.op (.mv (.cst (.bool false)))), none⟩] [])
    (.seq (.region [
      ⟨(some 1), (.call (.cst (.func (.func 9) [] [])) []), none⟩,
      ⟨(some 2), (.op (.mv (.tmp 1))), none⟩,
      ⟨(some 3), (.op (.pick (.tmp 2) (.cst (.bool true)) (.cst (.bool false)))), none⟩,
      ⟨(some 4), (.op (.mv (.tmp 3))), none⟩,
      ⟨(some 5), (.op (.pick (.tmp 4) (.cst (.bool true)) (.cst (.bool false)))), none⟩,
      ⟨(some 6), (.op (.mv (.tmp 5))), none⟩,
      ⟨(some 7), (.op (.pick (.tmp 6) (.cst (.bool true)) (.cst (.bool false)))), none⟩,
      ⟨(some 8), (.op (.mv (.tmp 7))), none⟩,
      ⟨(some 9), (.op (.pick (.tmp 8) (.cst (.bool true)) (.cst (.bool false)))), none⟩,
      ⟨(some 10), (.op (.mv (.tmp 9))), none⟩,
      ⟨(some 11), (.op (.pick (.tmp 10) (.cst (.bool true)) (.cst (.bool false)))), none⟩,
      ⟨(some 12), (.op (.mv (.tmp 11))), none⟩,
      ⟨(some 13), (.op (.pick (.tmp 12) (.cst (.bool true)) (.cst (.bool false)))), none⟩,
      ⟨(some 14), (.op (.mv (.tmp 13))), none⟩,
      ⟨(some 15), (.op (.pick (.tmp 14) (.cst (.bool true)) (.cst (.bool false)))), none⟩,
      ⟨(some 16), (.op (.mv (.tmp 15))), none⟩,
      ⟨(some 17), (.op (.pick (.tmp 16) (.cst (.bool true)) (.cst (.bool false)))), none⟩,
      ⟨(some 18), (.op (.mv (.tmp 17))), none⟩,
      ⟨(some 19), (.op (.pick (.tmp 18) (.cst (.bool true)) (.cst (.bool false)))), none⟩,
      ⟨(some 20), (.op (.mv (.tmp 19))), none⟩,
      ⟨(some 21), (.op (.pick (.tmp 20) (.cst (.bool true)) (.cst (.bool false)))), none⟩,
      ⟨(some 0), (.op (.mv (.tmp 21))), none⟩] [])
    .ret))⟩
theorem c7 : cFn Try.prog [] Try.f7 = some h7 := by kernel_rfl
/-- stint/stintlaw06.shown -/
def h9 : HFn :=
  ⟨73, [(.tmp 0)],
    (.seq (.region [
      ⟨(some 0), (.op (.mv (.cst (.bool false)))), none⟩] [])
    (.seq (.region [
      ⟨(some 9), (.call (.cst (.func (.func 17) [] [])) [(.cst (.int .i64 4))]), none⟩,
      ⟨(some 8), (.op (.mv (.tmp 9))), none⟩,
      ⟨(some 10), (.op (.ext 0 (.tmp 8))), none⟩,
      ⟨(some 11), (.op (.ext 1 (.tmp 8))), none⟩,
      ⟨(some 1), (.op (.mv (.tmp 10))), none⟩,
      ⟨(some 2), (.op (.mv (.tmp 11))), none⟩] [])
    (.seq (.seq (.region [
      ⟨(some 12), (.op (.mv (.tmp 2))), none⟩,
      ⟨(some 13), (.op (.bin .neq (some .int) (.tmp 12) (.cst (.int .i64 0)))), none⟩,
      ⟨(some 14), (.op (.mv (.tmp 13))), none⟩,
      ⟨(some 15), (.op (.mv (.tmp 1))), (some (14, false))⟩,
      ⟨(some 16), (.op (.bin .eql (some .ptr) (.tmp 15) (.cst .nilPtr))), (some (14, false))⟩,
      ⟨(some 17), (.op (.pick (.tmp 14) (.cst (.bool true)) (.tmp 16))), none⟩,
      ⟨(some 18), (.op (.mv (.tmp 17))), none⟩,
      ⟨(some 19), (.op (.mv (.tmp 1))), (some (18, false))⟩,
      ⟨(some 20), (.call (.cst (.func (.func 28) [] [])) [(.tmp 19)]), (some (18, false))⟩,
      ⟨(some 21), (.op (.bin .eql (some .ptr) (.tmp 20) (.cst .nilPtr))), (some (18, false))⟩,
      ⟨(some 22), (.op (.pick (.tmp 18) (.cst (.bool true)) (.tmp 21))), none⟩] [])
    (.cond (.tmp 22)
      (.seq (.region [
        ⟨(some 0), (.op (.mv (.cst (.bool false)))), none⟩] [])
      .ret)
      .skip))
    (.seq (.region [
      ⟨(some 23), (.op (.mv (.tmp 1))), none⟩,
      ⟨(some 24), (.op (.bslice 1 10 [(.int .u8 0), (.int .u8 0), (.int .u8 0), (.int .u8 0), (.int .u8 0), (.int .u8 0), (.int .u8 0), (.int .u8 0), (.int .u8 0), (.int .u8 0)] [(0, 1, (.cst (.int .u8 97))), (1, 1, (.cst (.int .u8 98))), (2, 1, (.cst (.int .u8 13))), (3, 1, (.cst (.int .u8 10))), (4, 1, (.cst (.int .u8 120))), (5, 1, (.cst (.int .u8 121))), (6, 1, (.cst (.int .u8 122))), (7, 1, (.cst (.int .u8 13))), (8, 1, (.cst (.int .u8 10))), (9, 1, (.cst (.int .u8 113)))])), none⟩,
      ⟨(some 25), (.op (.mark (.tmp 24))), none⟩,
      ⟨(some 26), (.call (.cst (.func (.func 18) [] [])) [(.tmp 23), (.tmp 25)]), none⟩] [])
    (.seq (.region [
      ⟨(some 28), (.op (.mv (.tmp 1))), none⟩,
      ⟨(some 29), (.call (.cst (.func (.func 26) [] [])) [(.tmp 28)]), none⟩,
      ⟨(some 27), (.op (.mv (.tmp 29))), none⟩,
      ⟨(some 30), (.op (.ext 0 (.tmp 27))), none⟩,
      ⟨(some 31), (.op (.ext 1 (.tmp 27))), none⟩,
      ⟨(some 3), (.op (.box (.cst (.agg [(.int .i64 0), (.str []), .nilSlice])))), none⟩,
      ⟨none, (.op (.store 3 (.tmp 3) (.tmp 30))), none⟩,
      ⟨(some 4), (.op (.mv (.tmp 31))), none⟩] [])
    (.seq (.region [
      ⟨(some 32), (.op (.mv (.tmp 1))), none⟩,
      ⟨(some 33), (.call (.cst (.func (.func 27) [] [])) [(.tmp 32), (.cst (.int .i64 3))]), none⟩,
      ⟨(some 5), (.op (.mv (.tmp 33))), none⟩] [])
    (.seq (.region [
      ⟨(some 35), (.op (.mv (.tmp 1))), none⟩,
      ⟨(some 36), (.call (.cst (.func (.func 26) [] [])) [(.tmp 35)]), none⟩,
      ⟨(some 34), (.op (.mv (.tmp 36))), none⟩,
      ⟨(some 37), (.op (.ext 0 (.tmp 34))), none⟩,
      ⟨(some 38), (.op (.ext 1 (.tmp 34))), none⟩,
      ⟨(some 6), (.op (.box (.cst (.agg [(.int .i64 0), (.str []), .nilSlice])))), none⟩,
      ⟨none, (.op (.store 3 (.tmp 6) (.tmp 37))), none⟩,
      ⟨(some 7), (.op (.mv (.tmp 38))), none⟩] [])
    (.seq (.region [
      ⟨(some 39), (.op (.mv (.tmp 4))), none⟩,
      ⟨(some 40), (.op (.mv (.tmp 39))), none⟩,
      ⟨(some 41), (.op (.faddr 0 (.tmp 3))), (some (40, true))⟩,
      ⟨(some 42), (.op (.load none (.tmp 41))), (some (40, true))⟩,
      ⟨(some 43), (.op (.bin .eql (some .int) (.tmp 42) (.cst (.int .i64 1)))), (some (40, true))⟩,
      ⟨(some 44), (.op (.pick (.tmp 40) (.tmp 43) (.cst (.bool false)))), none⟩,
      ⟨(some 45), (.op (.mv (.tmp 44))), none⟩,
      ⟨(some 46), (.op (.faddr 1 (.tmp 3))), (some (45, true))⟩,
      ⟨(some 47), (.op (.load none (.tmp 46))), (some (45, true))⟩,
      ⟨(some 48), (.op (.bin .eql (some .str) (.tmp 47) (.cst (.str [97, 98])))), (some (45, true))⟩,
      ⟨(some 49), (.op (.pick (.tmp 45) (.tmp 48) (.cst (.bool false)))), none⟩,
      ⟨(some 50), (.op (.mv (.tmp 49))), none⟩,
      ⟨(some 51), (.op (.mv (.tmp 5))), (some (50, true))⟩,
      ⟨(some 52), (.op (.bin .eql (some .int) (.tmp 51) (.cst (.int .i64 0)))), (some (50, true))⟩,
      ⟨(some 53), (.op (.pick (.tmp 50) (.tmp 52) (.cst (.bool false)))), none⟩,
      ⟨(some 54), (.op (.mv (.tmp 53))), none⟩,
      ⟨(some 55), (.op (.mv (.tmp 7))), (some (54, true))⟩,
      ⟨(some 56), (.op (.pick (.tmp 54) (.tmp 55) (.cst (.bool false)))), none⟩,
      ⟨(some 57), (.op (.mv (.tmp 56))), none⟩,
      ⟨(some 58), (.op (.faddr 0 (.tmp 6))), (some (57, true))⟩,
      ⟨(some 59), (.op (.load none (.tmp 58))), (some (57, true))⟩,
      ⟨(some 60), (.op (.bin .eql (some .int) (.tmp 59) (.cst (.int .i64 3)))), (some (57, true))⟩,
      ⟨(some 61), (.op (.pick (.tmp 57) (.tmp 60) (.cst (.bool false)))), none⟩,
      ⟨(some 62), (.op (.mv (.tmp 61))), none⟩,
      ⟨(some 63), (.op (.faddr 2 (.tmp 6))), (some (62, true))⟩,
      ⟨(some 64), (.op (.load none (.tmp 63))), (some (62, true))⟩,
      ⟨(some 65), (.op (.b2s (.tmp 64))), (some (62, true))⟩,
      ⟨(some 66), (.op (.bin .eql (some .str) (.tmp 65) (.cst (.str [120, 121, 122])))), (some (62, true))⟩,
      ⟨(some 67), (.op (.pick (.tmp 62) (.tmp 66) (.cst (.bool false)))), none⟩,
      ⟨(some 68), (.op (.mv (.tmp 67))), none⟩,
      ⟨(some 69), (.op (.mv (.tmp 1))), (some (68, true))⟩,
      ⟨(some 70), (.call (.cst (.func (.func 14) [] [])) [(.tmp 69)]), (some (68, true))⟩,
      ⟨(some 71), (.op (.bin .eql (some .int) (.tmp 70) (.cst (.int .i64 1)))), (some (68, true))⟩,
      ⟨(some 72), (.op (.pick (.tmp 68) (.tmp 71) (.cst (.bool false)))), none⟩,
      ⟨(some 0), (.op (.mv (.tmp 72))), none⟩] [])
    .ret))))))))⟩
theorem c9 : cFn Try.prog [] Try.f9 = some h9 := by kernel_rfl
/-- (*stint/intake.Intake).Held -/
def h14 : HFn :=
  ⟨8, [(.tmp 2)],
    (.seq (.region [
      ⟨(some 2), (.op (.mv (.cst (.int .i64 0)))), none⟩] [])
    (.seq (.region [
      ⟨(some 3), (.op (.mv (.tmp 0))), none⟩,
      ⟨(some 4), (.op (.nilc (.tmp 3))), none⟩,
      ⟨(some 5), (.op (.faddr 2 (.tmp 4))), none⟩,
      ⟨(some 6), (.op (.load none (.tmp 5))), none⟩,
      ⟨(some 7), (.op (.len .slice (.tmp 6))), none⟩,
      ⟨(some 2), (.op (.mv (.tmp 7))), none⟩] [])
    .ret))⟩
theorem c14 : cFn Try.prog [] Try.f14 = some h14 := by kernel_rfl
/-- stint/intake.New -/
def h17 : HFn :=
  ⟨13, [(.tmp 2), (.tmp 3)],
    (.seq (.region [
      ⟨(some 2), (.op (.mv (.cst .nilPtr))), none⟩,
      ⟨(some 3), (.op (.mv (.cst (.int .i64 0)))), none⟩] [])
    (.seq (.seq (.region [
      ⟨(some 4), (.op (.mv (.tmp 0))), none⟩,
      ⟨(some 5), (.op (.bin .lss none (.tmp 4) (.cst (.int .i64 1)))), none⟩,
      ⟨(some 6), (.op (.mv (.tmp 5))), none⟩,
      ⟨(some 7), (.op (.mv (.tmp 0))), (some (6, false))⟩,
      ⟨(some 8), (.op (.bin .gtr none (.tmp 7) (.cst (.int .i64 65535)))), (some (6, false))⟩,
      ⟨(some 9), (.op (.pick (.tmp 6) (.cst (.bool true)) (.tmp 8))), none⟩] [])
    (.cond (.tmp 9)
      (.seq (.region [
        ⟨(some 2), (.op (.mv (.cst .nilPtr))), none⟩,
        ⟨(some 3), (.op (.mv (.cst (.int .i64 60)))), none⟩] [])
      .ret)
      .skip))
    (.seq (.region [
      ⟨(some 10), (.op (.mv (.tmp 0))), none⟩,
      ⟨(some 11), (.op (.build [(.int .i64 0), (.int .i64 0), .nilSlice, (.int .i64 0), (.int .i64 0), (.bool false), (.bool false)] [(0, 1, (.tmp 10))])), none⟩,
      ⟨(some 12), (.op (.box (.tmp 11))), none⟩,
      ⟨(some 2), (.op (.mv (.tmp 12))), none⟩,
      ⟨(some 3), (.op (.mv (.cst (.int .i64 0)))), none⟩] [])
    .ret)))⟩
theorem c17 : cFn Try.prog [] Try.f17 = some h17 := by kernel_rfl
/-- (*stint/intake.Intake).Feed -/
def h18 : HFn :=
  ⟨38, [],
    (.seq (.block 0
      (.seq (.region [
        ⟨(some 5), (.op (.mv (.tmp 0))), none⟩,
        ⟨(some 6), (.op (.nilc (.tmp 5))), none⟩,
        ⟨(some 7), (.op (.faddr 1 (.tmp 6))), none⟩,
        ⟨(some 8), (.op (.load none (.tmp 7))), none⟩,
        ⟨(some 9), (.op (.bin .eql (some .int) (.tmp 8) (.cst (.int .i64 1)))), none⟩,
        ⟨(some 10), (.op (.mv (.tmp 9))), none⟩,
        ⟨(some 11), (.op (.mv (.tmp 0))), (some (10, true))⟩,
        ⟨(some 12), (.op (.nilc (.tmp 11))), (some (10, true))⟩,
        ⟨(some 13), (.op (.faddr 6 (.tmp 12))), (some (10, true))⟩,
        ⟨(some 14), (.op (.load none (.tmp 13))), (some (10, true))⟩,
        ⟨(some 15), (.op (.un .not (.tmp 14))), (some (10, true))⟩,
        ⟨(some 16), (.op (.pick (.tmp 10) (.tmp 15) (.cst (.bool false)))), none⟩,
        ⟨(some 4), (.op (.mv (.tmp 16))), none⟩] [])
      (.cond (.tmp 4)
        (.region [
          ⟨(some 17), (.op (.mv (.tmp 0))), none⟩,
          ⟨(some 18), (.op (.mv (.tmp 1))), none⟩,
          ⟨(some 19), (.call (.cst (.func (.func 36) [] [])) [(.tmp 17), (.tmp 18)]), none⟩,
          ⟨(some 1), (.op (.mv (.tmp 19))), none⟩] [])
        (.seq (.region [
          ⟨(some 21), (.op (.mv (.tmp 0))), none⟩,
          ⟨(some 22), (.op (.nilc (.tmp 21))), none⟩,
          ⟨(some 23), (.op (.faddr 1 (.tmp 22))), none⟩,
          ⟨(some 24), (.op (.load none (.tmp 23))), none⟩,
          ⟨(some 25), (.op (.bin .eql (some .int) (.tmp 24) (.cst (.int .i64 3)))), none⟩,
          ⟨(some 20), (.op (.mv (.tmp 25))), none⟩] [])
        (.cond (.tmp 20)
          (.region [
            ⟨(some 26), (.op (.mv (.tmp 0))), none⟩,
            ⟨(some 27), (.op (.mv (.tmp 1))), none⟩,
            ⟨(some 28), (.call (.cst (.func (.func 37) [] [])) [(.tmp 26), (.tmp 27)]), none⟩,
            ⟨(some 1), (.op (.mv (.tmp 28))), none⟩] [])
          .skip)))))
    (.region [
      ⟨(some 29), (.op (.mv (.tmp 0))), none⟩,
      ⟨(some 30), (.op (.mv (.tmp 0))), none⟩,
      ⟨(some 31), (.op (.nilc (.tmp 30))), none⟩,
      ⟨(some 32), (.op (.faddr 2 (.tmp 31))), none⟩,
      ⟨(some 33), (.op (.load none (.tmp 32))), none⟩,
      ⟨(some 34), (.op (.mv (.tmp 1))), none⟩,
      ⟨(some 35), (.op (.append 1 1 (.tmp 33) (.tmp 34))), none⟩,
      ⟨(some 36), (.op (.nilc (.tmp 29))), none⟩,
      ⟨(some 37), (.op (.faddr 2 (.tmp 36))), none⟩,
      ⟨none, (.op (.store 1 (.tmp 37) (.tmp 35))), none⟩] []))⟩
theorem c18 : cFn Try.prog [] Try.f18 = some h18 := by kernel_rfl
/-- (*stint/intake.Intake).Next -/
def h26 : HFn :=
  ⟨104, [(.cell 2 (some 3)), (.tmp 3)],
    (.seq (.region [
      ⟨(some 2), (.op (.box (.cst (.agg [(.int .i64 0), (.str []), .nilSlice])))), none⟩,
      ⟨(some 3), (.op (.mv (.cst (.bool false)))), none⟩] [])
    (.scope
      (.seq (.region [
        ⟨(some 4), (.op (.box (.cst (.agg [(.int .i64 0), (.str []), .nilSlice])))), none⟩] [])
      (.seq .lab
      (.seq (.block 0
        (.loop
          (.block 1
            (.seq (.region [
              ⟨(some 6), (.op (.mv (.tmp 0))), none⟩,
              ⟨(some 7), (.op (.nilc (.tmp 6))), none⟩,
              ⟨(some 8), (.op (.faddr 1 (.tmp 7))), none⟩,
              ⟨(some 9), (.op (.load none (.tmp 8))), none⟩] [])
            (.block 2
              (.seq (.region [
                ⟨(some 11), (.op (.bin .eql (some .int) (.tmp 9) (.cst (.int .i64 0)))), none⟩,
                ⟨(some 10), (.op (.mv (.tmp 11))), none⟩] [])
              (.cond (.tmp 10)
                (.seq (.seq (.draw [
                  ⟨(some 12), (.op (.mv (.tmp 0))), none⟩,
                  ⟨(some 13), (.op (.nilc (.tmp 12))), none⟩,
                  ⟨(some 14), (.op (.faddr 2 (.tmp 13))), none⟩,
                  ⟨(some 15), (.op (.load none (.tmp 14))), none⟩,
                  ⟨(some 16), (.op (.mv (.tmp 0))), none⟩,
                  ⟨(some 17), (.op (.nilc (.tmp 16))), none⟩,
                  ⟨(some 18), (.op (.faddr 2 (.tmp 17))), none⟩,
                  ⟨(some 19), (.op (.load none (.tmp 18))), none⟩,
                  ⟨(some 20), (.op (.len .slice (.tmp 19))), none⟩,
                  ⟨(some 21), (.op (.minmax true [(.cst (.int .i64 224)), (.tmp 20)])), none⟩,
                  ⟨(some 22), (.op (.sliceSl 1 (.tmp 15) none (some (.tmp 21)) none)), none⟩,
                  ⟨(some 23), (.op (.bslice 1 2 [(.int .u8 0), (.int .u8 0)] [(0, 1, (.cst (.int .u8 13))), (1, 1, (.cst (.int .u8 10)))])), none⟩,
                  ⟨(some 24), (.call (.cst (.func (.func 38) [] [])) [(.tmp 22), (.tmp 23)]), none⟩,
                  ⟨(some 5), (.op (.mv (.tmp 24))), none⟩] [0, 1, 2, 3, 4, 5, 6, 7, 8, 9, 10, 11, 12, 13] [[], [], [], [], [], [], [], [], [], [], [], [], [10, 3, 8, 7], []] [])
                (.seq (.region [
                  ⟨(some 25), (.op (.mv (.tmp 5))), none⟩,
                  ⟨(some 26), (.op (.bin .geq none (.tmp 25) (.cst (.int .i64 0)))), none⟩] [])
                (.cond (.tmp 26)
                  (.seq (.region [
                    ⟨(some 27), (.op (.mv (.tmp 0))), none⟩,
                    ⟨(some 28), (.op (.mv (.tmp 5))), none⟩,
                    ⟨(some 29), (.op (.bin .add none (.tmp 28) (.cst (.int .i64 2)))), none⟩,
                    ⟨(some 30), (.call (.cst (.func (.func 39) [] [])) [(.tmp 27), (.tmp 29)]), none⟩,
                    ⟨(some 31), (.op (.mv (.tmp 5))), none⟩,
                    ⟨(some 32), (.op (.sliceSl 1 (.tmp 30) none (some (.tmp 31)) none)), none⟩,
                    ⟨(some 33), (.op (.b2s (.tmp 32))), none⟩,
                    ⟨(some 34), (.op (.build [(.int .i64 0), (.str []), .nilSlice] [(0, 1, (.cst (.int .i64 1))), (1, 1, (.tmp 33))])), none⟩,
                    ⟨none, (.op (.store 3 (.tmp 4) (.tmp 34))), none⟩] [])
                  (.exit 0))
                  .skip)))
                (.seq (.seq (.region [
                  ⟨(some 35), (.op (.mv (.tmp 0))), none⟩,
                  ⟨(some 36), (.op (.nilc (.tmp 35))), none⟩,
                  ⟨(some 37), (.op (.faddr 2 (.tmp 36))), none⟩,
                  ⟨(some 38), (.op (.load none (.tmp 37))), none⟩,
                  ⟨(some 39), (.op (.len .slice (.tmp 38))), none⟩,
                  ⟨(some 40), (.op (.bin .lss none (.tmp 39) (.cst (.int .i64 224)))), none⟩] [])
                (.cond (.tmp 40)
                  (.seq (.region [
                    ⟨(some 41), (.op (.build [(.int .i64 0), (.str []), .nilSlice] [])), none⟩,
                    ⟨none, (.op (.store 3 (.tmp 2) (.tmp 41))), none⟩,
                    ⟨(some 3), (.op (.mv (.cst (.bool false)))), none⟩] [])
                  .ret)
                  .skip))
                (.seq (.region [
                  ⟨(some 42), (.op (.mv (.tmp 0))), none⟩,
                  ⟨(some 43), (.op (.mv (.tmp 0))), none⟩,
                  ⟨(some 44), (.op (.mv (.tmp 0))), none⟩,
                  ⟨(some 45), (.op (.nilc (.tmp 42))), none⟩,
                  ⟨(some 46), (.op (.faddr 1 (.tmp 45))), none⟩,
                  ⟨none, (.op (.store 1 (.tmp 46) (.cst (.int .i64 1)))), none⟩,
                  ⟨(some 47), (.op (.nilc (.tmp 43))), none⟩,
                  ⟨(some 48), (.op (.faddr 5 (.tmp 47))), none⟩,
                  ⟨none, (.op (.store 1 (.tmp 48) (.cst (.bool false)))), none⟩,
                  ⟨(some 49), (.op (.nilc (.tmp 44))), none⟩,
                  ⟨(some 50), (.op (.faddr 6 (.tmp 49))), none⟩,
                  ⟨none, (.op (.store 1 (.tmp 50) (.cst (.bool false)))), none⟩] [])
                (.region [
                  ⟨(some 51), (.op (.mv (.tmp 0))), none⟩,
                  ⟨(some 52), (.op (.mv (.tmp 0))), none⟩,
                  ⟨(some 53), (.op (.mv (.tmp 0))), none⟩,
                  ⟨(some 54), (.op (.nilc (.tmp 53))), none⟩,
                  ⟨(some 55), (.op (.faddr 2 (.tmp 54))), none⟩,
                  ⟨(some 56), (.op (.load none (.tmp 55))), none⟩,
                  ⟨(some 57), (.op (.len .slice (.tmp 56))), none⟩,
                  ⟨(some 58), (.call (.cst (.func (.func 39) [] [])) [(.tmp 52), (.tmp 57)]), none⟩,
                  ⟨(some 59), (.call (.cst (.func (.func 18) [] [])) [(.tmp 51), (.tmp 58)]), none⟩] []))))
                (.seq (.region [
                  ⟨(some 61), (.op (.bin .eql (some .int) (.tmp 9) (.cst (.int .i64 1)))), none⟩,
                  ⟨(some 60), (.op (.mv (.tmp 61))), none⟩] [])
                (.cond (.tmp 60)
                  (.seq (.seq (.region [
                    ⟨(some 62), (.op (.mv (.tmp 0))), none⟩,
                    ⟨(some 63), (.op (.nilc (.tmp 62))), none⟩,
                    ⟨(some 64), (.op (.faddr 6 (.tmp 63))), none⟩,
                    ⟨(some 65), (.op (.load none (.tmp 64))), none⟩,
                    ⟨(some 66), (.op (.un .not (.tmp 65))), none⟩] [])
                  (.cond (.tmp 66)
                    (.seq (.region [
                      ⟨(some 67), (.op (.build [(.int .i64 0), (.str []), .nilSlice] [])), none⟩,
                      ⟨none, (.op (.store 3 (.tmp 2) (.tmp 67))), none⟩,
                      ⟨(some 3), (.op (.mv (.cst (.bool false)))), none⟩] [])
                    .ret)
                    .skip))
                  (.seq (.region [
                    ⟨(some 68), (.op (.build [(.int .i64 0), (.str []), .nilSlice] [(0, 1, (.cst (.int .i64 2)))])), none⟩,
                    ⟨none, (.op (.store 3 (.tmp 4) (.tmp 68))), none⟩] [])
                  (.exit 0)))
                  (.seq (.region [
                    ⟨(some 70), (.op (.bin .eql (some .int) (.tmp 9) (.cst (.int .i64 2)))), none⟩,
                    ⟨(some 69), (.op (.mv (.tmp 70))), none⟩] [])
                  (.cond (.tmp 69)
                    (.seq (.seq (.draw [
                      ⟨(some 71), (.op (.mv (.tmp 0))), none⟩,
                      ⟨(some 72), (.op (.nilc (.tmp 71))), none⟩,
                      ⟨(some 73), (.op (.faddr 2 (.tmp 72))), none⟩,
                      ⟨(some 74), (.op (.load none (.tmp 73))), none⟩,
                      ⟨(some 75), (.op (.len .slice (.tmp 74))), none⟩,
                      ⟨(some 76), (.op (.mv (.tmp 0))), none⟩,
                      ⟨(some 77), (.op (.nilc (.tmp 76))), none⟩,
                      ⟨(some 78), (.op (.faddr 3 (.tmp 77))), none⟩,
                      ⟨(some 79), (.op (.load none (.tmp 78))), none⟩,
                      ⟨(some 80), (.op (.bin .add none (.tmp 79) (.cst (.int .i64 2)))), none⟩,
                      ⟨(some 81), (.op (.bin .lss none (.tmp 75) (.tmp 80))), none⟩] [0, 1, 2, 3, 4, 5, 6, 7, 8, 9, 10] [[], [], [], [], [], [], [], [], [], [], []] [])
                    (.cond (.tmp 81)
                      (.seq (.region [
                        ⟨(some 82), (.op (.build [(.int .i64 0), (.str []), .nilSlice] [])), none⟩,
                        ⟨none, (.op (.store 3 (.tmp 2) (.tmp 82))), none⟩,
                        ⟨(some 3), (.op (.mv (.cst (.bool false)))), none⟩] [])
                      .ret)
                      .skip))
                    (.seq (.region [
                      ⟨(some 83), (.op (.mv (.tmp 0))), none⟩,
                      ⟨(some 84), (.op (.mv (.tmp 0))), none⟩,
                      ⟨(some 85), (.op (.nilc (.tmp 84))), none⟩,
                      ⟨(some 86), (.op (.faddr 3 (.tmp 85))), none⟩,
                      ⟨(some 87), (.op (.load none (.tmp 86))), none⟩,
                      ⟨(some 88), (.op (.bin .add none (.tmp 87) (.cst (.int .i64 2)))), none⟩,
                      ⟨(some 89), (.call (.cst (.func (.func 39) [] [])) [(.tmp 83), (.tmp 88)]), none⟩,
                      ⟨(some 90), (.call (.cst (.func (.func 40) [] [])) [(.tmp 89)]), none⟩,
                      ⟨none, (.op (.store 3 (.tmp 4) (.tmp 90))), none⟩] [])
                    (.exit 0)))
                    (.seq (.region [
                      ⟨(some 92), (.op (.bin .eql (some .int) (.tmp 9) (.cst (.int .i64 3)))), none⟩,
                      ⟨(some 91), (.op (.mv (.tmp 92))), none⟩] [])
                    (.cond (.tmp 91)
                      (.seq (.seq (.region [
                        ⟨(some 93), (.op (.mv (.tmp 0))), none⟩,
                        ⟨(some 94), (.op (.nilc (.tmp 93))), none⟩,
                        ⟨(some 95), (.op (.faddr 4 (.tmp 94))), none⟩,
                        ⟨(some 96), (.op (.load none (.tmp 95))), none⟩,
                        ⟨(some 97), (.op (.bin .gtr none (.tmp 96) (.cst (.int .i64 0)))), none⟩] [])
                      (.cond (.tmp 97)
                        (.seq (.region [
                          ⟨(some 98), (.op (.build [(.int .i64 0), (.str []), .nilSlice] [])), none⟩,
                          ⟨none, (.op (.store 3 (.tmp 2) (.tmp 98))), none⟩,
                          ⟨(some 3), (.op (.mv (.cst (.bool false)))), none⟩] [])
                        .ret)
                        .skip))
                      (.seq (.region [
                        ⟨(some 99), (.op (.build [(.int .i64 0), (.str []), .nilSlice] [(0, 1, (.cst (.int .i64 4)))])), none⟩,
                        ⟨none, (.op (.store 3 (.tmp 4) (.tmp 99))), none⟩] [])
                      (.exit 0)))
                      .skip)))))))))))))
      (.seq (.region [
        ⟨(some 100), (.op (.mv (.tmp 0))), none⟩,
        ⟨(some 101), (.op (.nilc (.tmp 100))), none⟩,
        ⟨(some 102), (.op (.faddr 1 (.tmp 101))), none⟩,
        ⟨none, (.op (.store 1 (.tmp 102) (.cst (.int .i64 0)))), none⟩] [])
      (.seq (.region [
        ⟨(some 103), (.op (.load (some 3) (.tmp 4))), none⟩,
        ⟨none, (.op (.store 3 (.tmp 2) (.tmp 103))), none⟩,
        ⟨(some 3), (.op (.mv (.cst (.bool true)))), none⟩] [])
      .ret)))))))⟩
theorem c26 : cFn Try.prog [] Try.f26 = some h26 := by kernel_rfl
/-- (*stint/intake.Intake).Body -/
def h27 : HFn :=
  ⟨48, [(.tmp 4)],
    (.seq (.region [
      ⟨(some 4), (.op (.mv (.cst (.int .i64 0)))), none⟩] [])
    (.seq (.seq (.region [
      ⟨(some 5), (.op (.mv (.tmp 1))), none⟩,
      ⟨(some 6), (.op (.bin .lss none (.tmp 5) (.cst (.int .i64 0)))), none⟩,
      ⟨(some 7), (.op (.mv (.tmp 6))), none⟩,
      ⟨(some 8), (.op (.mv (.tmp 1))), (some (7, false))⟩,
      ⟨(some 9), (.op (.bin .gtr none (.tmp 8) (.cst (.int .i64 4294967295)))), (some (7, false))⟩,
      ⟨(some 10), (.op (.pick (.tmp 7) (.cst (.bool true)) (.tmp 9))), none⟩,
      ⟨(some 11), (.op (.mv (.tmp 10))), none⟩,
      ⟨(some 12), (.op (.mv (.tmp 0))), (some (11, false))⟩,
      ⟨(some 13), (.op (.nilc (.tmp 12))), (some (11, false))⟩,
      ⟨(some 14), (.op (.faddr 1 (.tmp 13))), (some (11, false))⟩,
      ⟨(some 15), (.op (.load none (.tmp 14))), (some (11, false))⟩,
      ⟨(some 16), (.op (.bin .neq (some .int) (.tmp 15) (.cst (.int .i64 0)))), (some (11, false))⟩,
      ⟨(some 17), (.op (.pick (.tmp 11) (.cst (.bool true)) (.tmp 16))), none⟩] [])
    (.cond (.tmp 17)
      (.seq (.region [
        ⟨(some 4), (.op (.mv (.cst (.int .i64 61)))), none⟩] [])
      .ret)
      .skip))
    (.seq (.seq (.region [
      ⟨(some 18), (.op (.mv (.tmp 1))), none⟩,
      ⟨(some 19), (.op (.mv (.tmp 0))), none⟩,
      ⟨(some 20), (.op (.nilc (.tmp 19))), none⟩,
      ⟨(some 21), (.op (.faddr 0 (.tmp 20))), none⟩,
      ⟨(some 22), (.op (.load none (.tmp 21))), none⟩,
      ⟨(some 23), (.op (.bin .leq none (.tmp 18) (.tmp 22))), none⟩] [])
    (.cond (.tmp 23)
      (.seq (.region [
        ⟨(some 24), (.op (.mv (.tmp 0))), none⟩,
        ⟨(some 25), (.op (.mv (.tmp 0))), none⟩,
        ⟨(some 26), (.op (.mv (.tmp 1))), none⟩,
        ⟨(some 27), (.op (.nilc (.tmp 24))), none⟩,
        ⟨(some 28), (.op (.faddr 1 (.tmp 27))), none⟩,
        ⟨none, (.op (.store 1 (.tmp 28) (.cst (.int .i64 2)))), none⟩,
        ⟨(some 29), (.op (.nilc (.tmp 25))), none⟩,
        ⟨(some 30), (.op (.faddr 3 (.tmp 29))), none⟩,
        ⟨none, (.op (.store 1 (.tmp 30) (.tmp 26))), none⟩] [])
      (.seq (.region [
        ⟨(some 4), (.op (.mv (.cst (.int .i64 0)))), none⟩] [])
      .ret))
      .skip))
    (.seq (.region [
      ⟨(some 31), (.op (.mv (.tmp 0))), none⟩,
      ⟨(some 32), (.op (.mv (.tmp 0))), none⟩,
      ⟨(some 33), (.op (.mv (.tmp 1))), none⟩,
      ⟨(some 34), (.op (.bin .add none (.tmp 33) (.cst (.int .i64 2)))), none⟩,
      ⟨(some 35), (.op (.nilc (.tmp 31))), none⟩,
      ⟨(some 36), (.op (.faddr 1 (.tmp 35))), none⟩,
      ⟨none, (.op (.store 1 (.tmp 36) (.cst (.int .i64 3)))), none⟩,
      ⟨(some 37), (.op (.nilc (.tmp 32))), none⟩,
      ⟨(some 38), (.op (.faddr 4 (.tmp 37))), none⟩,
      ⟨none, (.op (.store 1 (.tmp 38) (.tmp 34))), none⟩] [])
    (.seq (.region [
      ⟨(some 39), (.op (.mv (.tmp 0))), none⟩,
      ⟨(some 40), (.op (.mv (.tmp 0))), none⟩,
      ⟨(some 41), (.op (.mv (.tmp 0))), none⟩,
      ⟨(some 42), (.op (.nilc (.tmp 41))), none⟩,
      ⟨(some 43), (.op (.faddr 2 (.tmp 42))), none⟩,
      ⟨(some 44), (.op (.load none (.tmp 43))), none⟩,
      ⟨(some 45), (.call (.cst (.func (.func 37) [] [])) [(.tmp 40), (.tmp 44)]), none⟩,
      ⟨(some 46), (.op (.nilc (.tmp 39))), none⟩,
      ⟨(some 47), (.op (.faddr 2 (.tmp 46))), none⟩,
      ⟨none, (.op (.store 1 (.tmp 47) (.tmp 45))), none⟩] [])
    (.seq (.region [
      ⟨(some 4), (.op (.mv (.cst (.int .i64 0)))), none⟩] [])
    .ret))))))⟩
theorem c27 : cFn Try.prog [] Try.f27 = some h27 := by kernel_rfl
/-- (*stint/intake.Intake).Clone -/
def h28 : HFn :=
  ⟨13, [(.tmp 2)],
    (.seq (.region [
      ⟨(some 2), (.op (.mv (.cst .nilPtr))), none⟩] [])
    (.seq (.region [
      ⟨(some 4), (.op (.mv (.tmp 0))), none⟩,
      ⟨(some 5), (.op (.nilc (.tmp 4))), none⟩,
      ⟨(some 6), (.op (.load (some 7) (.tmp 5))), none⟩,
      ⟨(some 3), (.op (.box (.cst (.agg [(.int .i64 0), (.int .i64 0), .nilSlice, (.int .i64 0), (.int .i64 0), (.bool false), (.bool false)])))), none⟩,
      ⟨none, (.op (.store 7 (.tmp 3) (.tmp 6))), none⟩] [])
    (.seq (.region [
      ⟨(some 7), (.op (.mv (.tmp 0))), none⟩,
      ⟨(some 8), (.op (.nilc (.tmp 7))), none⟩,
      ⟨(some 9), (.op (.faddr 2 (.tmp 8))), none⟩,
      ⟨(some 10), (.op (.load none (.tmp 9))), none⟩,
      ⟨(some 11), (.call (.cst (.func (.func 41) [] [])) [(.tmp 10)]), none⟩,
      ⟨(some 12), (.op (.faddr 2 (.tmp 3))), none⟩,
      ⟨none, (.op (.store 1 (.tmp 12) (.tmp 11))), none⟩] [])
    (.seq (.region [
      ⟨(some 2), (.op (.mv (.tmp 3))), none⟩] [])
    .ret))))⟩
theorem c28 : cFn Try.prog [] Try.f28 = some h28 := by kernel_rfl
/-- (*stint/intake.Intake).take -/
def h39 : HFn :=
  ⟨22, [(.tmp 4)],
    (.seq (.region [
      ⟨(some 4), (.op (.mv (.cst .nilSlice))), none⟩] [])
    (.seq (.region [
      ⟨(some 6), (.op (.mv (.tmp 0))), none⟩,
      ⟨(some 7), (.op (.nilc (.tmp 6))), none⟩,
      ⟨(some 8), (.op (.faddr 2 (.tmp 7))), none⟩,
      ⟨(some 9), (.op (.load none (.tmp 8))), none⟩,
      ⟨(some 10), (.op (.mv (.tmp 1))), none⟩,
      ⟨(some 11), (.op (.sliceSl 1 (.tmp 9) none (some (.tmp 10)) none)), none⟩,
      ⟨(some 5), (.op (.mv (.tmp 11))), none⟩] [])
    (.seq (.region [
      ⟨(some 12), (.op (.mv (.tmp 0))), none⟩,
      ⟨(some 13), (.op (.mv (.tmp 0))), none⟩,
      ⟨(some 14), (.op (.nilc (.tmp 13))), none⟩,
      ⟨(some 15), (.op (.faddr 2 (.tmp 14))), none⟩,
      ⟨(some 16), (.op (.load none (.tmp 15))), none⟩,
      ⟨(some 17), (.op (.mv (.tmp 1))), none⟩,
      ⟨(some 18), (.op (.sliceSl 1 (.tmp 16) (some (.tmp 17)) none none)), none⟩,
      ⟨(some 19), (.op (.nilc (.tmp 12))), none⟩,
      ⟨(some 20), (.op (.faddr 2 (.tmp 19))), none⟩,
      ⟨none, (.op (.store 1 (.tmp 20) (.tmp 18))), none⟩] [])
    (.seq (.region [
      ⟨(some 21), (.op (.mv (.tmp 5))), none⟩,
      ⟨(some 4), (.op (.mv (.tmp 21))), none⟩] [])
    .ret))))⟩
theorem c39 : cFn Try.prog [] Try.f39 = some h39 := by kernel_rfl
/-- stint/intake.body -/
def h40 : HFn :=
  ⟨26, [(.cell 2 (some 3))],
    (.seq (.region [
      ⟨(some 2), (.op (.box (.cst (.agg [(.int .i64 0), (.str []), .nilSlice])))), none⟩] [])
    (.seq (.region [
      ⟨(some 4), (.op (.mv (.tmp 0))), none⟩,
      ⟨(some 5), (.op (.len .slice (.tmp 4))), none⟩,
      ⟨(some 6), (.op (.bin .sub none (.tmp 5) (.cst (.int .i64 2)))), none⟩,
      ⟨(some 3), (.op (.mv (.tmp 6))), none⟩] [])
    (.seq (.seq (.region [
      ⟨(some 7), (.op (.mv (.tmp 0))), none⟩,
      ⟨(some 8), (.op (.mv (.tmp 3))), none⟩,
      ⟨(some 9), (.op (.idxS 1 (.tmp 7) (.tmp 8))), none⟩,
      ⟨(some 10), (.op (.load none (.tmp 9))), none⟩,
      ⟨(some 11), (.op (.bin .neq (some .int) (.tmp 10) (.cst (.int .u8 13)))), none⟩,
      ⟨(some 12), (.op (.mv (.tmp 11))), none⟩,
      ⟨(some 13), (.op (.mv (.tmp 0))), (some (12, false))⟩,
      ⟨(some 14), (.op (.mv (.tmp 3))), (some (12, false))⟩,
      ⟨(some 15), (.op (.bin .add none (.tmp 14) (.cst (.int .i64 1)))), (some (12, false))⟩,
      ⟨(some 16), (.op (.idxS 1 (.tmp 13) (.tmp 15))), (some (12, false))⟩,
      ⟨(some 17), (.op (.load none (.tmp 16))), (some (12, false))⟩,
      ⟨(some 18), (.op (.bin .neq (some .int) (.tmp 17) (.cst (.int .u8 10)))), (some (12, false))⟩,
      ⟨(some 19), (.op (.pick (.tmp 12) (.cst (.bool true)) (.tmp 18))), none⟩] [])
    (.cond (.tmp 19)
      (.seq (.region [
        ⟨(some 20), (.op (.build [(.int .i64 0), (.str []), .nilSlice] [(0, 1, (.cst (.int .i64 5)))])), none⟩,
        ⟨none, (.op (.store 3 (.tmp 2) (.tmp 20))), none⟩] [])
      .ret)
      .skip))
    (.seq (.region [
      ⟨(some 21), (.op (.mv (.tmp 0))), none⟩,
      ⟨(some 22), (.op (.mv (.tmp 3))), none⟩,
      ⟨(some 23), (.op (.sliceSl 1 (.tmp 21) none (some (.tmp 22)) none)), none⟩,
      ⟨(some 24), (.call (.cst (.func (.func 41) [] [])) [(.tmp 23)]), none⟩,
      ⟨(some 25), (.op (.build [(.int .i64 0), (.str []), .nilSlice] [(0, 1, (.cst (.int .i64 3))), (2, 1, (.tmp 24))])), none⟩,
      ⟨none, (.op (.store 3 (.tmp 2) (.tmp 25))), none⟩] [])
    .ret))))⟩
theorem c40 : cFn Try.prog [] Try.f40 = some h40 := by kernel_rfl
/-- slices.Clone[[]byte,byte] -/
def h41 : HFn :=
  ⟨8, [(.tmp 2)],
    (.seq (.region [
      ⟨(some 2), (.op (.mv (.cst .nilSlice))), none⟩] [])
    (.seq (.seq (.region [
      ⟨(some 3), (.op (.mv (.tmp 0))), none⟩,
      ⟨(some 4), (.op (.bin .eql (some .slice) (.tmp 3) (.cst .nilSlice))), none⟩] [])
    (.cond (.tmp 4)
      (.seq (.region [
        ⟨(some 2), (.op (.mv (.cst .nilSlice))), none⟩] [])
      .ret)
      .skip))
    (.seq (.region [
      ⟨(some 5), (.op (.bslice 1 0 [] [])), none⟩,
      ⟨(some 6), (.op (.mv (.tmp 0))), none⟩,
      ⟨(some 7), (.op (.append 1 1 (.tmp 5) (.tmp 6))), none⟩,
      ⟨(some 2), (.op (.mv (.tmp 7))), none⟩] [])
    .ret)))⟩
theorem c41 : cFn Try.prog [] Try.f41 = some h41 := by kernel_rfl
def F : FuncId → Option HFn
  | 7 => some h7
  | 9 => some h9
  | 14 => some h14
  | 17 => some h17
  | 18 => some h18
  | 26 => some h26
  | 27 => some h27
  | 28 => some h28
  | 39 => some h39
  | 40 => some h40
  | 41 => some h41
  | _ => none
theorem F_ok : FOk Try.prog F := by
  intro f hf h
  unfold F at h
  split at h
  · simp at h; subst h; exact ⟨_, [], Try.func7, c7⟩
  · simp at h; subst h; exact ⟨_, [], Try.func9, c9⟩
  · simp at h; subst h; exact ⟨_, [], Try.func14, c14⟩
  · simp at h; subst h; exact ⟨_, [], Try.func17, c17⟩
  · simp at h; subst h; exact ⟨_, [], Try.func18, c18⟩
  · simp at h; subst h; exact ⟨_, [], Try.func26, c26⟩
  · simp at h; subst h; exact ⟨_, [], Try.func27, c27⟩
  · simp at h; subst h; exact ⟨_, [], Try.func28, c28⟩
  · simp at h; subst h; exact ⟨_, [], Try.func39, c39⟩
  · simp at h; subst h; exact ⟨_, [], Try.func40, c40⟩
  · simp at h; subst h; exact ⟨_, [], Try.func41, c41⟩
  · simp at h
end Go.Proofs.Ytccfcegmaejlnaa
