import Derived.Test.YtkimigoljleleaaHLRound
import Derived.Test.YtkimigoljleleaaProg
import Derived.KernelRfl
/- The functions, turned (written by program, each checked by the kernel). -/
namespace Go.Proofs.Ytkimigoljleleaa
open Go Go.HL
/-- stint/stintlaw16.SeatsNumbers -/
def h3 : HFn :=
  ⟨22, [(.tmp 0)],
    (.seq (.region [
      ⟨(some 0), (.op (.mv (.cst (.bool false)))), none⟩] [])
    (.seq (.region [
      ⟨(some 2), (.call (.cst (.func (.func 6) [] [])) []), none⟩,
      ⟨(some 1), (.op (.mv (.tmp 2))), none⟩] [])
    (.seq (.region [
      ⟨(some 3), (.op (.mv (.tmp 1))), none⟩,
      ⟨(some 4), (.op (.mv (.tmp 3))), none⟩,
      ⟨(some 5), (.op (.pick (.tmp 4) (.cst (.bool true)) (.cst (.bool false)))), none⟩,
      ⟨(some 6), (.op (.mv (.tmp 5))), none⟩,
      ⟨(some 7), (.op (.pick (.tmp 6) (.cst (.bool true)) (.cst (.bool false)))), none⟩,
      ⟨(some 8), (.op (.mv (.tmp 7))), none⟩,
      ⟨(some 9), (.op (.pick (.tmp 8) (.cst (.bool true)) (.cst (.bool false)))), none⟩,
      ⟨(some 10), (.op (.mv (.tmp 9))), none⟩,
      ⟨(some 11), (.op (.pick (.tmp 10) (.cst (.bool true)) (.cst (.bool false)))), none⟩,
      ⟨(some 12), (.op (.mv (.tmp 11))), none⟩,
      ⟨(some 13), (.op (.pick (.tmp 12) (.cst (.bool true)) (.cst (.bool false)))), none⟩,
      ⟨(some 14), (.op (.mv (.tmp 13))), none⟩,
      ⟨(some 15), (.op (.pick (.tmp 14) (.cst (.bool true)) (.cst (.bool false)))), none⟩,
      ⟨(some 16), (.op (.mv (.tmp 15))), none⟩,
      ⟨(some 17), (.op (.pick (.tmp 16) (.cst (.bool true)) (.cst (.bool false)))), none⟩,
      ⟨(some 18), (.op (.mv (.tmp 17))), none⟩,
      ⟨(some 19), (.op (.pick (.tmp 18) (.cst (.bool true)) (.cst (.bool false)))), none⟩,
      ⟨(some 20), (.op (.mv (.tmp 19))), none⟩,
      ⟨(some 21), (.op (.pick (.tmp 20) (.cst (.bool true)) (.cst (.bool false)))), none⟩,
      ⟨(some 0), (.op (.mv (.tmp 21))), none⟩] [])
    .ret)))⟩
theorem c3 : cFn Try.prog [] Try.f3 = some h3 := by kernel_rfl
/-- stint/stintlaw16.shown -/
def h6 : HFn :=
  ⟨86, [(.tmp 0)],
    (.seq (.region [
      ⟨(some 0), (.op (.mv (.cst (.bool false)))), none⟩] [])
    (.seq (.region [
      ⟨(some 9), (.call (.cst (.func (.func 7) [] [])) []), none⟩,
      ⟨(some 1), (.op (.mv (.tmp 9))), none⟩] [])
    (.seq (.seq (.region [
      ⟨(some 10), (.op (.mv (.tmp 1))), none⟩,
      ⟨(some 11), (.op (.bin .eql (some .ptr) (.tmp 10) (.cst .nilPtr))), none⟩] [])
    (.cond (.tmp 11)
      (.seq (.region [
        ⟨(some 0), (.op (.mv (.cst (.bool false)))), none⟩] [])
      .ret)
      .skip))
    (.seq (.region [
      ⟨(some 12), (.op (.mv (.tmp 1))), none⟩,
      ⟨(some 13), (.call (.cst (.func (.func 9) [] [])) [(.tmp 12), (.cst (.int .i64 3))]), none⟩,
      ⟨(some 2), (.op (.mv (.tmp 13))), none⟩] [])
    (.seq (.region [
      ⟨(some 14), (.op (.mv (.tmp 1))), none⟩,
      ⟨(some 15), (.call (.cst (.func (.func 9) [] [])) [(.tmp 14), (.cst (.int .i64 64))]), none⟩,
      ⟨(some 3), (.op (.mv (.tmp 15))), none⟩] [])
    (.seq (.region [
      ⟨(some 17), (.op (.mv (.tmp 1))), none⟩,
      ⟨(some 18), (.call (.cst (.func (.func 13) [] [])) [(.tmp 17), (.cst (.int .i64 3)), (.cst (.str [97]))]), none⟩,
      ⟨(some 16), (.op (.mv (.tmp 18))), none⟩,
      ⟨(some 19), (.op (.ext 0 (.tmp 16))), none⟩,
      ⟨(some 20), (.op (.ext 1 (.tmp 16))), none⟩,
      ⟨(some 4), (.op (.mv (.tmp 19))), none⟩,
      ⟨(some 5), (.op (.mv (.tmp 20))), none⟩] [])
    (.seq (.region [
      ⟨(some 21), (.op (.mv (.tmp 1))), none⟩,
      ⟨(some 22), (.call (.cst (.func (.func 10) [] [])) [(.tmp 21), (.cst (.int .i64 3)), (.cst (.int .i64 (-1)))]), none⟩,
      ⟨(some 6), (.op (.mv (.tmp 22))), none⟩] [])
    (.seq (.region [
      ⟨(some 24), (.op (.mv (.tmp 1))), none⟩,
      ⟨(some 25), (.call (.cst (.func (.func 14) [] [])) [(.tmp 24), (.cst (.int .i64 3))]), none⟩,
      ⟨(some 23), (.op (.mv (.tmp 25))), none⟩,
      ⟨(some 26), (.op (.ext 0 (.tmp 23))), none⟩,
      ⟨(some 27), (.op (.ext 1 (.tmp 23))), none⟩,
      ⟨(some 7), (.op (.box (.cst (.agg [(.int .i64 0), (.str []), .nilSlice, (.bool false), (.int .i64 0), (.bool false), (.bool false)])))), none⟩,
      ⟨none, (.op (.store 7 (.tmp 7) (.tmp 26))), none⟩,
      ⟨(some 8), (.op (.mv (.tmp 27))), none⟩] [])
    (.seq (.region [
      ⟨(some 28), (.op (.mv (.tmp 2))), none⟩,
      ⟨(some 29), (.op (.bin .eql (some .int) (.tmp 28) (.cst (.int .i64 0)))), none⟩,
      ⟨(some 30), (.op (.mv (.tmp 29))), none⟩,
      ⟨(some 31), (.op (.mv (.tmp 3))), (some (30, true))⟩,
      ⟨(some 32), (.op (.bin .eql (some .int) (.tmp 31) (.cst (.int .i64 160)))), (some (30, true))⟩,
      ⟨(some 33), (.op (.pick (.tmp 30) (.tmp 32) (.cst (.bool false)))), none⟩,
      ⟨(some 34), (.op (.mv (.tmp 33))), none⟩,
      ⟨(some 35), (.op (.mv (.tmp 4))), (some (34, true))⟩,
      ⟨(some 36), (.op (.bin .eql (some .int) (.tmp 35) (.cst (.int .i64 2)))), (some (34, true))⟩,
      ⟨(some 37), (.op (.pick (.tmp 34) (.tmp 36) (.cst (.bool false)))), none⟩,
      ⟨(some 38), (.op (.mv (.tmp 37))), none⟩,
      ⟨(some 39), (.op (.mv (.tmp 5))), (some (38, true))⟩,
      ⟨(some 40), (.op (.bin .eql (some .int) (.tmp 39) (.cst (.int .i64 0)))), (some (38, true))⟩,
      ⟨(some 41), (.op (.pick (.tmp 38) (.tmp 40) (.cst (.bool false)))), none⟩,
      ⟨(some 42), (.op (.mv (.tmp 41))), none⟩,
      ⟨(some 43), (.op (.mv (.tmp 6))), (some (42, true))⟩,
      ⟨(some 44), (.op (.bin .eql (some .int) (.tmp 43) (.cst (.int .i64 0)))), (some (42, true))⟩,
      ⟨(some 45), (.op (.pick (.tmp 42) (.tmp 44) (.cst (.bool false)))), none⟩,
      ⟨(some 46), (.op (.mv (.tmp 45))), none⟩,
      ⟨(some 47), (.op (.mv (.tmp 8))), (some (46, true))⟩,
      ⟨(some 48), (.op (.pick (.tmp 46) (.tmp 47) (.cst (.bool false)))), none⟩,
      ⟨(some 49), (.op (.mv (.tmp 48))), none⟩,
      ⟨(some 50), (.op (.faddr 1 (.tmp 7))), (some (49, true))⟩,
      ⟨(some 51), (.op (.load none (.tmp 50))), (some (49, true))⟩,
      ⟨(some 52), (.op (.bin .eql (some .str) (.tmp 51) (.cst (.str [100, 101, 102, 97, 117, 108, 116])))), (some (49, true))⟩,
      ⟨(some 53), (.op (.pick (.tmp 49) (.tmp 52) (.cst (.bool false)))), none⟩,
      ⟨(some 54), (.op (.mv (.tmp 53))), none⟩,
      ⟨(some 55), (.op (.faddr 2 (.tmp 7))), (some (54, true))⟩,
      ⟨(some 56), (.op (.load none (.tmp 55))), (some (54, true))⟩,
      ⟨(some 57), (.op (.len .slice (.tmp 56))), (some (54, true))⟩,
      ⟨(some 58), (.op (.bin .eql (some .int) (.tmp 57) (.cst (.int .i64 2)))), (some (54, true))⟩,
      ⟨(some 59), (.op (.pick (.tmp 54) (.tmp 58) (.cst (.bool false)))), none⟩,
      ⟨(some 60), (.op (.mv (.tmp 59))), none⟩,
      ⟨(some 61), (.op (.faddr 2 (.tmp 7))), (some (60, true))⟩,
      ⟨(some 62), (.op (.load none (.tmp 61))), (some (60, true))⟩,
      ⟨(some 63), (.op (.idxS 1 (.tmp 62) (.cst (.int .i64 0)))), (some (60, true))⟩,
      ⟨(some 64), (.op (.load none (.tmp 63))), (some (60, true))⟩,
      ⟨(some 65), (.op (.bin .eql (some .str) (.tmp 64) (.cst (.str [97])))), (some (60, true))⟩,
      ⟨(some 66), (.op (.pick (.tmp 60) (.tmp 65) (.cst (.bool false)))), none⟩,
      ⟨(some 67), (.op (.mv (.tmp 66))), none⟩,
      ⟨(some 68), (.op (.faddr 3 (.tmp 7))), (some (67, true))⟩,
      ⟨(some 69), (.op (.load none (.tmp 68))), (some (67, true))⟩,
      ⟨(some 70), (.op (.pick (.tmp 67) (.tmp 69) (.cst (.bool false)))), none⟩,
      ⟨(some 71), (.op (.mv (.tmp 70))), none⟩,
      ⟨(some 72), (.op (.faddr 4 (.tmp 7))), (some (71, true))⟩,
      ⟨(some 73), (.op (.load none (.tmp 72))), (some (71, true))⟩,
      ⟨(some 74), (.op (.bin .eql (some .int) (.tmp 73) (.cst (.int .i64 (-1))))), (some (71, true))⟩,
      ⟨(some 75), (.op (.pick (.tmp 71) (.tmp 74) (.cst (.bool false)))), none⟩,
      ⟨(some 76), (.op (.mv (.tmp 75))), none⟩,
      ⟨(some 77), (.op (.mv (.tmp 1))), (some (76, true))⟩,
      ⟨(some 78), (.call (.cst (.func (.func 17) [] [])) [(.tmp 77), (.cst (.str [97]))]), (some (76, true))⟩,
      ⟨(some 79), (.op (.bin .eql (some .int) (.tmp 78) (.cst (.int .i64 3)))), (some (76, true))⟩,
      ⟨(some 80), (.op (.pick (.tmp 76) (.tmp 79) (.cst (.bool false)))), none⟩,
      ⟨(some 81), (.op (.mv (.tmp 80))), none⟩,
      ⟨(some 82), (.op (.mv (.tmp 1))), (some (81, true))⟩,
      ⟨(some 83), (.call (.cst (.func (.func 17) [] [])) [(.tmp 82), (.cst (.str [98]))]), (some (81, true))⟩,
      ⟨(some 84), (.op (.bin .eql (some .int) (.tmp 83) (.cst (.int .i64 (-1))))), (some (81, true))⟩,
      ⟨(some 85), (.op (.pick (.tmp 81) (.tmp 84) (.cst (.bool false)))), none⟩,
      ⟨(some 0), (.op (.mv (.tmp 85))), none⟩] [])
    .ret)))))))))⟩
theorem c6 : cFn Try.prog [] Try.f6 = some h6 := by kernel_rfl
/-- stint/seats.New -/
def h7 : HFn :=
  ⟨5, [(.tmp 0)],
    (.seq (.region [
      ⟨(some 0), (.op (.mv (.cst .nilPtr))), none⟩] [])
    (.seq (.region [
      ⟨(some 1), (.op .mkMap), none⟩,
      ⟨(some 2), (.call (.cst (.func (.func 24) [] [])) []), none⟩,
      ⟨(some 3), (.op (.build [.nilMap, .nilPtr] [(0, 1, (.tmp 1)), (1, 1, (.tmp 2))])), none⟩,
      ⟨(some 4), (.op (.box (.tmp 3))), none⟩,
      ⟨(some 0), (.op (.mv (.tmp 4))), none⟩] [])
    .ret))⟩
theorem c7 : cFn Try.prog [] Try.f7 = some h7 := by kernel_rfl
/-- (*stint/seats.Seats).Open -/
def h9 : HFn :=
  ⟨32, [(.tmp 4)],
    (.seq (.region [
      ⟨(some 4), (.op (.mv (.cst (.int .i64 0)))), none⟩] [])
    (.seq (.seq (.region [
      ⟨(some 7), (.op (.mv (.tmp 1))), none⟩,
      ⟨(some 8), (.op (.bin .lss none (.tmp 7) (.cst (.int .i64 0)))), none⟩,
      ⟨(some 9), (.op (.mv (.tmp 8))), none⟩,
      ⟨(some 10), (.op (.mv (.tmp 1))), (some (9, false))⟩,
      ⟨(some 11), (.op (.bin .geq none (.tmp 10) (.cst (.int .i64 64)))), (some (9, false))⟩,
      ⟨(some 12), (.op (.pick (.tmp 9) (.cst (.bool true)) (.tmp 11))), none⟩] [])
    (.cond (.tmp 12)
      (.seq (.region [
        ⟨(some 4), (.op (.mv (.cst (.int .i64 160)))), none⟩] [])
      .ret)
      .skip))
    (.seq (.seq (.region [
      ⟨(some 14), (.op (.mv (.tmp 0))), none⟩,
      ⟨(some 15), (.op (.nilc (.tmp 14))), none⟩,
      ⟨(some 16), (.op (.faddr 0 (.tmp 15))), none⟩,
      ⟨(some 17), (.op (.load none (.tmp 16))), none⟩,
      ⟨(some 18), (.op (.mv (.tmp 1))), none⟩,
      ⟨(some 19), (.op (.lookup .int .nilPtr true (.tmp 17) (.tmp 18))), none⟩,
      ⟨(some 13), (.op (.mv (.tmp 19))), none⟩,
      ⟨(some 20), (.op (.ext 0 (.tmp 13))), none⟩,
      ⟨(some 21), (.op (.ext 1 (.tmp 13))), none⟩,
      ⟨(some 5), (.op (.mv (.tmp 20))), none⟩,
      ⟨(some 6), (.op (.mv (.tmp 21))), none⟩] [])
    (.seq (.region [
      ⟨(some 22), (.op (.mv (.tmp 6))), none⟩] [])
    (.cond (.tmp 22)
      (.seq (.region [
        ⟨(some 4), (.op (.mv (.cst (.int .i64 161)))), none⟩] [])
      .ret)
      .skip)))
    (.seq (.region [
      ⟨(some 23), (.op (.mv (.tmp 0))), none⟩,
      ⟨(some 24), (.op (.nilc (.tmp 23))), none⟩,
      ⟨(some 25), (.op (.faddr 0 (.tmp 24))), none⟩,
      ⟨(some 26), (.op (.load none (.tmp 25))), none⟩,
      ⟨(some 27), (.op (.mv (.tmp 1))), none⟩,
      ⟨(some 28), (.op .mkMap), none⟩,
      ⟨none, (.op (.mapUpd .str (.tmp 28) (.cst (.str [100, 101, 102, 97, 117, 108, 116])) (.cst (.bool true)))), none⟩,
      ⟨(some 29), (.op (.mv (.tmp 28))), none⟩,
      ⟨(some 30), (.op (.build [(.str []), .nilMap, (.int .i64 0), (.int .i64 0), (.bool false), (.bool false)] [(0, 1, (.cst (.str [100, 101, 102, 97, 117, 108, 116]))), (1, 1, (.tmp 29))])), none⟩,
      ⟨(some 31), (.op (.box (.tmp 30))), none⟩,
      ⟨none, (.op (.mapUpd .int (.tmp 26) (.tmp 27) (.tmp 31))), none⟩] [])
    (.seq (.region [
      ⟨(some 4), (.op (.mv (.cst (.int .i64 0)))), none⟩] [])
    .ret)))))⟩
theorem c9 : cFn Try.prog [] Try.f9 = some h9 := by kernel_rfl
/-- (*stint/seats.Seats).Wait -/
def h10 : HFn :=
  ⟨43, [(.tmp 6)],
    (.seq (.region [
      ⟨(some 6), (.op (.mv (.cst (.int .i64 0)))), none⟩] [])
    (.seq (.region [
      ⟨(some 10), (.op (.mv (.tmp 0))), none⟩,
      ⟨(some 11), (.op (.nilc (.tmp 10))), none⟩,
      ⟨(some 12), (.op (.faddr 0 (.tmp 11))), none⟩,
      ⟨(some 13), (.op (.load none (.tmp 12))), none⟩,
      ⟨(some 14), (.op (.mv (.tmp 1))), none⟩,
      ⟨(some 15), (.op (.lookup .int .nilPtr true (.tmp 13) (.tmp 14))), none⟩,
      ⟨(some 9), (.op (.mv (.tmp 15))), none⟩,
      ⟨(some 16), (.op (.ext 0 (.tmp 9))), none⟩,
      ⟨(some 17), (.op (.ext 1 (.tmp 9))), none⟩,
      ⟨(some 7), (.op (.mv (.tmp 16))), none⟩,
      ⟨(some 8), (.op (.mv (.tmp 17))), none⟩] [])
    (.seq (.block 0
      (.seq (.region [
        ⟨(some 19), (.op (.mv (.tmp 8))), none⟩,
        ⟨(some 20), (.op (.un .not (.tmp 19))), none⟩,
        ⟨(some 18), (.op (.mv (.tmp 20))), none⟩] [])
      (.cond (.tmp 18)
        (.seq (.region [
          ⟨(some 6), (.op (.mv (.cst (.int .i64 162)))), none⟩] [])
        .ret)
        (.seq (.region [
          ⟨(some 22), (.op (.mv (.tmp 2))), none⟩,
          ⟨(some 23), (.op (.bin .lss none (.tmp 22) (.cst (.int .i64 (-1))))), none⟩,
          ⟨(some 21), (.op (.mv (.tmp 23))), none⟩] [])
        (.cond (.tmp 21)
          (.seq (.region [
            ⟨(some 6), (.op (.mv (.cst (.int .i64 1)))), none⟩] [])
          .ret)
          (.seq (.region [
            ⟨(some 25), (.op (.mv (.tmp 7))), none⟩,
            ⟨(some 26), (.op (.nilc (.tmp 25))), none⟩,
            ⟨(some 27), (.op (.faddr 2 (.tmp 26))), none⟩,
            ⟨(some 28), (.op (.load none (.tmp 27))), none⟩,
            ⟨(some 29), (.op (.bin .gtr none (.tmp 28) (.cst (.int .i64 0)))), none⟩,
            ⟨(some 24), (.op (.mv (.tmp 29))), none⟩] [])
          (.cond (.tmp 24)
            (.seq (.region [
              ⟨(some 6), (.op (.mv (.cst (.int .i64 164)))), none⟩] [])
            .ret)
            .skip)))))))
    (.seq (.region [
      ⟨(some 30), (.op (.mv (.tmp 7))), none⟩,
      ⟨(some 31), (.op (.mv (.tmp 7))), none⟩,
      ⟨(some 32), (.op (.mv (.tmp 0))), none⟩,
      ⟨(some 33), (.op (.nilc (.tmp 32))), none⟩,
      ⟨(some 34), (.op (.faddr 1 (.tmp 33))), none⟩,
      ⟨(some 35), (.op (.load none (.tmp 34))), none⟩,
      ⟨(some 36), (.op (.mv (.tmp 1))), none⟩,
      ⟨(some 37), (.call (.cst (.func (.func 25) [] [])) [(.tmp 35), (.tmp 36)]), none⟩,
      ⟨(some 38), (.op (.mv (.tmp 2))), none⟩,
      ⟨(some 39), (.op (.nilc (.tmp 30))), none⟩,
      ⟨(some 40), (.op (.faddr 2 (.tmp 39))), none⟩,
      ⟨none, (.op (.store 1 (.tmp 40) (.tmp 37))), none⟩,
      ⟨(some 41), (.op (.nilc (.tmp 31))), none⟩,
      ⟨(some 42), (.op (.faddr 3 (.tmp 41))), none⟩,
      ⟨none, (.op (.store 1 (.tmp 42) (.tmp 38))), none⟩] [])
    (.seq (.region [
      ⟨(some 6), (.op (.mv (.cst (.int .i64 0)))), none⟩] [])
    .ret)))))⟩
theorem c10 : cFn Try.prog [] Try.f10 = some h10 := by kernel_rfl
/-- (*stint/seats.Seats).Watch -/
def h13 : HFn :=
  ⟨30, [(.tmp 6), (.tmp 7)],
    (.seq (.region [
      ⟨(some 6), (.op (.mv (.cst (.int .i64 0)))), none⟩,
      ⟨(some 7), (.op (.mv (.cst (.int .i64 0)))), none⟩] [])
    (.seq (.region [
      ⟨(some 11), (.op (.mv (.tmp 0))), none⟩,
      ⟨(some 12), (.op (.mv (.tmp 1))), none⟩,
      ⟨(some 13), (.op (.mv (.tmp 2))), none⟩,
      ⟨(some 14), (.call (.cst (.func (.func 27) [] [])) [(.tmp 11), (.tmp 12), (.tmp 13)]), none⟩,
      ⟨(some 10), (.op (.mv (.tmp 14))), none⟩,
      ⟨(some 15), (.op (.ext 0 (.tmp 10))), none⟩,
      ⟨(some 16), (.op (.ext 1 (.tmp 10))), none⟩,
      ⟨(some 8), (.op (.mv (.tmp 15))), none⟩,
      ⟨(some 9), (.op (.mv (.tmp 16))), none⟩] [])
    (.seq (.seq (.region [
      ⟨(some 17), (.op (.mv (.tmp 9))), none⟩,
      ⟨(some 18), (.op (.bin .neq (some .int) (.tmp 17) (.cst (.int .i64 0)))), none⟩] [])
    (.cond (.tmp 18)
      (.seq (.region [
        ⟨(some 19), (.op (.mv (.tmp 9))), none⟩,
        ⟨(some 6), (.op (.mv (.cst (.int .i64 0)))), none⟩,
        ⟨(some 7), (.op (.mv (.tmp 19))), none⟩] [])
      .ret)
      .skip))
    (.seq (.region [
      ⟨(some 20), (.op (.mv (.tmp 8))), none⟩,
      ⟨(some 21), (.op (.nilc (.tmp 20))), none⟩,
      ⟨(some 22), (.op (.faddr 1 (.tmp 21))), none⟩,
      ⟨(some 23), (.op (.load none (.tmp 22))), none⟩,
      ⟨(some 24), (.op (.mv (.tmp 2))), none⟩,
      ⟨none, (.op (.mapUpd .str (.tmp 23) (.tmp 24) (.cst (.bool true)))), none⟩] [])
    (.seq (.region [
      ⟨(some 25), (.op (.mv (.tmp 8))), none⟩,
      ⟨(some 26), (.op (.nilc (.tmp 25))), none⟩,
      ⟨(some 27), (.op (.faddr 1 (.tmp 26))), none⟩,
      ⟨(some 28), (.op (.load none (.tmp 27))), none⟩,
      ⟨(some 29), (.op (.len .map (.tmp 28))), none⟩,
      ⟨(some 6), (.op (.mv (.tmp 29))), none⟩,
      ⟨(some 7), (.op (.mv (.cst (.int .i64 0)))), none⟩] [])
    .ret)))))⟩
theorem c13 : cFn Try.prog [] Try.f13 = some h13 := by kernel_rfl
/-- (*stint/seats.Seats).Get -/
def h14 : HFn :=
  ⟨48, [(.cell 4 (some 7)), (.tmp 5)],
    (.seq (.region [
      ⟨(some 4), (.op (.box (.cst (.agg [(.int .i64 0), (.str []), .nilSlice, (.bool false), (.int .i64 0), (.bool false), (.bool false)])))), none⟩,
      ⟨(some 5), (.op (.mv (.cst (.bool false)))), none⟩] [])
    (.seq (.region [
      ⟨(some 9), (.op (.mv (.tmp 0))), none⟩,
      ⟨(some 10), (.op (.nilc (.tmp 9))), none⟩,
      ⟨(some 11), (.op (.faddr 0 (.tmp 10))), none⟩,
      ⟨(some 12), (.op (.load none (.tmp 11))), none⟩,
      ⟨(some 13), (.op (.mv (.tmp 1))), none⟩,
      ⟨(some 14), (.op (.lookup .int .nilPtr true (.tmp 12) (.tmp 13))), none⟩,
      ⟨(some 8), (.op (.mv (.tmp 14))), none⟩,
      ⟨(some 15), (.op (.ext 0 (.tmp 8))), none⟩,
      ⟨(some 16), (.op (.ext 1 (.tmp 8))), none⟩,
      ⟨(some 6), (.op (.mv (.tmp 15))), none⟩,
      ⟨(some 7), (.op (.mv (.tmp 16))), none⟩] [])
    (.seq (.seq (.region [
      ⟨(some 17), (.op (.mv (.tmp 7))), none⟩,
      ⟨(some 18), (.op (.un .not (.tmp 17))), none⟩] [])
    (.cond (.tmp 18)
      (.seq (.region [
        ⟨(some 19), (.op (.build [(.int .i64 0), (.str []), .nilSlice, (.bool false), (.int .i64 0), (.bool false), (.bool false)] [])), none⟩,
        ⟨none, (.op (.store 7 (.tmp 4) (.tmp 19))), none⟩,
        ⟨(some 5), (.op (.mv (.cst (.bool false)))), none⟩] [])
      .ret)
      .skip))
    (.seq (.draw [
      ⟨(some 20), (.op (.mv (.tmp 1))), none⟩,
      ⟨(some 21), (.op (.mv (.tmp 6))), none⟩,
      ⟨(some 22), (.op (.nilc (.tmp 21))), none⟩,
      ⟨(some 23), (.op (.faddr 0 (.tmp 22))), none⟩,
      ⟨(some 24), (.op (.load none (.tmp 23))), none⟩,
      ⟨(some 25), (.op (.mv (.tmp 6))), none⟩,
      ⟨(some 26), (.op (.nilc (.tmp 25))), none⟩,
      ⟨(some 27), (.op (.faddr 1 (.tmp 26))), none⟩,
      ⟨(some 28), (.op (.load none (.tmp 27))), none⟩,
      ⟨(some 29), (.call (.cst (.func (.func 28) [] [])) [(.tmp 28)]), none⟩,
      ⟨(some 30), (.op (.mv (.tmp 6))), none⟩,
      ⟨(some 31), (.op (.nilc (.tmp 30))), none⟩,
      ⟨(some 32), (.op (.faddr 2 (.tmp 31))), none⟩,
      ⟨(some 33), (.op (.load none (.tmp 32))), none⟩,
      ⟨(some 34), (.op (.bin .gtr none (.tmp 33) (.cst (.int .i64 0)))), none⟩,
      ⟨(some 35), (.op (.mv (.tmp 6))), none⟩,
      ⟨(some 36), (.op (.nilc (.tmp 35))), none⟩,
      ⟨(some 37), (.op (.faddr 3 (.tmp 36))), none⟩,
      ⟨(some 38), (.op (.load none (.tmp 37))), none⟩,
      ⟨(some 39), (.op (.mv (.tmp 6))), none⟩,
      ⟨(some 40), (.op (.nilc (.tmp 39))), none⟩,
      ⟨(some 41), (.op (.faddr 4 (.tmp 40))), none⟩,
      ⟨(some 42), (.op (.load none (.tmp 41))), none⟩,
      ⟨(some 43), (.op (.mv (.tmp 6))), none⟩,
      ⟨(some 44), (.op (.nilc (.tmp 43))), none⟩,
      ⟨(some 45), (.op (.faddr 5 (.tmp 44))), none⟩,
      ⟨(some 46), (.op (.load none (.tmp 45))), none⟩,
      ⟨(some 47), (.op (.build [(.int .i64 0), (.str []), .nilSlice, (.bool false), (.int .i64 0), (.bool false), (.bool false)] [(0, 1, (.tmp 20)), (1, 1, (.tmp 24)), (2, 1, (.tmp 29)), (3, 1, (.tmp 34)), (4, 1, (.tmp 38)), (5, 1, (.tmp 42)), (6, 1, (.tmp 46))])), none⟩,
      ⟨none, (.op (.store 7 (.tmp 4) (.tmp 47))), none⟩,
      ⟨(some 5), (.op (.mv (.cst (.bool true)))), none⟩] [0, 1, 2, 3, 4, 5, 6, 7, 8, 10, 11, 12, 13, 14, 15, 16, 17, 18, 19, 20, 21, 22, 23, 24, 25, 26, 9, 27, 28, 29] [[], [], [], [], [], [], [], [], [], [8], [], [], [], [], [], [], [], [], [], [], [], [], [], [], [], [], [], [], [4, 8, 13, 18, 22, 26], []] [])
    .ret))))⟩
theorem c14 : cFn Try.prog [] Try.f14 = some h14 := by kernel_rfl
/-- (*stint/seats.Seats).First -/
noncomputable def h17 : HFn :=
  ⟨26, [(.cell 4 none)],
    (.seq (.region [
      ⟨(some 2), (.op (.box (.tmp 0))), none⟩,
      ⟨(some 3), (.op (.box (.tmp 1))), none⟩,
      ⟨(some 4), (.op (.box (.cst (.int .i64 0)))), none⟩] [])
    (.seq (.seq (.region [
      ⟨(some 7), (.op (.load none (.tmp 2))), none⟩,
      ⟨(some 8), (.op (.nilc (.tmp 7))), none⟩,
      ⟨(some 9), (.op (.faddr 1 (.tmp 8))), none⟩,
      ⟨(some 10), (.op (.load none (.tmp 9))), none⟩,
      ⟨(some 11), (.call (.cst (.func (.func 29) [] [])) [(.tmp 10)]), none⟩] [])
    (.block 0
      (.rangeFunc (.tmp 11) [12, 13] (rfA Try.f17 0) (rfB Try.f17 0))))
    (.seq (.region [
      ⟨none, (.op (.store 1 (.tmp 4) (.cst (.int .i64 (-1))))), none⟩] [])
    .ret)))⟩
theorem c17 : cFn Try.prog [] Try.f17 = some h17 := by kernel_rfl
/-- stint/queue.New[int] -/
def h24 : HFn :=
  ⟨4, [(.tmp 0)],
    (.seq (.region [
      ⟨(some 0), (.op (.mv (.cst .nilPtr))), none⟩] [])
    (.seq (.region [
      ⟨(some 1), (.op .mkMap), none⟩,
      ⟨(some 2), (.op (.build [.nilPtr, .nilPtr, .nilMap, (.int .i64 0)] [(2, 1, (.tmp 1))])), none⟩,
      ⟨(some 3), (.op (.box (.tmp 2))), none⟩,
      ⟨(some 0), (.op (.mv (.tmp 3))), none⟩] [])
    .ret))⟩
theorem c24 : cFn Try.prog [] Try.f24 = some h24 := by kernel_rfl
/-- (*stint/queue.Queue[int]).Join -/
def h25 : HFn :=
  ⟨23, [(.tmp 4)],
    (.seq (.region [
      ⟨(some 4), (.op (.mv (.cst (.int .i64 0)))), none⟩] [])
    (.seq (.region [
      ⟨(some 5), (.op (.mv (.tmp 0))), none⟩,
      ⟨(some 6), (.op (.nilc (.tmp 5))), none⟩,
      ⟨(some 7), (.op (.faddr 3 (.tmp 6))), none⟩,
      ⟨(some 8), (.op (.load none (.tmp 7))), none⟩,
      ⟨(some 9), (.op (.bin .add none (.tmp 8) (.cst (.int .i64 1)))), none⟩,
      ⟨(some 10), (.op (.nilc (.tmp 5))), none⟩,
      ⟨(some 11), (.op (.faddr 3 (.tmp 10))), none⟩,
      ⟨none, (.op (.store 1 (.tmp 11) (.tmp 9))), none⟩] [])
    (.seq (.region [
      ⟨(some 12), (.op (.mv (.tmp 0))), none⟩,
      ⟨(some 13), (.op (.mv (.tmp 0))), none⟩,
      ⟨(some 14), (.op (.nilc (.tmp 13))), none⟩,
      ⟨(some 15), (.op (.faddr 3 (.tmp 14))), none⟩,
      ⟨(some 16), (.op (.load none (.tmp 15))), none⟩,
      ⟨(some 17), (.op (.mv (.tmp 1))), none⟩,
      ⟨(some 18), (.call (.cst (.func (.func 37) [] [])) [(.tmp 12), (.tmp 16), (.tmp 17)]), none⟩] [])
    (.seq (.region [
      ⟨(some 19), (.op (.mv (.tmp 0))), none⟩,
      ⟨(some 20), (.op (.nilc (.tmp 19))), none⟩,
      ⟨(some 21), (.op (.faddr 3 (.tmp 20))), none⟩,
      ⟨(some 22), (.op (.load none (.tmp 21))), none⟩,
      ⟨(some 4), (.op (.mv (.tmp 22))), none⟩] [])
    .ret))))⟩
theorem c25 : cFn Try.prog [] Try.f25 = some h25 := by kernel_rfl
/-- (*stint/seats.Seats).named -/
def h27 : HFn :=
  ⟨27, [(.tmp 6), (.tmp 7)],
    (.seq (.region [
      ⟨(some 6), (.op (.mv (.cst .nilPtr))), none⟩,
      ⟨(some 7), (.op (.mv (.cst (.int .i64 0)))), none⟩] [])
    (.seq (.region [
      ⟨(some 11), (.op (.mv (.tmp 0))), none⟩,
      ⟨(some 12), (.op (.nilc (.tmp 11))), none⟩,
      ⟨(some 13), (.op (.faddr 0 (.tmp 12))), none⟩,
      ⟨(some 14), (.op (.load none (.tmp 13))), none⟩,
      ⟨(some 15), (.op (.mv (.tmp 1))), none⟩,
      ⟨(some 16), (.op (.lookup .int .nilPtr true (.tmp 14) (.tmp 15))), none⟩,
      ⟨(some 10), (.op (.mv (.tmp 16))), none⟩,
      ⟨(some 17), (.op (.ext 0 (.tmp 10))), none⟩,
      ⟨(some 18), (.op (.ext 1 (.tmp 10))), none⟩,
      ⟨(some 8), (.op (.mv (.tmp 17))), none⟩,
      ⟨(some 9), (.op (.mv (.tmp 18))), none⟩] [])
    (.seq (.block 0
      (.seq (.region [
        ⟨(some 20), (.op (.mv (.tmp 9))), none⟩,
        ⟨(some 21), (.op (.un .not (.tmp 20))), none⟩,
        ⟨(some 19), (.op (.mv (.tmp 21))), none⟩] [])
      (.cond (.tmp 19)
        (.seq (.region [
          ⟨(some 6), (.op (.mv (.cst .nilPtr))), none⟩,
          ⟨(some 7), (.op (.mv (.cst (.int .i64 162)))), none⟩] [])
        .ret)
        (.seq (.region [
          ⟨(some 23), (.op (.mv (.tmp 2))), none⟩,
          ⟨(some 24), (.call (.cst (.func (.func 40) [] [])) [(.tmp 23)]), none⟩,
          ⟨(some 25), (.op (.un .not (.tmp 24))), none⟩,
          ⟨(some 22), (.op (.mv (.tmp 25))), none⟩] [])
        (.cond (.tmp 22)
          (.seq (.region [
            ⟨(some 6), (.op (.mv (.cst .nilPtr))), none⟩,
            ⟨(some 7), (.op (.mv (.cst (.int .i64 50)))), none⟩] [])
          .ret)
          .skip)))))
    (.seq (.region [
      ⟨(some 26), (.op (.mv (.tmp 8))), none⟩,
      ⟨(some 6), (.op (.mv (.tmp 26))), none⟩,
      ⟨(some 7), (.op (.mv (.cst (.int .i64 0)))), none⟩] [])
    .ret))))⟩
theorem c27 : cFn Try.prog [] Try.f27 = some h27 := by kernel_rfl
/-- stint/seats.rising -/
def h28 : HFn :=
  ⟨18, [(.tmp 2)],
    (.seq (.region [
      ⟨(some 2), (.op (.mv (.cst .nilSlice))), none⟩] [])
    (.seq (.region [
      ⟨(some 3), (.op (.mv (.cst .nilSlice))), none⟩] [])
    (.seq (.seq (.region [
      ⟨(some 5), (.op (.mv (.tmp 0))), none⟩,
      ⟨(some 6), (.op (.rangeMap (.tmp 5))), none⟩] [])
    (.block 0
      (.loop
        (.seq (.region [
          ⟨(some 7), (.next (.tmp 6)), none⟩,
          ⟨(some 8), (.op (.ext 0 (.tmp 7))), none⟩] [])
        (.seq (.cond (.tmp 8)
          .skip
          (.exit 0))
        (.block 1
          (.seq (.region [
            ⟨(some 9), (.op (.entry (.tmp 6))), none⟩,
            ⟨(some 10), (.op (.ext 0 (.tmp 9))), none⟩,
            ⟨(some 4), (.op (.mv (.tmp 10))), none⟩] [])
          (.region [
            ⟨(some 11), (.op (.mv (.tmp 3))), none⟩,
            ⟨(some 12), (.op (.mv (.tmp 4))), none⟩,
            ⟨(some 13), (.op (.bslice 1 1 [(.str [])] [(0, 1, (.tmp 12))])), none⟩,
            ⟨(some 14), (.op (.append 1 16 (.tmp 11) (.tmp 13))), none⟩,
            ⟨(some 3), (.op (.mv (.tmp 14))), none⟩] []))))))))
    (.seq (.region [
      ⟨(some 15), (.op (.mv (.tmp 3))), none⟩,
      ⟨(some 16), (.call (.cst (.func (.func 41) [] [])) [(.tmp 15)]), none⟩] [])
    (.seq (.region [
      ⟨(some 17), (.op (.mv (.tmp 3))), none⟩,
      ⟨(some 2), (.op (.mv (.tmp 17))), none⟩] [])
    .ret)))))⟩
theorem c28 : cFn Try.prog [] Try.f28 = some h28 := by kernel_rfl
/-- (*stint/queue.Queue[int]).All -/
def h29 : HFn :=
  ⟨4, [(.tmp 2)],
    (.seq (.region [
      ⟨(some 1), (.op (.box (.tmp 0))), none⟩,
      ⟨(some 2), (.op (.mv (.cst .nilFunc))), none⟩] [])
    (.seq (.region [
      ⟨(some 3), (.op (.mkfn (.func 42) [] [(.tmp 1)])), none⟩,
      ⟨(some 2), (.op (.mv (.tmp 3))), none⟩] [])
    .ret))⟩
theorem c29 : cFn Try.prog [] Try.f29 = some h29 := by kernel_rfl
/-- (*stint/queue.Queue[int]).lay -/
def h37 : HFn :=
  ⟨41, [],
    (.seq (.region [
      ⟨(some 7), (.op (.mv (.tmp 1))), none⟩,
      ⟨(some 8), (.op (.mv (.tmp 2))), none⟩,
      ⟨(some 9), (.op (.mv (.tmp 0))), none⟩,
      ⟨(some 10), (.op (.nilc (.tmp 9))), none⟩,
      ⟨(some 11), (.op (.faddr 1 (.tmp 10))), none⟩,
      ⟨(some 12), (.op (.load none (.tmp 11))), none⟩,
      ⟨(some 13), (.op (.build [(.int .i64 0), (.int .i64 0), .nilPtr, .nilPtr] [(0, 1, (.tmp 7)), (1, 1, (.tmp 8)), (2, 1, (.tmp 12))])), none⟩,
      ⟨(some 14), (.op (.box (.tmp 13))), none⟩,
      ⟨(some 6), (.op (.mv (.tmp 14))), none⟩] [])
    (.seq (.seq (.region [
      ⟨(some 15), (.op (.mv (.tmp 0))), none⟩,
      ⟨(some 16), (.op (.nilc (.tmp 15))), none⟩,
      ⟨(some 17), (.op (.faddr 1 (.tmp 16))), none⟩,
      ⟨(some 18), (.op (.load none (.tmp 17))), none⟩,
      ⟨(some 19), (.op (.bin .eql (some .ptr) (.tmp 18) (.cst .nilPtr))), none⟩] [])
    (.cond (.tmp 19)
      (.region [
        ⟨(some 20), (.op (.mv (.tmp 0))), none⟩,
        ⟨(some 21), (.op (.mv (.tmp 6))), none⟩,
        ⟨(some 22), (.op (.nilc (.tmp 20))), none⟩,
        ⟨(some 23), (.op (.faddr 0 (.tmp 22))), none⟩,
        ⟨none, (.op (.store 1 (.tmp 23) (.tmp 21))), none⟩] [])
      (.region [
        ⟨(some 24), (.op (.mv (.tmp 0))), none⟩,
        ⟨(some 25), (.op (.nilc (.tmp 24))), none⟩,
        ⟨(some 26), (.op (.faddr 1 (.tmp 25))), none⟩,
        ⟨(some 27), (.op (.load none (.tmp 26))), none⟩,
        ⟨(some 28), (.op (.mv (.tmp 6))), none⟩,
        ⟨(some 29), (.op (.nilc (.tmp 27))), none⟩,
        ⟨(some 30), (.op (.faddr 3 (.tmp 29))), none⟩,
        ⟨none, (.op (.store 1 (.tmp 30) (.tmp 28))), none⟩] [])))
    (.seq (.region [
      ⟨(some 31), (.op (.mv (.tmp 0))), none⟩,
      ⟨(some 32), (.op (.mv (.tmp 6))), none⟩,
      ⟨(some 33), (.op (.nilc (.tmp 31))), none⟩,
      ⟨(some 34), (.op (.faddr 1 (.tmp 33))), none⟩,
      ⟨none, (.op (.store 1 (.tmp 34) (.tmp 32))), none⟩] [])
    (.region [
      ⟨(some 35), (.op (.mv (.tmp 0))), none⟩,
      ⟨(some 36), (.op (.nilc (.tmp 35))), none⟩,
      ⟨(some 37), (.op (.faddr 2 (.tmp 36))), none⟩,
      ⟨(some 38), (.op (.load none (.tmp 37))), none⟩,
      ⟨(some 39), (.op (.mv (.tmp 1))), none⟩,
      ⟨(some 40), (.op (.mv (.tmp 6))), none⟩,
      ⟨none, (.op (.mapUpd .int (.tmp 38) (.tmp 39) (.tmp 40))), none⟩] []))))⟩
theorem c37 : cFn Try.prog [] Try.f37 = some h37 := by kernel_rfl
/-- stint/names.Valid -/
def h40 : HFn :=
  ⟨28, [(.tmp 2)],
    (.seq (.region [
      ⟨(some 2), (.op (.mv (.cst (.bool false)))), none⟩] [])
    (.seq (.seq (.region [
      ⟨(some 4), (.op (.mv (.tmp 0))), none⟩,
      ⟨(some 5), (.op (.len .str (.tmp 4))), none⟩,
      ⟨(some 6), (.op (.bin .lss none (.tmp 5) (.cst (.int .i64 1)))), none⟩,
      ⟨(some 7), (.op (.mv (.tmp 6))), none⟩,
      ⟨(some 8), (.op (.mv (.tmp 0))), (some (7, false))⟩,
      ⟨(some 9), (.op (.len .str (.tmp 8))), (some (7, false))⟩,
      ⟨(some 10), (.op (.bin .gtr none (.tmp 9) (.cst (.int .i64 200)))), (some (7, false))⟩,
      ⟨(some 11), (.op (.pick (.tmp 7) (.cst (.bool true)) (.tmp 10))), none⟩,
      ⟨(some 12), (.op (.mv (.tmp 11))), none⟩,
      ⟨(some 13), (.op (.mv (.tmp 0))), (some (12, false))⟩,
      ⟨(some 14), (.op (.idxStr (.tmp 13) (.cst (.int .i64 0)))), (some (12, false))⟩,
      ⟨(some 15), (.op (.bin .eql (some .int) (.tmp 14) (.cst (.int .u8 45)))), (some (12, false))⟩,
      ⟨(some 16), (.op (.pick (.tmp 12) (.cst (.bool true)) (.tmp 15))), none⟩] [])
    (.cond (.tmp 16)
      (.seq (.region [
        ⟨(some 2), (.op (.mv (.cst (.bool false)))), none⟩] [])
      .ret)
      .skip))
    (.seq (.seq (.region [
      ⟨(some 17), (.op (.mv (.tmp 0))), none⟩,
      ⟨(some 18), (.op (.len .str (.tmp 17))), none⟩,
      ⟨(some 19), (.op (.mv (.cst (.int .i64 0)))), none⟩] [])
    (.block 0
      (.loop
        (.seq (.region [
          ⟨(some 20), (.op (.bin .lss none (.tmp 19) (.tmp 18))), none⟩] [])
        (.seq (.cond (.tmp 20)
          .skip
          (.exit 0))
        (.seq (.block 1
          (.seq (.region [
            ⟨(some 21), (.op (.mv (.tmp 19))), none⟩,
            ⟨(some 3), (.op (.mv (.tmp 21))), none⟩] [])
          (.seq (.region [
            ⟨(some 22), (.op (.mv (.tmp 0))), none⟩,
            ⟨(some 23), (.op (.mv (.tmp 3))), none⟩,
            ⟨(some 24), (.op (.idxStr (.tmp 22) (.tmp 23))), none⟩,
            ⟨(some 25), (.call (.cst (.func (.func 45) [] [])) [(.tmp 24)]), none⟩,
            ⟨(some 26), (.op (.un .not (.tmp 25))), none⟩] [])
          (.cond (.tmp 26)
            (.seq (.region [
              ⟨(some 2), (.op (.mv (.cst (.bool false)))), none⟩] [])
            .ret)
            .skip))))
        (.region [
          ⟨(some 27), (.op (.bin .add none (.tmp 19) (.cst (.int .i64 1)))), none⟩,
          ⟨(some 19), (.op (.mv (.tmp 27))), none⟩] [])))))))
    (.seq (.region [
      ⟨(some 2), (.op (.mv (.cst (.bool true)))), none⟩] [])
    .ret))))⟩
theorem c40 : cFn Try.prog [] Try.f40 = some h40 := by kernel_rfl
/-- slices.Sort[[]string,string] -/
def h41 : HFn :=
  ⟨11, [],
    (.seq (.region [
      ⟨(some 3), (.op (.mv (.tmp 0))), none⟩,
      ⟨(some 4), (.op (.len .slice (.tmp 3))), none⟩,
      ⟨(some 2), (.op (.mv (.tmp 4))), none⟩] [])
    (.region [
      ⟨(some 5), (.op (.mv (.tmp 0))), none⟩,
      ⟨(some 6), (.op (.mv (.tmp 2))), none⟩,
      ⟨(some 7), (.op (.mv (.tmp 2))), none⟩,
      ⟨(some 8), (.op (.cInt .u64 (.tmp 7))), none⟩,
      ⟨(some 9), (.call (.cst (.func (.func 44) [] [])) [(.tmp 8)]), none⟩,
      ⟨(some 10), (.call (.cst (.func (.func 46) [] [])) [(.tmp 5), (.cst (.int .i64 0)), (.tmp 6), (.tmp 9)]), none⟩] []))⟩
theorem c41 : cFn Try.prog [] Try.f41 = some h41 := by kernel_rfl
/-- (*stint/queue.Queue[int]).All$1 -/
def h42 : HFn :=
  ⟨43, [],
    (.seq (.region [
      ⟨(some 3), (.op (.mv (.cst .nilSlice))), none⟩] [])
    (.seq (.seq (.region [
      ⟨(some 7), (.op (.load none (.tmp 1))), none⟩,
      ⟨(some 8), (.op (.nilc (.tmp 7))), none⟩,
      ⟨(some 9), (.op (.faddr 0 (.tmp 8))), none⟩,
      ⟨(some 10), (.op (.load none (.tmp 9))), none⟩,
      ⟨(some 4), (.op (.mv (.tmp 10))), none⟩] [])
    (.block 0
      (.loop
        (.seq (.seq (.region [
          ⟨(some 11), (.op (.mv (.tmp 4))), none⟩,
          ⟨(some 12), (.op (.bin .neq (some .ptr) (.tmp 11) (.cst .nilPtr))), none⟩] [])
        (.cond (.tmp 12)
          .skip
          (.exit 0)))
        (.seq (.block 1
          (.draw [
            ⟨(some 17), (.op (.mv (.tmp 3))), none⟩,
            ⟨(some 18), (.op (.mv (.tmp 4))), none⟩,
            ⟨(some 19), (.op (.nilc (.tmp 18))), none⟩,
            ⟨(some 20), (.op (.faddr 0 (.tmp 19))), none⟩,
            ⟨(some 21), (.op (.load none (.tmp 20))), none⟩,
            ⟨(some 22), (.op (.mv (.tmp 4))), none⟩,
            ⟨(some 23), (.op (.nilc (.tmp 22))), none⟩,
            ⟨(some 24), (.op (.faddr 1 (.tmp 23))), none⟩,
            ⟨(some 25), (.op (.load none (.tmp 24))), none⟩,
            ⟨(some 26), (.op (.build [(.int .i64 0), (.int .i64 0), .nilPtr, .nilPtr] [(0, 1, (.tmp 21)), (1, 1, (.tmp 25))])), none⟩,
            ⟨(some 27), (.op (.bslice 4 1 [(.int .i64 0), (.int .i64 0), .nilPtr, .nilPtr] [(0, 4, (.tmp 26))])), none⟩,
            ⟨(some 28), (.op (.append 4 32 (.tmp 17) (.tmp 27))), none⟩,
            ⟨(some 3), (.op (.mv (.tmp 28))), none⟩] [0, 1, 2, 3, 4, 5, 6, 7, 8, 9, 10, 11, 12] [[], [], [], [], [], [], [], [], [], [], [4, 8], [4, 8], []] []))
        (.region [
          ⟨(some 13), (.op (.mv (.tmp 4))), none⟩,
          ⟨(some 14), (.op (.nilc (.tmp 13))), none⟩,
          ⟨(some 15), (.op (.faddr 3 (.tmp 14))), none⟩,
          ⟨(some 16), (.op (.load none (.tmp 15))), none⟩,
          ⟨(some 4), (.op (.mv (.tmp 16))), none⟩] []))))))
    (.seq (.region [
      ⟨(some 29), (.op (.mv (.tmp 3))), none⟩,
      ⟨(some 30), (.op (.len .slice (.tmp 29))), none⟩,
      ⟨(some 31), (.op (.mv (.cst (.int .i64 0)))), none⟩] [])
    (.block 2
      (.loop
        (.seq (.region [
          ⟨(some 32), (.op (.bin .lss none (.tmp 31) (.tmp 30))), none⟩] [])
        (.seq (.cond (.tmp 32)
          .skip
          (.exit 2))
        (.seq (.block 3
          (.seq (.region [
            ⟨(some 33), (.op (.idxS 4 (.tmp 29) (.tmp 31))), none⟩,
            ⟨(some 34), (.op (.load (some 4) (.tmp 33))), none⟩,
            ⟨(some 6), (.op (.box (.cst (.agg [(.int .i64 0), (.int .i64 0), .nilPtr, .nilPtr])))), none⟩,
            ⟨none, (.op (.store 4 (.tmp 6) (.tmp 34))), none⟩] [])
          (.seq (.region [
            ⟨(some 35), (.op (.mv (.tmp 0))), none⟩,
            ⟨(some 36), (.op (.faddr 0 (.tmp 6))), none⟩,
            ⟨(some 37), (.op (.load none (.tmp 36))), none⟩,
            ⟨(some 38), (.op (.faddr 1 (.tmp 6))), none⟩,
            ⟨(some 39), (.op (.load none (.tmp 38))), none⟩,
            ⟨(some 40), (.call (.tmp 35) [(.tmp 37), (.tmp 39)]), none⟩,
            ⟨(some 41), (.op (.un .not (.tmp 40))), none⟩] [])
          (.cond (.tmp 41)
            .ret
            .skip))))
        (.region [
          ⟨(some 42), (.op (.bin .add none (.tmp 31) (.cst (.int .i64 1)))), none⟩,
          ⟨(some 31), (.op (.mv (.tmp 42))), none⟩] [])))))))))⟩
theorem c42 : cFn Try.prog [] Try.f42 = some h42 := by kernel_rfl
/-- math/bits.Len -/
def h44 : HFn :=
  ⟨8, [(.tmp 2)],
    (.seq (.region [
      ⟨(some 2), (.op (.mv (.cst (.int .i64 0)))), none⟩] [])
    (.seq (.cond (.cst (.bool false))
      (.seq (.region [
        ⟨(some 3), (.op (.mv (.tmp 0))), none⟩,
        ⟨(some 4), (.op (.cInt .u32 (.tmp 3))), none⟩,
        ⟨(some 5), (.call (.cst (.func (.func 56) [] [])) [(.tmp 4)]), none⟩,
        ⟨(some 2), (.op (.mv (.tmp 5))), none⟩] [])
      .ret)
      .skip)
    (.seq (.region [
      ⟨(some 6), (.op (.mv (.tmp 0))), none⟩,
      ⟨(some 7), (.call (.cst (.func (.func 57) [] [])) [(.tmp 6)]), none⟩,
      ⟨(some 2), (.op (.mv (.tmp 7))), none⟩] [])
    .ret)))⟩
theorem c44 : cFn Try.prog [] Try.f44 = some h44 := by kernel_rfl
/-- stint/names.may -/
def h45 : HFn :=
  ⟨25, [(.tmp 2)],
    (.seq (.region [
      ⟨(some 2), (.op (.mv (.cst (.bool false)))), none⟩] [])
    (.seq (.block 0
      (.seq (.seq (.region [
        ⟨(some 4), (.op (.mv (.tmp 0))), none⟩,
        ⟨(some 5), (.op (.bin .geq none (.tmp 4) (.cst (.int .u8 97)))), none⟩,
        ⟨(some 6), (.op (.mv (.tmp 5))), none⟩,
        ⟨(some 7), (.op (.mv (.tmp 0))), (some (6, true))⟩,
        ⟨(some 8), (.op (.bin .leq none (.tmp 7) (.cst (.int .u8 122)))), (some (6, true))⟩,
        ⟨(some 9), (.op (.pick (.tmp 6) (.tmp 8) (.cst (.bool false)))), none⟩,
        ⟨(some 3), (.op (.mv (.tmp 9))), none⟩] [])
      (.cond (.tmp 3)
        .skip
        (.seq (.region [
          ⟨(some 10), (.op (.mv (.tmp 0))), none⟩,
          ⟨(some 11), (.op (.bin .geq none (.tmp 10) (.cst (.int .u8 65)))), none⟩,
          ⟨(some 12), (.op (.mv (.tmp 11))), none⟩,
          ⟨(some 13), (.op (.mv (.tmp 0))), (some (12, true))⟩,
          ⟨(some 14), (.op (.bin .leq none (.tmp 13) (.cst (.int .u8 90)))), (some (12, true))⟩,
          ⟨(some 15), (.op (.pick (.tmp 12) (.tmp 14) (.cst (.bool false)))), none⟩,
          ⟨(some 3), (.op (.mv (.tmp 15))), none⟩] [])
        (.cond (.tmp 3)
          .skip
          (.region [
            ⟨(some 16), (.op (.mv (.tmp 0))), none⟩,
            ⟨(some 17), (.op (.bin .geq none (.tmp 16) (.cst (.int .u8 48)))), none⟩,
            ⟨(some 18), (.op (.mv (.tmp 17))), none⟩,
            ⟨(some 19), (.op (.mv (.tmp 0))), (some (18, true))⟩,
            ⟨(some 20), (.op (.bin .leq none (.tmp 19) (.cst (.int .u8 57)))), (some (18, true))⟩,
            ⟨(some 21), (.op (.pick (.tmp 18) (.tmp 20) (.cst (.bool false)))), none⟩,
            ⟨(some 3), (.op (.mv (.tmp 21))), none⟩] [])))))
      (.cond (.tmp 3)
        (.seq (.region [
          ⟨(some 2), (.op (.mv (.cst (.bool true)))), none⟩] [])
        .ret)
        .skip)))
    (.seq (.region [
      ⟨(some 22), (.op (.mv (.tmp 0))), none⟩,
      ⟨(some 23), (.call (.cst (.func (.func 58) [] [])) [(.cst (.str [45, 43, 47, 59, 46, 36, 95, 40, 41])), (.tmp 22)]), none⟩,
      ⟨(some 24), (.op (.bin .geq none (.tmp 23) (.cst (.int .i64 0)))), none⟩,
      ⟨(some 2), (.op (.mv (.tmp 24))), none⟩] [])
    .ret)))⟩
theorem c45 : cFn Try.prog [] Try.f45 = some h45 := by kernel_rfl
/-- slices.pdqsortOrdered[string] -/
def h46 : HFn :=
  ⟨134, [],
    (.seq (.region [
      ⟨(some 8), (.op (.mv (.cst (.bool true)))), none⟩] [])
    (.seq (.region [
      ⟨(some 9), (.op (.mv (.cst (.bool true)))), none⟩] [])
    (.block 0
      (.loop
        (.block 1
          (.seq (.region [
            ⟨(some 19), (.op (.mv (.tmp 2))), none⟩,
            ⟨(some 20), (.op (.mv (.tmp 1))), none⟩,
            ⟨(some 21), (.op (.bin .sub none (.tmp 19) (.tmp 20))), none⟩,
            ⟨(some 10), (.op (.mv (.tmp 21))), none⟩] [])
          (.seq (.seq (.region [
            ⟨(some 22), (.op (.mv (.tmp 10))), none⟩,
            ⟨(some 23), (.op (.bin .leq none (.tmp 22) (.cst (.int .i64 12)))), none⟩] [])
          (.cond (.tmp 23)
            (.seq (.region [
              ⟨(some 24), (.op (.mv (.tmp 0))), none⟩,
              ⟨(some 25), (.op (.mv (.tmp 1))), none⟩,
              ⟨(some 26), (.op (.mv (.tmp 2))), none⟩,
              ⟨(some 27), (.call (.cst (.func (.func 59) [] [])) [(.tmp 24), (.tmp 25), (.tmp 26)]), none⟩] [])
            .ret)
            .skip))
          (.seq (.seq (.region [
            ⟨(some 28), (.op (.mv (.tmp 3))), none⟩,
            ⟨(some 29), (.op (.bin .eql (some .int) (.tmp 28) (.cst (.int .i64 0)))), none⟩] [])
          (.cond (.tmp 29)
            (.seq (.region [
              ⟨(some 30), (.op (.mv (.tmp 0))), none⟩,
              ⟨(some 31), (.op (.mv (.tmp 1))), none⟩,
              ⟨(some 32), (.op (.mv (.tmp 2))), none⟩,
              ⟨(some 33), (.call (.cst (.func (.func 60) [] [])) [(.tmp 30), (.tmp 31), (.tmp 32)]), none⟩] [])
            .ret)
            .skip))
          (.seq (.seq (.region [
            ⟨(some 34), (.op (.mv (.tmp 8))), none⟩,
            ⟨(some 35), (.op (.un .not (.tmp 34))), none⟩] [])
          (.cond (.tmp 35)
            (.seq (.region [
              ⟨(some 36), (.op (.mv (.tmp 0))), none⟩,
              ⟨(some 37), (.op (.mv (.tmp 1))), none⟩,
              ⟨(some 38), (.op (.mv (.tmp 2))), none⟩,
              ⟨(some 39), (.call (.cst (.func (.func 61) [] [])) [(.tmp 36), (.tmp 37), (.tmp 38)]), none⟩] [])
            (.region [
              ⟨(some 40), (.op (.mv (.tmp 3))), none⟩,
              ⟨(some 41), (.op (.bin .sub none (.tmp 40) (.cst (.int .i64 1)))), none⟩,
              ⟨(some 3), (.op (.mv (.tmp 41))), none⟩] []))
            .skip))
          (.seq (.region [
            ⟨(some 43), (.op (.mv (.tmp 0))), none⟩,
            ⟨(some 44), (.op (.mv (.tmp 1))), none⟩,
            ⟨(some 45), (.op (.mv (.tmp 2))), none⟩,
            ⟨(some 46), (.call (.cst (.func (.func 62) [] [])) [(.tmp 43), (.tmp 44), (.tmp 45)]), none⟩,
            ⟨(some 42), (.op (.mv (.tmp 46))), none⟩,
            ⟨(some 47), (.op (.ext 0 (.tmp 42))), none⟩,
            ⟨(some 48), (.op (.ext 1 (.tmp 42))), none⟩,
            ⟨(some 11), (.op (.mv (.tmp 47))), none⟩,
            ⟨(some 12), (.op (.mv (.tmp 48))), none⟩] [])
          (.seq (.seq (.region [
            ⟨(some 49), (.op (.mv (.tmp 12))), none⟩,
            ⟨(some 50), (.op (.bin .eql (some .int) (.tmp 49) (.cst (.int .i64 2)))), none⟩] [])
          (.cond (.tmp 50)
            (.seq (.region [
              ⟨(some 51), (.op (.mv (.tmp 0))), none⟩,
              ⟨(some 52), (.op (.mv (.tmp 1))), none⟩,
              ⟨(some 53), (.op (.mv (.tmp 2))), none⟩,
              ⟨(some 54), (.call (.cst (.func (.func 63) [] [])) [(.tmp 51), (.tmp 52), (.tmp 53)]), none⟩] [])
            (.seq (.region [
              ⟨(some 55), (.op (.mv (.tmp 2))), none⟩,
              ⟨(some 56), (.op (.bin .sub none (.tmp 55) (.cst (.int .i64 1)))), none⟩,
              ⟨(some 57), (.op (.mv (.tmp 11))), none⟩,
              ⟨(some 58), (.op (.mv (.tmp 1))), none⟩,
              ⟨(some 59), (.op (.bin .sub none (.tmp 57) (.tmp 58))), none⟩,
              ⟨(some 60), (.op (.bin .sub none (.tmp 56) (.tmp 59))), none⟩,
              ⟨(some 11), (.op (.mv (.tmp 60))), none⟩] [])
            (.region [
              ⟨(some 12), (.op (.mv (.cst (.int .i64 1)))), none⟩] [])))
            .skip))
          (.seq (.seq (.region [
            ⟨(some 61), (.op (.mv (.tmp 8))), none⟩,
            ⟨(some 62), (.op (.mv (.tmp 61))), none⟩,
            ⟨(some 63), (.op (.mv (.tmp 9))), (some (62, true))⟩,
            ⟨(some 64), (.op (.pick (.tmp 62) (.tmp 63) (.cst (.bool false)))), none⟩,
            ⟨(some 65), (.op (.mv (.tmp 64))), none⟩,
            ⟨(some 66), (.op (.mv (.tmp 12))), (some (65, true))⟩,
            ⟨(some 67), (.op (.bin .eql (some .int) (.tmp 66) (.cst (.int .i64 1)))), (some (65, true))⟩,
            ⟨(some 68), (.op (.pick (.tmp 65) (.tmp 67) (.cst (.bool false)))), none⟩] [])
          (.cond (.tmp 68)
            (.seq (.region [
              ⟨(some 69), (.op (.mv (.tmp 0))), none⟩,
              ⟨(some 70), (.op (.mv (.tmp 1))), none⟩,
              ⟨(some 71), (.op (.mv (.tmp 2))), none⟩,
              ⟨(some 72), (.call (.cst (.func (.func 64) [] [])) [(.tmp 69), (.tmp 70), (.tmp 71)]), none⟩] [])
            (.cond (.tmp 72)
              .ret
              .skip))
            .skip))
          (.seq (.seq (.draw [
            ⟨(some 73), (.op (.mv (.tmp 1))), none⟩,
            ⟨(some 74), (.op (.bin .gtr none (.tmp 73) (.cst (.int .i64 0)))), none⟩,
            ⟨(some 75), (.op (.mv (.tmp 74))), none⟩,
            ⟨(some 76), (.op (.mv (.tmp 0))), (some (75, true))⟩,
            ⟨(some 77), (.op (.mv (.tmp 1))), (some (75, true))⟩,
            ⟨(some 78), (.op (.bin .sub none (.tmp 77) (.cst (.int .i64 1)))), (some (75, true))⟩,
            ⟨(some 79), (.op (.idxS 1 (.tmp 76) (.tmp 78))), (some (75, true))⟩,
            ⟨(some 80), (.op (.load none (.tmp 79))), (some (75, true))⟩,
            ⟨(some 81), (.op (.mv (.tmp 0))), (some (75, true))⟩,
            ⟨(some 82), (.op (.mv (.tmp 11))), (some (75, true))⟩,
            ⟨(some 83), (.op (.idxS 1 (.tmp 81) (.tmp 82))), (some (75, true))⟩,
            ⟨(some 84), (.op (.load none (.tmp 83))), (some (75, true))⟩,
            ⟨(some 85), (.call (.cst (.func (.func 65) [] [])) [(.tmp 80), (.tmp 84)]), (some (75, true))⟩,
            ⟨(some 86), (.op (.un .not (.tmp 85))), (some (75, true))⟩,
            ⟨(some 87), (.op (.pick (.tmp 75) (.tmp 86) (.cst (.bool false)))), none⟩] [0, 1, 2, 3, 4, 5, 6, 7, 8, 9, 10, 11, 12, 13, 14] [[], [], [], [], [], [], [], [], [], [], [], [], [7, 6, 11, 10], [], []] [])
          (.cond (.tmp 87)
            (.seq (.region [
              ⟨(some 88), (.op (.mv (.tmp 0))), none⟩,
              ⟨(some 89), (.op (.mv (.tmp 1))), none⟩,
              ⟨(some 90), (.op (.mv (.tmp 2))), none⟩,
              ⟨(some 91), (.op (.mv (.tmp 11))), none⟩,
              ⟨(some 92), (.call (.cst (.func (.func 66) [] [])) [(.tmp 88), (.tmp 89), (.tmp 90), (.tmp 91)]), none⟩,
              ⟨(some 13), (.op (.mv (.tmp 92))), none⟩] [])
            (.seq (.region [
              ⟨(some 93), (.op (.mv (.tmp 13))), none⟩,
              ⟨(some 1), (.op (.mv (.tmp 93))), none⟩] [])
            (.exit 1)))
            .skip))
          (.seq (.region [
            ⟨(some 95), (.op (.mv (.tmp 0))), none⟩,
            ⟨(some 96), (.op (.mv (.tmp 1))), none⟩,
            ⟨(some 97), (.op (.mv (.tmp 2))), none⟩,
            ⟨(some 98), (.op (.mv (.tmp 11))), none⟩,
            ⟨(some 99), (.call (.cst (.func (.func 67) [] [])) [(.tmp 95), (.tmp 96), (.tmp 97), (.tmp 98)]), none⟩,
            ⟨(some 94), (.op (.mv (.tmp 99))), none⟩,
            ⟨(some 100), (.op (.ext 0 (.tmp 94))), none⟩,
            ⟨(some 101), (.op (.ext 1 (.tmp 94))), none⟩,
            ⟨(some 14), (.op (.mv (.tmp 100))), none⟩,
            ⟨(some 15), (.op (.mv (.tmp 101))), none⟩] [])
          (.seq (.region [
            ⟨(some 102), (.op (.mv (.tmp 15))), none⟩,
            ⟨(some 9), (.op (.mv (.tmp 102))), none⟩] [])
          (.seq (.region [
            ⟨(some 103), (.op (.mv (.tmp 14))), none⟩,
            ⟨(some 104), (.op (.mv (.tmp 1))), none⟩,
            ⟨(some 105), (.op (.bin .sub none (.tmp 103) (.tmp 104))), none⟩,
            ⟨(some 106), (.op (.mv (.tmp 2))), none⟩,
            ⟨(some 107), (.op (.mv (.tmp 14))), none⟩,
            ⟨(some 108), (.op (.bin .sub none (.tmp 106) (.tmp 107))), none⟩,
            ⟨(some 16), (.op (.mv (.tmp 105))), none⟩,
            ⟨(some 17), (.op (.mv (.tmp 108))), none⟩] [])
          (.seq (.region [
            ⟨(some 109), (.op (.mv (.tmp 10))), none⟩,
            ⟨(some 110), (.op (.bin .quo none (.tmp 109) (.cst (.int .i64 8)))), none⟩,
            ⟨(some 18), (.op (.mv (.tmp 110))), none⟩] [])
          (.seq (.region [
            ⟨(some 111), (.op (.mv (.tmp 16))), none⟩,
            ⟨(some 112), (.op (.mv (.tmp 17))), none⟩,
            ⟨(some 113), (.op (.bin .lss none (.tmp 111) (.tmp 112))), none⟩] [])
          (.cond (.tmp 113)
            (.seq (.region [
              ⟨(some 114), (.op (.mv (.tmp 16))), none⟩,
              ⟨(some 115), (.op (.mv (.tmp 18))), none⟩,
              ⟨(some 116), (.op (.bin .geq none (.tmp 114) (.tmp 115))), none⟩,
              ⟨(some 8), (.op (.mv (.tmp 116))), none⟩] [])
            (.seq (.region [
              ⟨(some 117), (.op (.mv (.tmp 0))), none⟩,
              ⟨(some 118), (.op (.mv (.tmp 1))), none⟩,
              ⟨(some 119), (.op (.mv (.tmp 14))), none⟩,
              ⟨(some 120), (.op (.mv (.tmp 3))), none⟩,
              ⟨(some 121), (.call (.cst (.func (.func 46) [] [])) [(.tmp 117), (.tmp 118), (.tmp 119), (.tmp 120)]), none⟩] [])
            (.region [
              ⟨(some 122), (.op (.mv (.tmp 14))), none⟩,
              ⟨(some 123), (.op (.bin .add none (.tmp 122) (.cst (.int .i64 1)))), none⟩,
              ⟨(some 1), (.op (.mv (.tmp 123))), none⟩] [])))
            (.seq (.region [
              ⟨(some 124), (.op (.mv (.tmp 17))), none⟩,
              ⟨(some 125), (.op (.mv (.tmp 18))), none⟩,
              ⟨(some 126), (.op (.bin .geq none (.tmp 124) (.tmp 125))), none⟩,
              ⟨(some 8), (.op (.mv (.tmp 126))), none⟩] [])
            (.seq (.region [
              ⟨(some 127), (.op (.mv (.tmp 0))), none⟩,
              ⟨(some 128), (.op (.mv (.tmp 14))), none⟩,
              ⟨(some 129), (.op (.bin .add none (.tmp 128) (.cst (.int .i64 1)))), none⟩,
              ⟨(some 130), (.op (.mv (.tmp 2))), none⟩,
              ⟨(some 131), (.op (.mv (.tmp 3))), none⟩,
              ⟨(some 132), (.call (.cst (.func (.func 46) [] [])) [(.tmp 127), (.tmp 129), (.tmp 130), (.tmp 131)]), none⟩] [])
            (.region [
              ⟨(some 133), (.op (.mv (.tmp 14))), none⟩,
              ⟨(some 2), (.op (.mv (.tmp 133))), none⟩] []))))))))))))))))))))))⟩
theorem c46 : cFn Try.prog [] Try.f46 = some h46 := by kernel_rfl
/-- math/bits.Len32 -/
def h56 : HFn :=
  ⟨19, [(.tmp 2)],
    (.seq (.region [
      ⟨(some 2), (.op (.mv (.cst (.int .i64 0)))), none⟩] [])
    (.seq (.seq (.region [
      ⟨(some 3), (.op (.mv (.tmp 0))), none⟩,
      ⟨(some 4), (.op (.bin .geq none (.tmp 3) (.cst (.int .u32 65536)))), none⟩] [])
    (.cond (.tmp 4)
      (.seq (.region [
        ⟨(some 5), (.op (.mv (.tmp 0))), none⟩,
        ⟨(some 6), (.op (.bin .shr none (.tmp 5) (.cst (.int .u64 16)))), none⟩,
        ⟨(some 0), (.op (.mv (.tmp 6))), none⟩] [])
      (.region [
        ⟨(some 2), (.op (.mv (.cst (.int .i64 16)))), none⟩] []))
      .skip))
    (.seq (.seq (.region [
      ⟨(some 7), (.op (.mv (.tmp 0))), none⟩,
      ⟨(some 8), (.op (.bin .geq none (.tmp 7) (.cst (.int .u32 256)))), none⟩] [])
    (.cond (.tmp 8)
      (.seq (.region [
        ⟨(some 9), (.op (.mv (.tmp 0))), none⟩,
        ⟨(some 10), (.op (.bin .shr none (.tmp 9) (.cst (.int .u64 8)))), none⟩,
        ⟨(some 0), (.op (.mv (.tmp 10))), none⟩] [])
      (.region [
        ⟨(some 11), (.op (.mv (.tmp 2))), none⟩,
        ⟨(some 12), (.op (.bin .add none (.tmp 11) (.cst (.int .i64 8)))), none⟩,
        ⟨(some 2), (.op (.mv (.tmp 12))), none⟩] []))
      .skip))
    (.seq (.region [
      ⟨(some 13), (.op (.mv (.tmp 2))), none⟩,
      ⟨(some 14), (.op (.mv (.tmp 0))), none⟩,
      ⟨(some 15), (.op (.cInt .u8 (.tmp 14))), none⟩,
      ⟨(some 16), (.op (.idxStr (.cst (.str [0, 1, 2, 2, 3, 3, 3, 3, 4, 4, 4, 4, 4, 4, 4, 4, 5, 5, 5, 5, 5, 5, 5, 5, 5, 5, 5, 5, 5, 5, 5, 5, 6, 6, 6, 6, 6, 6, 6, 6, 6, 6, 6, 6, 6, 6, 6, 6, 6, 6, 6, 6, 6, 6, 6, 6, 6, 6, 6, 6, 6, 6, 6, 6, 7, 7, 7, 7, 7, 7, 7, 7, 7, 7, 7, 7, 7, 7, 7, 7, 7, 7, 7, 7, 7, 7, 7, 7, 7, 7, 7, 7, 7, 7, 7, 7, 7, 7, 7, 7, 7, 7, 7, 7, 7, 7, 7, 7, 7, 7, 7, 7, 7, 7, 7, 7, 7, 7, 7, 7, 7, 7, 7, 7, 7, 7, 7, 7, 8, 8, 8, 8, 8, 8, 8, 8, 8, 8, 8, 8, 8, 8, 8, 8, 8, 8, 8, 8, 8, 8, 8, 8, 8, 8, 8, 8, 8, 8, 8, 8, 8, 8, 8, 8, 8, 8, 8, 8, 8, 8, 8, 8, 8, 8, 8, 8, 8, 8, 8, 8, 8, 8, 8, 8, 8, 8, 8, 8, 8, 8, 8, 8, 8, 8, 8, 8, 8, 8, 8, 8, 8, 8, 8, 8, 8, 8, 8, 8, 8, 8, 8, 8, 8, 8, 8, 8, 8, 8, 8, 8, 8, 8, 8, 8, 8, 8, 8, 8, 8, 8, 8, 8, 8, 8, 8, 8, 8, 8, 8, 8, 8, 8, 8, 8, 8, 8, 8, 8, 8, 8, 8, 8, 8, 8, 8, 8])) (.tmp 15))), none⟩,
      ⟨(some 17), (.op (.cInt .i64 (.tmp 16))), none⟩,
      ⟨(some 18), (.op (.bin .add none (.tmp 13) (.tmp 17))), none⟩,
      ⟨(some 2), (.op (.mv (.tmp 18))), none⟩] [])
    .ret))))⟩
theorem c56 : cFn Try.prog [] Try.f56 = some h56 := by kernel_rfl
/-- math/bits.Len64 -/
def h57 : HFn :=
  ⟨25, [(.tmp 2)],
    (.seq (.region [
      ⟨(some 2), (.op (.mv (.cst (.int .i64 0)))), none⟩] [])
    (.seq (.seq (.region [
      ⟨(some 3), (.op (.mv (.tmp 0))), none⟩,
      ⟨(some 4), (.op (.bin .geq none (.tmp 3) (.cst (.int .u64 4294967296)))), none⟩] [])
    (.cond (.tmp 4)
      (.seq (.region [
        ⟨(some 5), (.op (.mv (.tmp 0))), none⟩,
        ⟨(some 6), (.op (.bin .shr none (.tmp 5) (.cst (.int .u64 32)))), none⟩,
        ⟨(some 0), (.op (.mv (.tmp 6))), none⟩] [])
      (.region [
        ⟨(some 2), (.op (.mv (.cst (.int .i64 32)))), none⟩] []))
      .skip))
    (.seq (.seq (.region [
      ⟨(some 7), (.op (.mv (.tmp 0))), none⟩,
      ⟨(some 8), (.op (.bin .geq none (.tmp 7) (.cst (.int .u64 65536)))), none⟩] [])
    (.cond (.tmp 8)
      (.seq (.region [
        ⟨(some 9), (.op (.mv (.tmp 0))), none⟩,
        ⟨(some 10), (.op (.bin .shr none (.tmp 9) (.cst (.int .u64 16)))), none⟩,
        ⟨(some 0), (.op (.mv (.tmp 10))), none⟩] [])
      (.region [
        ⟨(some 11), (.op (.mv (.tmp 2))), none⟩,
        ⟨(some 12), (.op (.bin .add none (.tmp 11) (.cst (.int .i64 16)))), none⟩,
        ⟨(some 2), (.op (.mv (.tmp 12))), none⟩] []))
      .skip))
    (.seq (.seq (.region [
      ⟨(some 13), (.op (.mv (.tmp 0))), none⟩,
      ⟨(some 14), (.op (.bin .geq none (.tmp 13) (.cst (.int .u64 256)))), none⟩] [])
    (.cond (.tmp 14)
      (.seq (.region [
        ⟨(some 15), (.op (.mv (.tmp 0))), none⟩,
        ⟨(some 16), (.op (.bin .shr none (.tmp 15) (.cst (.int .u64 8)))), none⟩,
        ⟨(some 0), (.op (.mv (.tmp 16))), none⟩] [])
      (.region [
        ⟨(some 17), (.op (.mv (.tmp 2))), none⟩,
        ⟨(some 18), (.op (.bin .add none (.tmp 17) (.cst (.int .i64 8)))), none⟩,
        ⟨(some 2), (.op (.mv (.tmp 18))), none⟩] []))
      .skip))
    (.seq (.region [
      ⟨(some 19), (.op (.mv (.tmp 2))), none⟩,
      ⟨(some 20), (.op (.mv (.tmp 0))), none⟩,
      ⟨(some 21), (.op (.cInt .u8 (.tmp 20))), none⟩,
      ⟨(some 22), (.op (.idxStr (.cst (.str [0, 1, 2, 2, 3, 3, 3, 3, 4, 4, 4, 4, 4, 4, 4, 4, 5, 5, 5, 5, 5, 5, 5, 5, 5, 5, 5, 5, 5, 5, 5, 5, 6, 6, 6, 6, 6, 6, 6, 6, 6, 6, 6, 6, 6, 6, 6, 6, 6, 6, 6, 6, 6, 6, 6, 6, 6, 6, 6, 6, 6, 6, 6, 6, 7, 7, 7, 7, 7, 7, 7, 7, 7, 7, 7, 7, 7, 7, 7, 7, 7, 7, 7, 7, 7, 7, 7, 7, 7, 7, 7, 7, 7, 7, 7, 7, 7, 7, 7, 7, 7, 7, 7, 7, 7, 7, 7, 7, 7, 7, 7, 7, 7, 7, 7, 7, 7, 7, 7, 7, 7, 7, 7, 7, 7, 7, 7, 7, 8, 8, 8, 8, 8, 8, 8, 8, 8, 8, 8, 8, 8, 8, 8, 8, 8, 8, 8, 8, 8, 8, 8, 8, 8, 8, 8, 8, 8, 8, 8, 8, 8, 8, 8, 8, 8, 8, 8, 8, 8, 8, 8, 8, 8, 8, 8, 8, 8, 8, 8, 8, 8, 8, 8, 8, 8, 8, 8, 8, 8, 8, 8, 8, 8, 8, 8, 8, 8, 8, 8, 8, 8, 8, 8, 8, 8, 8, 8, 8, 8, 8, 8, 8, 8, 8, 8, 8, 8, 8, 8, 8, 8, 8, 8, 8, 8, 8, 8, 8, 8, 8, 8, 8, 8, 8, 8, 8, 8, 8, 8, 8, 8, 8, 8, 8, 8, 8, 8, 8, 8, 8, 8, 8, 8, 8, 8, 8])) (.tmp 21))), none⟩,
      ⟨(some 23), (.op (.cInt .i64 (.tmp 22))), none⟩,
      ⟨(some 24), (.op (.bin .add none (.tmp 19) (.tmp 23))), none⟩,
      ⟨(some 2), (.op (.mv (.tmp 24))), none⟩] [])
    .ret)))))⟩
theorem c57 : cFn Try.prog [] Try.f57 = some h57 := by kernel_rfl
/-- strings.IndexByte -/
def h58 : HFn :=
  ⟨8, [(.tmp 4)],
    (.seq (.region [
      ⟨(some 4), (.op (.mv (.cst (.int .i64 0)))), none⟩] [])
    (.seq (.region [
      ⟨(some 5), (.op (.mv (.tmp 0))), none⟩,
      ⟨(some 6), (.op (.mv (.tmp 1))), none⟩,
      ⟨(some 7), (.call (.cst (.func (.func 74) [] [])) [(.tmp 5), (.tmp 6)]), none⟩,
      ⟨(some 4), (.op (.mv (.tmp 7))), none⟩] [])
    .ret))⟩
theorem c58 : cFn Try.prog [] Try.f58 = some h58 := by kernel_rfl
/-- slices.insertionSortOrdered[string] -/
def h59 : HFn :=
  ⟨49, [],
    (.seq (.region [
      ⟨(some 8), (.op (.mv (.tmp 1))), none⟩,
      ⟨(some 9), (.op (.bin .add none (.tmp 8) (.cst (.int .i64 1)))), none⟩,
      ⟨(some 6), (.op (.mv (.tmp 9))), none⟩] [])
    (.block 0
      (.loop
        (.seq (.seq (.region [
          ⟨(some 10), (.op (.mv (.tmp 6))), none⟩,
          ⟨(some 11), (.op (.mv (.tmp 2))), none⟩,
          ⟨(some 12), (.op (.bin .lss none (.tmp 10) (.tmp 11))), none⟩] [])
        (.cond (.tmp 12)
          .skip
          (.exit 0)))
        (.seq (.block 1
          (.seq (.region [
            ⟨(some 15), (.op (.mv (.tmp 6))), none⟩,
            ⟨(some 7), (.op (.mv (.tmp 15))), none⟩] [])
          (.block 2
            (.loop
              (.seq (.seq (.draw [
                ⟨(some 16), (.op (.mv (.tmp 7))), none⟩,
                ⟨(some 17), (.op (.mv (.tmp 1))), none⟩,
                ⟨(some 18), (.op (.bin .gtr none (.tmp 16) (.tmp 17))), none⟩,
                ⟨(some 19), (.op (.mv (.tmp 18))), none⟩,
                ⟨(some 20), (.op (.mv (.tmp 0))), (some (19, true))⟩,
                ⟨(some 21), (.op (.mv (.tmp 7))), (some (19, true))⟩,
                ⟨(some 22), (.op (.idxS 1 (.tmp 20) (.tmp 21))), (some (19, true))⟩,
                ⟨(some 23), (.op (.load none (.tmp 22))), (some (19, true))⟩,
                ⟨(some 24), (.op (.mv (.tmp 0))), (some (19, true))⟩,
                ⟨(some 25), (.op (.mv (.tmp 7))), (some (19, true))⟩,
                ⟨(some 26), (.op (.bin .sub none (.tmp 25) (.cst (.int .i64 1)))), (some (19, true))⟩,
                ⟨(some 27), (.op (.idxS 1 (.tmp 24) (.tmp 26))), (some (19, true))⟩,
                ⟨(some 28), (.op (.load none (.tmp 27))), (some (19, true))⟩,
                ⟨(some 29), (.call (.cst (.func (.func 65) [] [])) [(.tmp 23), (.tmp 28)]), (some (19, true))⟩,
                ⟨(some 30), (.op (.pick (.tmp 19) (.tmp 29) (.cst (.bool false)))), none⟩] [0, 1, 2, 3, 4, 5, 6, 7, 8, 9, 10, 11, 12, 13, 14] [[], [], [], [], [], [], [], [], [], [], [], [], [], [7, 6, 12, 11], []] [])
              (.cond (.tmp 30)
                .skip
                (.exit 2)))
              (.seq (.block 3
                (.draw [
                  ⟨(some 33), (.op (.mv (.tmp 0))), none⟩,
                  ⟨(some 34), (.op (.mv (.tmp 7))), none⟩,
                  ⟨(some 35), (.op (.mv (.tmp 0))), none⟩,
                  ⟨(some 36), (.op (.mv (.tmp 7))), none⟩,
                  ⟨(some 37), (.op (.bin .sub none (.tmp 36) (.cst (.int .i64 1)))), none⟩,
                  ⟨(some 38), (.op (.mv (.tmp 0))), none⟩,
                  ⟨(some 39), (.op (.mv (.tmp 7))), none⟩,
                  ⟨(some 40), (.op (.bin .sub none (.tmp 39) (.cst (.int .i64 1)))), none⟩,
                  ⟨(some 41), (.op (.idxS 1 (.tmp 38) (.tmp 40))), none⟩,
                  ⟨(some 42), (.op (.load none (.tmp 41))), none⟩,
                  ⟨(some 43), (.op (.mv (.tmp 0))), none⟩,
                  ⟨(some 44), (.op (.mv (.tmp 7))), none⟩,
                  ⟨(some 45), (.op (.idxS 1 (.tmp 43) (.tmp 44))), none⟩,
                  ⟨(some 46), (.op (.load none (.tmp 45))), none⟩,
                  ⟨(some 47), (.op (.idxS 1 (.tmp 33) (.tmp 34))), none⟩,
                  ⟨none, (.op (.store 1 (.tmp 47) (.tmp 42))), none⟩,
                  ⟨(some 48), (.op (.idxS 1 (.tmp 35) (.tmp 37))), none⟩,
                  ⟨none, (.op (.store 1 (.tmp 48) (.tmp 46))), none⟩] [0, 1, 2, 3, 4, 5, 6, 7, 8, 9, 10, 11, 12, 13, 14, 15, 16, 17] [[], [], [], [], [], [], [], [], [], [], [], [], [], [], [], [14, 8, 9, 13, 12], [], [16, 8, 9, 12, 13, 14]] []))
              (.region [
                ⟨(some 31), (.op (.mv (.tmp 7))), none⟩,
                ⟨(some 32), (.op (.bin .sub none (.tmp 31) (.cst (.int .i64 1)))), none⟩,
                ⟨(some 7), (.op (.mv (.tmp 32))), none⟩] [])))))))
        (.region [
          ⟨(some 13), (.op (.mv (.tmp 6))), none⟩,
          ⟨(some 14), (.op (.bin .add none (.tmp 13) (.cst (.int .i64 1)))), none⟩,
          ⟨(some 6), (.op (.mv (.tmp 14))), none⟩] []))))))⟩
theorem c59 : cFn Try.prog [] Try.f59 = some h59 := by kernel_rfl
/-- slices.heapSortOrdered[string] -/
def h60 : HFn :=
  ⟨56, [],
    (.seq (.region [
      ⟨(some 11), (.op (.mv (.tmp 1))), none⟩,
      ⟨(some 6), (.op (.mv (.tmp 11))), none⟩] [])
    (.seq (.region [
      ⟨(some 7), (.op (.mv (.cst (.int .i64 0)))), none⟩] [])
    (.seq (.region [
      ⟨(some 12), (.op (.mv (.tmp 2))), none⟩,
      ⟨(some 13), (.op (.mv (.tmp 1))), none⟩,
      ⟨(some 14), (.op (.bin .sub none (.tmp 12) (.tmp 13))), none⟩,
      ⟨(some 8), (.op (.mv (.tmp 14))), none⟩] [])
    (.seq (.seq (.region [
      ⟨(some 15), (.op (.mv (.tmp 8))), none⟩,
      ⟨(some 16), (.op (.bin .sub none (.tmp 15) (.cst (.int .i64 1)))), none⟩,
      ⟨(some 17), (.op (.bin .quo none (.tmp 16) (.cst (.int .i64 2)))), none⟩,
      ⟨(some 9), (.op (.mv (.tmp 17))), none⟩] [])
    (.block 0
      (.loop
        (.seq (.seq (.region [
          ⟨(some 18), (.op (.mv (.tmp 9))), none⟩,
          ⟨(some 19), (.op (.bin .geq none (.tmp 18) (.cst (.int .i64 0)))), none⟩] [])
        (.cond (.tmp 19)
          .skip
          (.exit 0)))
        (.seq (.block 1
          (.region [
            ⟨(some 22), (.op (.mv (.tmp 0))), none⟩,
            ⟨(some 23), (.op (.mv (.tmp 9))), none⟩,
            ⟨(some 24), (.op (.mv (.tmp 8))), none⟩,
            ⟨(some 25), (.op (.mv (.tmp 6))), none⟩,
            ⟨(some 26), (.call (.cst (.func (.func 75) [] [])) [(.tmp 22), (.tmp 23), (.tmp 24), (.tmp 25)]), none⟩] []))
        (.region [
          ⟨(some 20), (.op (.mv (.tmp 9))), none⟩,
          ⟨(some 21), (.op (.bin .sub none (.tmp 20) (.cst (.int .i64 1)))), none⟩,
          ⟨(some 9), (.op (.mv (.tmp 21))), none⟩] []))))))
    (.seq (.region [
      ⟨(some 27), (.op (.mv (.tmp 8))), none⟩,
      ⟨(some 28), (.op (.bin .sub none (.tmp 27) (.cst (.int .i64 1)))), none⟩,
      ⟨(some 10), (.op (.mv (.tmp 28))), none⟩] [])
    (.block 2
      (.loop
        (.seq (.seq (.region [
          ⟨(some 29), (.op (.mv (.tmp 10))), none⟩,
          ⟨(some 30), (.op (.bin .geq none (.tmp 29) (.cst (.int .i64 0)))), none⟩] [])
        (.cond (.tmp 30)
          .skip
          (.exit 2)))
        (.seq (.block 3
          (.seq (.draw [
            ⟨(some 33), (.op (.mv (.tmp 0))), none⟩,
            ⟨(some 34), (.op (.mv (.tmp 6))), none⟩,
            ⟨(some 35), (.op (.mv (.tmp 0))), none⟩,
            ⟨(some 36), (.op (.mv (.tmp 6))), none⟩,
            ⟨(some 37), (.op (.mv (.tmp 10))), none⟩,
            ⟨(some 38), (.op (.bin .add none (.tmp 36) (.tmp 37))), none⟩,
            ⟨(some 39), (.op (.mv (.tmp 0))), none⟩,
            ⟨(some 40), (.op (.mv (.tmp 6))), none⟩,
            ⟨(some 41), (.op (.mv (.tmp 10))), none⟩,
            ⟨(some 42), (.op (.bin .add none (.tmp 40) (.tmp 41))), none⟩,
            ⟨(some 43), (.op (.idxS 1 (.tmp 39) (.tmp 42))), none⟩,
            ⟨(some 44), (.op (.load none (.tmp 43))), none⟩,
            ⟨(some 45), (.op (.mv (.tmp 0))), none⟩,
            ⟨(some 46), (.op (.mv (.tmp 6))), none⟩,
            ⟨(some 47), (.op (.idxS 1 (.tmp 45) (.tmp 46))), none⟩,
            ⟨(some 48), (.op (.load none (.tmp 47))), none⟩,
            ⟨(some 49), (.op (.idxS 1 (.tmp 33) (.tmp 34))), none⟩,
            ⟨none, (.op (.store 1 (.tmp 49) (.tmp 44))), none⟩,
            ⟨(some 50), (.op (.idxS 1 (.tmp 35) (.tmp 38))), none⟩,
            ⟨none, (.op (.store 1 (.tmp 50) (.tmp 48))), none⟩] [0, 1, 2, 3, 4, 5, 6, 7, 8, 9, 10, 11, 12, 13, 14, 15, 16, 17, 18, 19] [[], [], [], [], [], [], [], [], [], [], [], [], [], [], [], [], [], [16, 10, 11, 15, 14], [], [18, 10, 11, 14, 15, 16]] [])
          (.region [
            ⟨(some 51), (.op (.mv (.tmp 0))), none⟩,
            ⟨(some 52), (.op (.mv (.tmp 7))), none⟩,
            ⟨(some 53), (.op (.mv (.tmp 10))), none⟩,
            ⟨(some 54), (.op (.mv (.tmp 6))), none⟩,
            ⟨(some 55), (.call (.cst (.func (.func 75) [] [])) [(.tmp 51), (.tmp 52), (.tmp 53), (.tmp 54)]), none⟩] [])))
        (.region [
          ⟨(some 31), (.op (.mv (.tmp 10))), none⟩,
          ⟨(some 32), (.op (.bin .sub none (.tmp 31) (.cst (.int .i64 1)))), none⟩,
          ⟨(some 10), (.op (.mv (.tmp 32))), none⟩] []))))))))))⟩
theorem c60 : cFn Try.prog [] Try.f60 = some h60 := by kernel_rfl
/-- slices.breakPatternsOrdered[string] -/
def h61 : HFn :=
  ⟨65, [],
    (.seq (.region [
      ⟨(some 11), (.op (.mv (.tmp 2))), none⟩,
      ⟨(some 12), (.op (.mv (.tmp 1))), none⟩,
      ⟨(some 13), (.op (.bin .sub none (.tmp 11) (.tmp 12))), none⟩,
      ⟨(some 6), (.op (.mv (.tmp 13))), none⟩] [])
    (.seq (.region [
      ⟨(some 14), (.op (.mv (.tmp 6))), none⟩,
      ⟨(some 15), (.op (.bin .geq none (.tmp 14) (.cst (.int .i64 8)))), none⟩] [])
    (.cond (.tmp 15)
      (.seq (.region [
        ⟨(some 16), (.op (.mv (.tmp 6))), none⟩,
        ⟨(some 17), (.op (.cInt .u64 (.tmp 16))), none⟩,
        ⟨(some 7), (.op (.box (.cst (.int .u64 0)))), none⟩,
        ⟨none, (.op (.store 1 (.tmp 7) (.tmp 17))), none⟩] [])
      (.seq (.region [
        ⟨(some 18), (.op (.mv (.tmp 6))), none⟩,
        ⟨(some 19), (.call (.cst (.func (.func 69) [] [])) [(.tmp 18)]), none⟩,
        ⟨(some 8), (.op (.mv (.tmp 19))), none⟩] [])
      (.seq (.region [
        ⟨(some 20), (.op (.mv (.tmp 1))), none⟩,
        ⟨(some 21), (.op (.mv (.tmp 6))), none⟩,
        ⟨(some 22), (.op (.bin .quo none (.tmp 21) (.cst (.int .i64 4)))), none⟩,
        ⟨(some 23), (.op (.bin .mul none (.tmp 22) (.cst (.int .i64 2)))), none⟩,
        ⟨(some 24), (.op (.bin .add none (.tmp 20) (.tmp 23))), none⟩,
        ⟨(some 25), (.op (.bin .sub none (.tmp 24) (.cst (.int .i64 1)))), none⟩,
        ⟨(some 9), (.op (.mv (.tmp 25))), none⟩] [])
      (.block 0
        (.loop
          (.seq (.seq (.region [
            ⟨(some 26), (.op (.mv (.tmp 9))), none⟩,
            ⟨(some 27), (.op (.mv (.tmp 1))), none⟩,
            ⟨(some 28), (.op (.mv (.tmp 6))), none⟩,
            ⟨(some 29), (.op (.bin .quo none (.tmp 28) (.cst (.int .i64 4)))), none⟩,
            ⟨(some 30), (.op (.bin .mul none (.tmp 29) (.cst (.int .i64 2)))), none⟩,
            ⟨(some 31), (.op (.bin .add none (.tmp 27) (.tmp 30))), none⟩,
            ⟨(some 32), (.op (.bin .add none (.tmp 31) (.cst (.int .i64 1)))), none⟩,
            ⟨(some 33), (.op (.bin .leq none (.tmp 26) (.tmp 32))), none⟩] [])
          (.cond (.tmp 33)
            .skip
            (.exit 0)))
          (.seq (.block 1
            (.seq (.region [
              ⟨(some 36), (.call (.cst (.func (.func 70) [] [])) [(.tmp 7)]), none⟩,
              ⟨(some 37), (.op (.mv (.tmp 8))), none⟩,
              ⟨(some 38), (.op (.bin .sub none (.tmp 37) (.cst (.int .u64 1)))), none⟩,
              ⟨(some 39), (.op (.bin .and none (.tmp 36) (.tmp 38))), none⟩,
              ⟨(some 40), (.op (.cInt .i64 (.tmp 39))), none⟩,
              ⟨(some 10), (.op (.mv (.tmp 40))), none⟩] [])
            (.seq (.seq (.region [
              ⟨(some 41), (.op (.mv (.tmp 10))), none⟩,
              ⟨(some 42), (.op (.mv (.tmp 6))), none⟩,
              ⟨(some 43), (.op (.bin .geq none (.tmp 41) (.tmp 42))), none⟩] [])
            (.cond (.tmp 43)
              (.region [
                ⟨(some 44), (.op (.mv (.tmp 10))), none⟩,
                ⟨(some 45), (.op (.mv (.tmp 6))), none⟩,
                ⟨(some 46), (.op (.bin .sub none (.tmp 44) (.tmp 45))), none⟩,
                ⟨(some 10), (.op (.mv (.tmp 46))), none⟩] [])
              .skip))
            (.draw [
              ⟨(some 47), (.op (.mv (.tmp 0))), none⟩,
              ⟨(some 48), (.op (.mv (.tmp 9))), none⟩,
              ⟨(some 49), (.op (.mv (.tmp 0))), none⟩,
              ⟨(some 50), (.op (.mv (.tmp 1))), none⟩,
              ⟨(some 51), (.op (.mv (.tmp 10))), none⟩,
              ⟨(some 52), (.op (.bin .add none (.tmp 50) (.tmp 51))), none⟩,
              ⟨(some 53), (.op (.mv (.tmp 0))), none⟩,
              ⟨(some 54), (.op (.mv (.tmp 1))), none⟩,
              ⟨(some 55), (.op (.mv (.tmp 10))), none⟩,
              ⟨(some 56), (.op (.bin .add none (.tmp 54) (.tmp 55))), none⟩,
              ⟨(some 57), (.op (.idxS 1 (.tmp 53) (.tmp 56))), none⟩,
              ⟨(some 58), (.op (.load none (.tmp 57))), none⟩,
              ⟨(some 59), (.op (.mv (.tmp 0))), none⟩,
              ⟨(some 60), (.op (.mv (.tmp 9))), none⟩,
              ⟨(some 61), (.op (.idxS 1 (.tmp 59) (.tmp 60))), none⟩,
              ⟨(some 62), (.op (.load none (.tmp 61))), none⟩,
              ⟨(some 63), (.op (.idxS 1 (.tmp 47) (.tmp 48))), none⟩,
              ⟨none, (.op (.store 1 (.tmp 63) (.tmp 58))), none⟩,
              ⟨(some 64), (.op (.idxS 1 (.tmp 49) (.tmp 52))), none⟩,
              ⟨none, (.op (.store 1 (.tmp 64) (.tmp 62))), none⟩] [0, 1, 2, 3, 4, 5, 6, 7, 8, 9, 10, 11, 12, 13, 14, 15, 16, 17, 18, 19] [[], [], [], [], [], [], [], [], [], [], [], [], [], [], [], [], [], [16, 10, 11, 15, 14], [], [18, 10, 11, 14, 15, 16]] []))))
          (.region [
            ⟨(some 34), (.op (.mv (.tmp 9))), none⟩,
            ⟨(some 35), (.op (.bin .add none (.tmp 34) (.cst (.int .i64 1)))), none⟩,
            ⟨(some 9), (.op (.mv (.tmp 35))), none⟩] []))))))))
      .skip)))⟩
theorem c61 : cFn Try.prog [] Try.f61 = some h61 := by kernel_rfl
/-- slices.choosePivotOrdered[string] -/
def h62 : HFn :=
  ⟨57, [(.tmp 6), (.tmp 7)],
    (.seq (.region [
      ⟨(some 6), (.op (.mv (.cst (.int .i64 0)))), none⟩,
      ⟨(some 7), (.op (.mv (.cst (.int .i64 0)))), none⟩] [])
    (.seq (.region [
      ⟨(some 13), (.op (.mv (.tmp 2))), none⟩,
      ⟨(some 14), (.op (.mv (.tmp 1))), none⟩,
      ⟨(some 15), (.op (.bin .sub none (.tmp 13) (.tmp 14))), none⟩,
      ⟨(some 8), (.op (.mv (.tmp 15))), none⟩] [])
    (.seq (.region [
      ⟨(some 9), (.op (.box (.cst (.int .i64 0)))), none⟩] [])
    (.seq (.region [
      ⟨(some 16), (.op (.mv (.tmp 1))), none⟩,
      ⟨(some 17), (.op (.mv (.tmp 8))), none⟩,
      ⟨(some 18), (.op (.bin .quo none (.tmp 17) (.cst (.int .i64 4)))), none⟩,
      ⟨(some 19), (.op (.bin .mul none (.tmp 18) (.cst (.int .i64 1)))), none⟩,
      ⟨(some 20), (.op (.bin .add none (.tmp 16) (.tmp 19))), none⟩,
      ⟨(some 10), (.op (.mv (.tmp 20))), none⟩] [])
    (.seq (.region [
      ⟨(some 21), (.op (.mv (.tmp 1))), none⟩,
      ⟨(some 22), (.op (.mv (.tmp 8))), none⟩,
      ⟨(some 23), (.op (.bin .quo none (.tmp 22) (.cst (.int .i64 4)))), none⟩,
      ⟨(some 24), (.op (.bin .mul none (.tmp 23) (.cst (.int .i64 2)))), none⟩,
      ⟨(some 25), (.op (.bin .add none (.tmp 21) (.tmp 24))), none⟩,
      ⟨(some 11), (.op (.mv (.tmp 25))), none⟩] [])
    (.seq (.region [
      ⟨(some 26), (.op (.mv (.tmp 1))), none⟩,
      ⟨(some 27), (.op (.mv (.tmp 8))), none⟩,
      ⟨(some 28), (.op (.bin .quo none (.tmp 27) (.cst (.int .i64 4)))), none⟩,
      ⟨(some 29), (.op (.bin .mul none (.tmp 28) (.cst (.int .i64 3)))), none⟩,
      ⟨(some 30), (.op (.bin .add none (.tmp 26) (.tmp 29))), none⟩,
      ⟨(some 12), (.op (.mv (.tmp 30))), none⟩] [])
    (.seq (.seq (.region [
      ⟨(some 31), (.op (.mv (.tmp 8))), none⟩,
      ⟨(some 32), (.op (.bin .geq none (.tmp 31) (.cst (.int .i64 8)))), none⟩] [])
    (.cond (.tmp 32)
      (.seq (.seq (.region [
        ⟨(some 33), (.op (.mv (.tmp 8))), none⟩,
        ⟨(some 34), (.op (.bin .geq none (.tmp 33) (.cst (.int .i64 50)))), none⟩] [])
      (.cond (.tmp 34)
        (.seq (.region [
          ⟨(some 35), (.op (.mv (.tmp 0))), none⟩,
          ⟨(some 36), (.op (.mv (.tmp 10))), none⟩,
          ⟨(some 37), (.call (.cst (.func (.func 76) [] [])) [(.tmp 35), (.tmp 36), (.tmp 9)]), none⟩,
          ⟨(some 10), (.op (.mv (.tmp 37))), none⟩] [])
        (.seq (.region [
          ⟨(some 38), (.op (.mv (.tmp 0))), none⟩,
          ⟨(some 39), (.op (.mv (.tmp 11))), none⟩,
          ⟨(some 40), (.call (.cst (.func (.func 76) [] [])) [(.tmp 38), (.tmp 39), (.tmp 9)]), none⟩,
          ⟨(some 11), (.op (.mv (.tmp 40))), none⟩] [])
        (.region [
          ⟨(some 41), (.op (.mv (.tmp 0))), none⟩,
          ⟨(some 42), (.op (.mv (.tmp 12))), none⟩,
          ⟨(some 43), (.call (.cst (.func (.func 76) [] [])) [(.tmp 41), (.tmp 42), (.tmp 9)]), none⟩,
          ⟨(some 12), (.op (.mv (.tmp 43))), none⟩] [])))
        .skip))
      (.region [
        ⟨(some 44), (.op (.mv (.tmp 0))), none⟩,
        ⟨(some 45), (.op (.mv (.tmp 10))), none⟩,
        ⟨(some 46), (.op (.mv (.tmp 11))), none⟩,
        ⟨(some 47), (.op (.mv (.tmp 12))), none⟩,
        ⟨(some 48), (.call (.cst (.func (.func 77) [] [])) [(.tmp 44), (.tmp 45), (.tmp 46), (.tmp 47), (.tmp 9)]), none⟩,
        ⟨(some 11), (.op (.mv (.tmp 48))), none⟩] []))
      .skip))
    (.seq (.region [
      ⟨(some 49), (.op (.load none (.tmp 9))), none⟩] [])
    (.block 0
      (.seq (.region [
        ⟨(some 52), (.op (.bin .eql (some .int) (.tmp 49) (.cst (.int .i64 0)))), none⟩,
        ⟨(some 51), (.op (.mv (.tmp 52))), none⟩] [])
      (.cond (.tmp 51)
        (.seq (.region [
          ⟨(some 53), (.op (.mv (.tmp 11))), none⟩,
          ⟨(some 6), (.op (.mv (.tmp 53))), none⟩,
          ⟨(some 7), (.op (.mv (.cst (.int .i64 1)))), none⟩] [])
        .ret)
        (.seq (.region [
          ⟨(some 55), (.op (.bin .eql (some .int) (.tmp 49) (.cst (.int .i64 12)))), none⟩,
          ⟨(some 54), (.op (.mv (.tmp 55))), none⟩] [])
        (.cond (.tmp 54)
          (.seq (.region [
            ⟨(some 56), (.op (.mv (.tmp 11))), none⟩,
            ⟨(some 6), (.op (.mv (.tmp 56))), none⟩,
            ⟨(some 7), (.op (.mv (.cst (.int .i64 2)))), none⟩] [])
          .ret)
          (.seq (.region [
            ⟨(some 50), (.op (.mv (.tmp 11))), none⟩,
            ⟨(some 6), (.op (.mv (.tmp 50))), none⟩,
            ⟨(some 7), (.op (.mv (.cst (.int .i64 0)))), none⟩] [])
          .ret))))))))))))))⟩
theorem c62 : cFn Try.prog [] Try.f62 = some h62 := by kernel_rfl
/-- slices.reverseRangeOrdered[string] -/
def h63 : HFn :=
  ⟨32, [],
    (.seq (.region [
      ⟨(some 8), (.op (.mv (.tmp 1))), none⟩,
      ⟨(some 6), (.op (.mv (.tmp 8))), none⟩] [])
    (.seq (.region [
      ⟨(some 9), (.op (.mv (.tmp 2))), none⟩,
      ⟨(some 10), (.op (.bin .sub none (.tmp 9) (.cst (.int .i64 1)))), none⟩,
      ⟨(some 7), (.op (.mv (.tmp 10))), none⟩] [])
    (.block 0
      (.loop
        (.seq (.seq (.region [
          ⟨(some 11), (.op (.mv (.tmp 6))), none⟩,
          ⟨(some 12), (.op (.mv (.tmp 7))), none⟩,
          ⟨(some 13), (.op (.bin .lss none (.tmp 11) (.tmp 12))), none⟩] [])
        (.cond (.tmp 13)
          .skip
          (.exit 0)))
        (.block 1
          (.seq (.draw [
            ⟨(some 14), (.op (.mv (.tmp 0))), none⟩,
            ⟨(some 15), (.op (.mv (.tmp 6))), none⟩,
            ⟨(some 16), (.op (.mv (.tmp 0))), none⟩,
            ⟨(some 17), (.op (.mv (.tmp 7))), none⟩,
            ⟨(some 18), (.op (.mv (.tmp 0))), none⟩,
            ⟨(some 19), (.op (.mv (.tmp 7))), none⟩,
            ⟨(some 20), (.op (.idxS 1 (.tmp 18) (.tmp 19))), none⟩,
            ⟨(some 21), (.op (.load none (.tmp 20))), none⟩,
            ⟨(some 22), (.op (.mv (.tmp 0))), none⟩,
            ⟨(some 23), (.op (.mv (.tmp 6))), none⟩,
            ⟨(some 24), (.op (.idxS 1 (.tmp 22) (.tmp 23))), none⟩,
            ⟨(some 25), (.op (.load none (.tmp 24))), none⟩,
            ⟨(some 26), (.op (.idxS 1 (.tmp 14) (.tmp 15))), none⟩,
            ⟨none, (.op (.store 1 (.tmp 26) (.tmp 21))), none⟩,
            ⟨(some 27), (.op (.idxS 1 (.tmp 16) (.tmp 17))), none⟩,
            ⟨none, (.op (.store 1 (.tmp 27) (.tmp 25))), none⟩] [0, 1, 2, 3, 4, 5, 6, 7, 8, 9, 10, 11, 12, 13, 14, 15] [[], [], [], [], [], [], [], [], [], [], [], [], [], [12, 6, 7, 11, 10], [], [14, 6, 7, 10, 11, 12]] [])
          (.seq (.region [
            ⟨(some 28), (.op (.mv (.tmp 6))), none⟩,
            ⟨(some 29), (.op (.bin .add none (.tmp 28) (.cst (.int .i64 1)))), none⟩,
            ⟨(some 6), (.op (.mv (.tmp 29))), none⟩] [])
          (.region [
            ⟨(some 30), (.op (.mv (.tmp 7))), none⟩,
            ⟨(some 31), (.op (.bin .sub none (.tmp 30) (.cst (.int .i64 1)))), none⟩,
            ⟨(some 7), (.op (.mv (.tmp 31))), none⟩] [])))))))))⟩
theorem c63 : cFn Try.prog [] Try.f63 = some h63 := by kernel_rfl
/-- slices.partialInsertionSortOrdered[string] -/
def h64 : HFn :=
  ⟨133, [(.tmp 6)],
    (.seq (.region [
      ⟨(some 6), (.op (.mv (.cst (.bool false)))), none⟩] [])
    (.seq (.region [
      ⟨(some 11), (.op (.mv (.tmp 1))), none⟩,
      ⟨(some 12), (.op (.bin .add none (.tmp 11) (.cst (.int .i64 1)))), none⟩,
      ⟨(some 7), (.op (.mv (.tmp 12))), none⟩] [])
    (.seq (.seq (.region [
      ⟨(some 8), (.op (.mv (.cst (.int .i64 0)))), none⟩] [])
    (.block 0
      (.loop
        (.seq (.seq (.region [
          ⟨(some 13), (.op (.mv (.tmp 8))), none⟩,
          ⟨(some 14), (.op (.bin .lss none (.tmp 13) (.cst (.int .i64 5)))), none⟩] [])
        (.cond (.tmp 14)
          .skip
          (.exit 0)))
        (.seq (.block 1
          (.seq (.block 2
            (.loop
              (.seq (.seq (.draw [
                ⟨(some 17), (.op (.mv (.tmp 7))), none⟩,
                ⟨(some 18), (.op (.mv (.tmp 2))), none⟩,
                ⟨(some 19), (.op (.bin .lss none (.tmp 17) (.tmp 18))), none⟩,
                ⟨(some 20), (.op (.mv (.tmp 19))), none⟩,
                ⟨(some 21), (.op (.mv (.tmp 0))), (some (20, true))⟩,
                ⟨(some 22), (.op (.mv (.tmp 7))), (some (20, true))⟩,
                ⟨(some 23), (.op (.idxS 1 (.tmp 21) (.tmp 22))), (some (20, true))⟩,
                ⟨(some 24), (.op (.load none (.tmp 23))), (some (20, true))⟩,
                ⟨(some 25), (.op (.mv (.tmp 0))), (some (20, true))⟩,
                ⟨(some 26), (.op (.mv (.tmp 7))), (some (20, true))⟩,
                ⟨(some 27), (.op (.bin .sub none (.tmp 26) (.cst (.int .i64 1)))), (some (20, true))⟩,
                ⟨(some 28), (.op (.idxS 1 (.tmp 25) (.tmp 27))), (some (20, true))⟩,
                ⟨(some 29), (.op (.load none (.tmp 28))), (some (20, true))⟩,
                ⟨(some 30), (.call (.cst (.func (.func 65) [] [])) [(.tmp 24), (.tmp 29)]), (some (20, true))⟩,
                ⟨(some 31), (.op (.un .not (.tmp 30))), (some (20, true))⟩,
                ⟨(some 32), (.op (.pick (.tmp 20) (.tmp 31) (.cst (.bool false)))), none⟩] [0, 1, 2, 3, 4, 5, 6, 7, 8, 9, 10, 11, 12, 13, 14, 15] [[], [], [], [], [], [], [], [], [], [], [], [], [], [7, 6, 12, 11], [], []] [])
              (.cond (.tmp 32)
                .skip
                (.exit 2)))
              (.block 3
                (.region [
                  ⟨(some 33), (.op (.mv (.tmp 7))), none⟩,
                  ⟨(some 34), (.op (.bin .add none (.tmp 33) (.cst (.int .i64 1)))), none⟩,
                  ⟨(some 7), (.op (.mv (.tmp 34))), none⟩] [])))))
          (.seq (.seq (.region [
            ⟨(some 35), (.op (.mv (.tmp 7))), none⟩,
            ⟨(some 36), (.op (.mv (.tmp 2))), none⟩,
            ⟨(some 37), (.op (.bin .eql (some .int) (.tmp 35) (.tmp 36))), none⟩] [])
          (.cond (.tmp 37)
            (.seq (.region [
              ⟨(some 6), (.op (.mv (.cst (.bool true)))), none⟩] [])
            .ret)
            .skip))
          (.seq (.seq (.region [
            ⟨(some 38), (.op (.mv (.tmp 2))), none⟩,
            ⟨(some 39), (.op (.mv (.tmp 1))), none⟩,
            ⟨(some 40), (.op (.bin .sub none (.tmp 38) (.tmp 39))), none⟩,
            ⟨(some 41), (.op (.bin .lss none (.tmp 40) (.cst (.int .i64 50)))), none⟩] [])
          (.cond (.tmp 41)
            (.seq (.region [
              ⟨(some 6), (.op (.mv (.cst (.bool false)))), none⟩] [])
            .ret)
            .skip))
          (.seq (.draw [
            ⟨(some 42), (.op (.mv (.tmp 0))), none⟩,
            ⟨(some 43), (.op (.mv (.tmp 7))), none⟩,
            ⟨(some 44), (.op (.mv (.tmp 0))), none⟩,
            ⟨(some 45), (.op (.mv (.tmp 7))), none⟩,
            ⟨(some 46), (.op (.bin .sub none (.tmp 45) (.cst (.int .i64 1)))), none⟩,
            ⟨(some 47), (.op (.mv (.tmp 0))), none⟩,
            ⟨(some 48), (.op (.mv (.tmp 7))), none⟩,
            ⟨(some 49), (.op (.bin .sub none (.tmp 48) (.cst (.int .i64 1)))), none⟩,
            ⟨(some 50), (.op (.idxS 1 (.tmp 47) (.tmp 49))), none⟩,
            ⟨(some 51), (.op (.load none (.tmp 50))), none⟩,
            ⟨(some 52), (.op (.mv (.tmp 0))), none⟩,
            ⟨(some 53), (.op (.mv (.tmp 7))), none⟩,
            ⟨(some 54), (.op (.idxS 1 (.tmp 52) (.tmp 53))), none⟩,
            ⟨(some 55), (.op (.load none (.tmp 54))), none⟩,
            ⟨(some 56), (.op (.idxS 1 (.tmp 42) (.tmp 43))), none⟩,
            ⟨none, (.op (.store 1 (.tmp 56) (.tmp 51))), none⟩,
            ⟨(some 57), (.op (.idxS 1 (.tmp 44) (.tmp 46))), none⟩,
            ⟨none, (.op (.store 1 (.tmp 57) (.tmp 55))), none⟩] [0, 1, 2, 3, 4, 5, 6, 7, 8, 9, 10, 11, 12, 13, 14, 15, 16, 17] [[], [], [], [], [], [], [], [], [], [], [], [], [], [], [], [14, 8, 9, 13, 12], [], [16, 8, 9, 12, 13, 14]] [])
          (.seq (.seq (.region [
            ⟨(some 58), (.op (.mv (.tmp 7))), none⟩,
            ⟨(some 59), (.op (.mv (.tmp 1))), none⟩,
            ⟨(some 60), (.op (.bin .sub none (.tmp 58) (.tmp 59))), none⟩,
            ⟨(some 61), (.op (.bin .geq none (.tmp 60) (.cst (.int .i64 2)))), none⟩] [])
          (.cond (.tmp 61)
            (.seq (.region [
              ⟨(some 62), (.op (.mv (.tmp 7))), none⟩,
              ⟨(some 63), (.op (.bin .sub none (.tmp 62) (.cst (.int .i64 1)))), none⟩,
              ⟨(some 9), (.op (.mv (.tmp 63))), none⟩] [])
            (.block 4
              (.loop
                (.seq (.seq (.region [
                  ⟨(some 64), (.op (.mv (.tmp 9))), none⟩,
                  ⟨(some 65), (.op (.bin .geq none (.tmp 64) (.cst (.int .i64 1)))), none⟩] [])
                (.cond (.tmp 65)
                  .skip
                  (.exit 4)))
                (.seq (.block 5
                  (.seq (.seq (.draw [
                    ⟨(some 68), (.op (.mv (.tmp 0))), none⟩,
                    ⟨(some 69), (.op (.mv (.tmp 9))), none⟩,
                    ⟨(some 70), (.op (.idxS 1 (.tmp 68) (.tmp 69))), none⟩,
                    ⟨(some 71), (.op (.load none (.tmp 70))), none⟩,
                    ⟨(some 72), (.op (.mv (.tmp 0))), none⟩,
                    ⟨(some 73), (.op (.mv (.tmp 9))), none⟩,
                    ⟨(some 74), (.op (.bin .sub none (.tmp 73) (.cst (.int .i64 1)))), none⟩,
                    ⟨(some 75), (.op (.idxS 1 (.tmp 72) (.tmp 74))), none⟩,
                    ⟨(some 76), (.op (.load none (.tmp 75))), none⟩,
                    ⟨(some 77), (.call (.cst (.func (.func 65) [] [])) [(.tmp 71), (.tmp 76)]), none⟩,
                    ⟨(some 78), (.op (.un .not (.tmp 77))), none⟩] [0, 1, 2, 3, 4, 5, 6, 7, 8, 9, 10] [[], [], [], [], [], [], [], [], [], [3, 2, 8, 7], []] [])
                  (.cond (.tmp 78)
                    (.exit 4)
                    .skip))
                  (.draw [
                    ⟨(some 79), (.op (.mv (.tmp 0))), none⟩,
                    ⟨(some 80), (.op (.mv (.tmp 9))), none⟩,
                    ⟨(some 81), (.op (.mv (.tmp 0))), none⟩,
                    ⟨(some 82), (.op (.mv (.tmp 9))), none⟩,
                    ⟨(some 83), (.op (.bin .sub none (.tmp 82) (.cst (.int .i64 1)))), none⟩,
                    ⟨(some 84), (.op (.mv (.tmp 0))), none⟩,
                    ⟨(some 85), (.op (.mv (.tmp 9))), none⟩,
                    ⟨(some 86), (.op (.bin .sub none (.tmp 85) (.cst (.int .i64 1)))), none⟩,
                    ⟨(some 87), (.op (.idxS 1 (.tmp 84) (.tmp 86))), none⟩,
                    ⟨(some 88), (.op (.load none (.tmp 87))), none⟩,
                    ⟨(some 89), (.op (.mv (.tmp 0))), none⟩,
                    ⟨(some 90), (.op (.mv (.tmp 9))), none⟩,
                    ⟨(some 91), (.op (.idxS 1 (.tmp 89) (.tmp 90))), none⟩,
                    ⟨(some 92), (.op (.load none (.tmp 91))), none⟩,
                    ⟨(some 93), (.op (.idxS 1 (.tmp 79) (.tmp 80))), none⟩,
                    ⟨none, (.op (.store 1 (.tmp 93) (.tmp 88))), none⟩,
                    ⟨(some 94), (.op (.idxS 1 (.tmp 81) (.tmp 83))), none⟩,
                    ⟨none, (.op (.store 1 (.tmp 94) (.tmp 92))), none⟩] [0, 1, 2, 3, 4, 5, 6, 7, 8, 9, 10, 11, 12, 13, 14, 15, 16, 17] [[], [], [], [], [], [], [], [], [], [], [], [], [], [], [], [14, 8, 9, 13, 12], [], [16, 8, 9, 12, 13, 14]] [])))
                (.region [
                  ⟨(some 66), (.op (.mv (.tmp 9))), none⟩,
                  ⟨(some 67), (.op (.bin .sub none (.tmp 66) (.cst (.int .i64 1)))), none⟩,
                  ⟨(some 9), (.op (.mv (.tmp 67))), none⟩] []))))))
            .skip))
          (.seq (.region [
            ⟨(some 95), (.op (.mv (.tmp 2))), none⟩,
            ⟨(some 96), (.op (.mv (.tmp 7))), none⟩,
            ⟨(some 97), (.op (.bin .sub none (.tmp 95) (.tmp 96))), none⟩,
            ⟨(some 98), (.op (.bin .geq none (.tmp 97) (.cst (.int .i64 2)))), none⟩] [])
          (.cond (.tmp 98)
            (.seq (.region [
              ⟨(some 99), (.op (.mv (.tmp 7))), none⟩,
              ⟨(some 100), (.op (.bin .add none (.tmp 99) (.cst (.int .i64 1)))), none⟩,
              ⟨(some 10), (.op (.mv (.tmp 100))), none⟩] [])
            (.block 6
              (.loop
                (.seq (.seq (.region [
                  ⟨(some 101), (.op (.mv (.tmp 10))), none⟩,
                  ⟨(some 102), (.op (.mv (.tmp 2))), none⟩,
                  ⟨(some 103), (.op (.bin .lss none (.tmp 101) (.tmp 102))), none⟩] [])
                (.cond (.tmp 103)
                  .skip
                  (.exit 6)))
                (.seq (.block 7
                  (.seq (.seq (.draw [
                    ⟨(some 106), (.op (.mv (.tmp 0))), none⟩,
                    ⟨(some 107), (.op (.mv (.tmp 10))), none⟩,
                    ⟨(some 108), (.op (.idxS 1 (.tmp 106) (.tmp 107))), none⟩,
                    ⟨(some 109), (.op (.load none (.tmp 108))), none⟩,
                    ⟨(some 110), (.op (.mv (.tmp 0))), none⟩,
                    ⟨(some 111), (.op (.mv (.tmp 10))), none⟩,
                    ⟨(some 112), (.op (.bin .sub none (.tmp 111) (.cst (.int .i64 1)))), none⟩,
                    ⟨(some 113), (.op (.idxS 1 (.tmp 110) (.tmp 112))), none⟩,
                    ⟨(some 114), (.op (.load none (.tmp 113))), none⟩,
                    ⟨(some 115), (.call (.cst (.func (.func 65) [] [])) [(.tmp 109), (.tmp 114)]), none⟩,
                    ⟨(some 116), (.op (.un .not (.tmp 115))), none⟩] [0, 1, 2, 3, 4, 5, 6, 7, 8, 9, 10] [[], [], [], [], [], [], [], [], [], [3, 2, 8, 7], []] [])
                  (.cond (.tmp 116)
                    (.exit 6)
                    .skip))
                  (.draw [
                    ⟨(some 117), (.op (.mv (.tmp 0))), none⟩,
                    ⟨(some 118), (.op (.mv (.tmp 10))), none⟩,
                    ⟨(some 119), (.op (.mv (.tmp 0))), none⟩,
                    ⟨(some 120), (.op (.mv (.tmp 10))), none⟩,
                    ⟨(some 121), (.op (.bin .sub none (.tmp 120) (.cst (.int .i64 1)))), none⟩,
                    ⟨(some 122), (.op (.mv (.tmp 0))), none⟩,
                    ⟨(some 123), (.op (.mv (.tmp 10))), none⟩,
                    ⟨(some 124), (.op (.bin .sub none (.tmp 123) (.cst (.int .i64 1)))), none⟩,
                    ⟨(some 125), (.op (.idxS 1 (.tmp 122) (.tmp 124))), none⟩,
                    ⟨(some 126), (.op (.load none (.tmp 125))), none⟩,
                    ⟨(some 127), (.op (.mv (.tmp 0))), none⟩,
                    ⟨(some 128), (.op (.mv (.tmp 10))), none⟩,
                    ⟨(some 129), (.op (.idxS 1 (.tmp 127) (.tmp 128))), none⟩,
                    ⟨(some 130), (.op (.load none (.tmp 129))), none⟩,
                    ⟨(some 131), (.op (.idxS 1 (.tmp 117) (.tmp 118))), none⟩,
                    ⟨none, (.op (.store 1 (.tmp 131) (.tmp 126))), none⟩,
                    ⟨(some 132), (.op (.idxS 1 (.tmp 119) (.tmp 121))), none⟩,
                    ⟨none, (.op (.store 1 (.tmp 132) (.tmp 130))), none⟩] [0, 1, 2, 3, 4, 5, 6, 7, 8, 9, 10, 11, 12, 13, 14, 15, 16, 17] [[], [], [], [], [], [], [], [], [], [], [], [], [], [], [], [14, 8, 9, 13, 12], [], [16, 8, 9, 12, 13, 14]] [])))
                (.region [
                  ⟨(some 104), (.op (.mv (.tmp 10))), none⟩,
                  ⟨(some 105), (.op (.bin .add none (.tmp 104) (.cst (.int .i64 1)))), none⟩,
                  ⟨(some 10), (.op (.mv (.tmp 105))), none⟩] []))))))
            .skip))))))))
        (.region [
          ⟨(some 15), (.op (.mv (.tmp 8))), none⟩,
          ⟨(some 16), (.op (.bin .add none (.tmp 15) (.cst (.int .i64 1)))), none⟩,
          ⟨(some 8), (.op (.mv (.tmp 16))), none⟩] []))))))
    (.seq (.region [
      ⟨(some 6), (.op (.mv (.cst (.bool false)))), none⟩] [])
    .ret))))⟩
theorem c64 : cFn Try.prog [] Try.f64 = some h64 := by kernel_rfl
/-- cmp.Less[string] -/
def h65 : HFn :=
  ⟨17, [(.tmp 4)],
    (.seq (.region [
      ⟨(some 4), (.op (.mv (.cst (.bool false)))), none⟩] [])
    (.seq (.region [
      ⟨(some 5), (.op (.mv (.tmp 0))), none⟩,
      ⟨(some 6), (.call (.cst (.func (.func 78) [] [])) [(.tmp 5)]), none⟩,
      ⟨(some 7), (.op (.mv (.tmp 6))), none⟩,
      ⟨(some 8), (.op (.mv (.tmp 1))), (some (7, true))⟩,
      ⟨(some 9), (.call (.cst (.func (.func 78) [] [])) [(.tmp 8)]), (some (7, true))⟩,
      ⟨(some 10), (.op (.un .not (.tmp 9))), (some (7, true))⟩,
      ⟨(some 11), (.op (.pick (.tmp 7) (.tmp 10) (.cst (.bool false)))), none⟩,
      ⟨(some 12), (.op (.mv (.tmp 11))), none⟩,
      ⟨(some 13), (.op (.mv (.tmp 0))), (some (12, false))⟩,
      ⟨(some 14), (.op (.mv (.tmp 1))), (some (12, false))⟩,
      ⟨(some 15), (.op (.bin .lss none (.tmp 13) (.tmp 14))), (some (12, false))⟩,
      ⟨(some 16), (.op (.pick (.tmp 12) (.cst (.bool true)) (.tmp 15))), none⟩,
      ⟨(some 4), (.op (.mv (.tmp 16))), none⟩] [])
    .ret))⟩
theorem c65 : cFn Try.prog [] Try.f65 = some h65 := by kernel_rfl
/-- slices.partitionEqualOrdered[string] -/
def h66 : HFn :=
  ⟨84, [(.tmp 8)],
    (.seq (.region [
      ⟨(some 8), (.op (.mv (.cst (.int .i64 0)))), none⟩] [])
    (.seq (.draw [
      ⟨(some 11), (.op (.mv (.tmp 0))), none⟩,
      ⟨(some 12), (.op (.mv (.tmp 1))), none⟩,
      ⟨(some 13), (.op (.mv (.tmp 0))), none⟩,
      ⟨(some 14), (.op (.mv (.tmp 3))), none⟩,
      ⟨(some 15), (.op (.mv (.tmp 0))), none⟩,
      ⟨(some 16), (.op (.mv (.tmp 3))), none⟩,
      ⟨(some 17), (.op (.idxS 1 (.tmp 15) (.tmp 16))), none⟩,
      ⟨(some 18), (.op (.load none (.tmp 17))), none⟩,
      ⟨(some 19), (.op (.mv (.tmp 0))), none⟩,
      ⟨(some 20), (.op (.mv (.tmp 1))), none⟩,
      ⟨(some 21), (.op (.idxS 1 (.tmp 19) (.tmp 20))), none⟩,
      ⟨(some 22), (.op (.load none (.tmp 21))), none⟩,
      ⟨(some 23), (.op (.idxS 1 (.tmp 11) (.tmp 12))), none⟩,
      ⟨none, (.op (.store 1 (.tmp 23) (.tmp 18))), none⟩,
      ⟨(some 24), (.op (.idxS 1 (.tmp 13) (.tmp 14))), none⟩,
      ⟨none, (.op (.store 1 (.tmp 24) (.tmp 22))), none⟩] [0, 1, 2, 3, 4, 5, 6, 7, 8, 9, 10, 11, 12, 13, 14, 15] [[], [], [], [], [], [], [], [], [], [], [], [], [], [12, 6, 7, 11, 10], [], [14, 6, 7, 10, 11, 12]] [])
    (.seq (.region [
      ⟨(some 25), (.op (.mv (.tmp 1))), none⟩,
      ⟨(some 26), (.op (.bin .add none (.tmp 25) (.cst (.int .i64 1)))), none⟩,
      ⟨(some 27), (.op (.mv (.tmp 2))), none⟩,
      ⟨(some 28), (.op (.bin .sub none (.tmp 27) (.cst (.int .i64 1)))), none⟩,
      ⟨(some 9), (.op (.mv (.tmp 26))), none⟩,
      ⟨(some 10), (.op (.mv (.tmp 28))), none⟩] [])
    (.seq (.block 0
      (.loop
        (.block 1
          (.seq (.block 2
            (.loop
              (.seq (.seq (.draw [
                ⟨(some 29), (.op (.mv (.tmp 9))), none⟩,
                ⟨(some 30), (.op (.mv (.tmp 10))), none⟩,
                ⟨(some 31), (.op (.bin .leq none (.tmp 29) (.tmp 30))), none⟩,
                ⟨(some 32), (.op (.mv (.tmp 31))), none⟩,
                ⟨(some 33), (.op (.mv (.tmp 0))), (some (32, true))⟩,
                ⟨(some 34), (.op (.mv (.tmp 1))), (some (32, true))⟩,
                ⟨(some 35), (.op (.idxS 1 (.tmp 33) (.tmp 34))), (some (32, true))⟩,
                ⟨(some 36), (.op (.load none (.tmp 35))), (some (32, true))⟩,
                ⟨(some 37), (.op (.mv (.tmp 0))), (some (32, true))⟩,
                ⟨(some 38), (.op (.mv (.tmp 9))), (some (32, true))⟩,
                ⟨(some 39), (.op (.idxS 1 (.tmp 37) (.tmp 38))), (some (32, true))⟩,
                ⟨(some 40), (.op (.load none (.tmp 39))), (some (32, true))⟩,
                ⟨(some 41), (.call (.cst (.func (.func 65) [] [])) [(.tmp 36), (.tmp 40)]), (some (32, true))⟩,
                ⟨(some 42), (.op (.un .not (.tmp 41))), (some (32, true))⟩,
                ⟨(some 43), (.op (.pick (.tmp 32) (.tmp 42) (.cst (.bool false)))), none⟩] [0, 1, 2, 3, 4, 5, 6, 7, 8, 9, 10, 11, 12, 13, 14] [[], [], [], [], [], [], [], [], [], [], [], [], [7, 6, 11, 10], [], []] [])
              (.cond (.tmp 43)
                .skip
                (.exit 2)))
              (.block 3
                (.region [
                  ⟨(some 44), (.op (.mv (.tmp 9))), none⟩,
                  ⟨(some 45), (.op (.bin .add none (.tmp 44) (.cst (.int .i64 1)))), none⟩,
                  ⟨(some 9), (.op (.mv (.tmp 45))), none⟩] [])))))
          (.seq (.block 4
            (.loop
              (.seq (.seq (.draw [
                ⟨(some 46), (.op (.mv (.tmp 9))), none⟩,
                ⟨(some 47), (.op (.mv (.tmp 10))), none⟩,
                ⟨(some 48), (.op (.bin .leq none (.tmp 46) (.tmp 47))), none⟩,
                ⟨(some 49), (.op (.mv (.tmp 48))), none⟩,
                ⟨(some 50), (.op (.mv (.tmp 0))), (some (49, true))⟩,
                ⟨(some 51), (.op (.mv (.tmp 1))), (some (49, true))⟩,
                ⟨(some 52), (.op (.idxS 1 (.tmp 50) (.tmp 51))), (some (49, true))⟩,
                ⟨(some 53), (.op (.load none (.tmp 52))), (some (49, true))⟩,
                ⟨(some 54), (.op (.mv (.tmp 0))), (some (49, true))⟩,
                ⟨(some 55), (.op (.mv (.tmp 10))), (some (49, true))⟩,
                ⟨(some 56), (.op (.idxS 1 (.tmp 54) (.tmp 55))), (some (49, true))⟩,
                ⟨(some 57), (.op (.load none (.tmp 56))), (some (49, true))⟩,
                ⟨(some 58), (.call (.cst (.func (.func 65) [] [])) [(.tmp 53), (.tmp 57)]), (some (49, true))⟩,
                ⟨(some 59), (.op (.pick (.tmp 49) (.tmp 58) (.cst (.bool false)))), none⟩] [0, 1, 2, 3, 4, 5, 6, 7, 8, 9, 10, 11, 12, 13] [[], [], [], [], [], [], [], [], [], [], [], [], [7, 6, 11, 10], []] [])
              (.cond (.tmp 59)
                .skip
                (.exit 4)))
              (.block 5
                (.region [
                  ⟨(some 60), (.op (.mv (.tmp 10))), none⟩,
                  ⟨(some 61), (.op (.bin .sub none (.tmp 60) (.cst (.int .i64 1)))), none⟩,
                  ⟨(some 10), (.op (.mv (.tmp 61))), none⟩] [])))))
          (.seq (.seq (.region [
            ⟨(some 62), (.op (.mv (.tmp 9))), none⟩,
            ⟨(some 63), (.op (.mv (.tmp 10))), none⟩,
            ⟨(some 64), (.op (.bin .gtr none (.tmp 62) (.tmp 63))), none⟩] [])
          (.cond (.tmp 64)
            (.exit 0)
            .skip))
          (.seq (.draw [
            ⟨(some 65), (.op (.mv (.tmp 0))), none⟩,
            ⟨(some 66), (.op (.mv (.tmp 9))), none⟩,
            ⟨(some 67), (.op (.mv (.tmp 0))), none⟩,
            ⟨(some 68), (.op (.mv (.tmp 10))), none⟩,
            ⟨(some 69), (.op (.mv (.tmp 0))), none⟩,
            ⟨(some 70), (.op (.mv (.tmp 10))), none⟩,
            ⟨(some 71), (.op (.idxS 1 (.tmp 69) (.tmp 70))), none⟩,
            ⟨(some 72), (.op (.load none (.tmp 71))), none⟩,
            ⟨(some 73), (.op (.mv (.tmp 0))), none⟩,
            ⟨(some 74), (.op (.mv (.tmp 9))), none⟩,
            ⟨(some 75), (.op (.idxS 1 (.tmp 73) (.tmp 74))), none⟩,
            ⟨(some 76), (.op (.load none (.tmp 75))), none⟩,
            ⟨(some 77), (.op (.idxS 1 (.tmp 65) (.tmp 66))), none⟩,
            ⟨none, (.op (.store 1 (.tmp 77) (.tmp 72))), none⟩,
            ⟨(some 78), (.op (.idxS 1 (.tmp 67) (.tmp 68))), none⟩,
            ⟨none, (.op (.store 1 (.tmp 78) (.tmp 76))), none⟩] [0, 1, 2, 3, 4, 5, 6, 7, 8, 9, 10, 11, 12, 13, 14, 15] [[], [], [], [], [], [], [], [], [], [], [], [], [], [12, 6, 7, 11, 10], [], [14, 6, 7, 10, 11, 12]] [])
          (.seq (.region [
            ⟨(some 79), (.op (.mv (.tmp 9))), none⟩,
            ⟨(some 80), (.op (.bin .add none (.tmp 79) (.cst (.int .i64 1)))), none⟩,
            ⟨(some 9), (.op (.mv (.tmp 80))), none⟩] [])
          (.region [
            ⟨(some 81), (.op (.mv (.tmp 10))), none⟩,
            ⟨(some 82), (.op (.bin .sub none (.tmp 81) (.cst (.int .i64 1)))), none⟩,
            ⟨(some 10), (.op (.mv (.tmp 82))), none⟩] [])))))))))
    (.seq (.region [
      ⟨(some 83), (.op (.mv (.tmp 9))), none⟩,
      ⟨(some 8), (.op (.mv (.tmp 83))), none⟩] [])
    .ret)))))⟩
theorem c66 : cFn Try.prog [] Try.f66 = some h66 := by kernel_rfl
/-- slices.partitionOrdered[string] -/
def h67 : HFn :=
  ⟨168, [(.tmp 8), (.tmp 9)],
    (.seq (.region [
      ⟨(some 8), (.op (.mv (.cst (.int .i64 0)))), none⟩,
      ⟨(some 9), (.op (.mv (.cst (.bool false)))), none⟩] [])
    (.seq (.draw [
      ⟨(some 12), (.op (.mv (.tmp 0))), none⟩,
      ⟨(some 13), (.op (.mv (.tmp 1))), none⟩,
      ⟨(some 14), (.op (.mv (.tmp 0))), none⟩,
      ⟨(some 15), (.op (.mv (.tmp 3))), none⟩,
      ⟨(some 16), (.op (.mv (.tmp 0))), none⟩,
      ⟨(some 17), (.op (.mv (.tmp 3))), none⟩,
      ⟨(some 18), (.op (.idxS 1 (.tmp 16) (.tmp 17))), none⟩,
      ⟨(some 19), (.op (.load none (.tmp 18))), none⟩,
      ⟨(some 20), (.op (.mv (.tmp 0))), none⟩,
      ⟨(some 21), (.op (.mv (.tmp 1))), none⟩,
      ⟨(some 22), (.op (.idxS 1 (.tmp 20) (.tmp 21))), none⟩,
      ⟨(some 23), (.op (.load none (.tmp 22))), none⟩,
      ⟨(some 24), (.op (.idxS 1 (.tmp 12) (.tmp 13))), none⟩,
      ⟨none, (.op (.store 1 (.tmp 24) (.tmp 19))), none⟩,
      ⟨(some 25), (.op (.idxS 1 (.tmp 14) (.tmp 15))), none⟩,
      ⟨none, (.op (.store 1 (.tmp 25) (.tmp 23))), none⟩] [0, 1, 2, 3, 4, 5, 6, 7, 8, 9, 10, 11, 12, 13, 14, 15] [[], [], [], [], [], [], [], [], [], [], [], [], [], [12, 6, 7, 11, 10], [], [14, 6, 7, 10, 11, 12]] [])
    (.seq (.region [
      ⟨(some 26), (.op (.mv (.tmp 1))), none⟩,
      ⟨(some 27), (.op (.bin .add none (.tmp 26) (.cst (.int .i64 1)))), none⟩,
      ⟨(some 28), (.op (.mv (.tmp 2))), none⟩,
      ⟨(some 29), (.op (.bin .sub none (.tmp 28) (.cst (.int .i64 1)))), none⟩,
      ⟨(some 10), (.op (.mv (.tmp 27))), none⟩,
      ⟨(some 11), (.op (.mv (.tmp 29))), none⟩] [])
    (.seq (.block 0
      (.loop
        (.seq (.seq (.draw [
          ⟨(some 30), (.op (.mv (.tmp 10))), none⟩,
          ⟨(some 31), (.op (.mv (.tmp 11))), none⟩,
          ⟨(some 32), (.op (.bin .leq none (.tmp 30) (.tmp 31))), none⟩,
          ⟨(some 33), (.op (.mv (.tmp 32))), none⟩,
          ⟨(some 34), (.op (.mv (.tmp 0))), (some (33, true))⟩,
          ⟨(some 35), (.op (.mv (.tmp 10))), (some (33, true))⟩,
          ⟨(some 36), (.op (.idxS 1 (.tmp 34) (.tmp 35))), (some (33, true))⟩,
          ⟨(some 37), (.op (.load none (.tmp 36))), (some (33, true))⟩,
          ⟨(some 38), (.op (.mv (.tmp 0))), (some (33, true))⟩,
          ⟨(some 39), (.op (.mv (.tmp 1))), (some (33, true))⟩,
          ⟨(some 40), (.op (.idxS 1 (.tmp 38) (.tmp 39))), (some (33, true))⟩,
          ⟨(some 41), (.op (.load none (.tmp 40))), (some (33, true))⟩,
          ⟨(some 42), (.call (.cst (.func (.func 65) [] [])) [(.tmp 37), (.tmp 41)]), (some (33, true))⟩,
          ⟨(some 43), (.op (.pick (.tmp 33) (.tmp 42) (.cst (.bool false)))), none⟩] [0, 1, 2, 3, 4, 5, 6, 7, 8, 9, 10, 11, 12, 13] [[], [], [], [], [], [], [], [], [], [], [], [], [7, 6, 11, 10], []] [])
        (.cond (.tmp 43)
          .skip
          (.exit 0)))
        (.block 1
          (.region [
            ⟨(some 44), (.op (.mv (.tmp 10))), none⟩,
            ⟨(some 45), (.op (.bin .add none (.tmp 44) (.cst (.int .i64 1)))), none⟩,
            ⟨(some 10), (.op (.mv (.tmp 45))), none⟩] [])))))
    (.seq (.block 2
      (.loop
        (.seq (.seq (.draw [
          ⟨(some 46), (.op (.mv (.tmp 10))), none⟩,
          ⟨(some 47), (.op (.mv (.tmp 11))), none⟩,
          ⟨(some 48), (.op (.bin .leq none (.tmp 46) (.tmp 47))), none⟩,
          ⟨(some 49), (.op (.mv (.tmp 48))), none⟩,
          ⟨(some 50), (.op (.mv (.tmp 0))), (some (49, true))⟩,
          ⟨(some 51), (.op (.mv (.tmp 11))), (some (49, true))⟩,
          ⟨(some 52), (.op (.idxS 1 (.tmp 50) (.tmp 51))), (some (49, true))⟩,
          ⟨(some 53), (.op (.load none (.tmp 52))), (some (49, true))⟩,
          ⟨(some 54), (.op (.mv (.tmp 0))), (some (49, true))⟩,
          ⟨(some 55), (.op (.mv (.tmp 1))), (some (49, true))⟩,
          ⟨(some 56), (.op (.idxS 1 (.tmp 54) (.tmp 55))), (some (49, true))⟩,
          ⟨(some 57), (.op (.load none (.tmp 56))), (some (49, true))⟩,
          ⟨(some 58), (.call (.cst (.func (.func 65) [] [])) [(.tmp 53), (.tmp 57)]), (some (49, true))⟩,
          ⟨(some 59), (.op (.un .not (.tmp 58))), (some (49, true))⟩,
          ⟨(some 60), (.op (.pick (.tmp 49) (.tmp 59) (.cst (.bool false)))), none⟩] [0, 1, 2, 3, 4, 5, 6, 7, 8, 9, 10, 11, 12, 13, 14] [[], [], [], [], [], [], [], [], [], [], [], [], [7, 6, 11, 10], [], []] [])
        (.cond (.tmp 60)
          .skip
          (.exit 2)))
        (.block 3
          (.region [
            ⟨(some 61), (.op (.mv (.tmp 11))), none⟩,
            ⟨(some 62), (.op (.bin .sub none (.tmp 61) (.cst (.int .i64 1)))), none⟩,
            ⟨(some 11), (.op (.mv (.tmp 62))), none⟩] [])))))
    (.seq (.seq (.region [
      ⟨(some 63), (.op (.mv (.tmp 10))), none⟩,
      ⟨(some 64), (.op (.mv (.tmp 11))), none⟩,
      ⟨(some 65), (.op (.bin .gtr none (.tmp 63) (.tmp 64))), none⟩] [])
    (.cond (.tmp 65)
      (.seq (.draw [
        ⟨(some 66), (.op (.mv (.tmp 0))), none⟩,
        ⟨(some 67), (.op (.mv (.tmp 11))), none⟩,
        ⟨(some 68), (.op (.mv (.tmp 0))), none⟩,
        ⟨(some 69), (.op (.mv (.tmp 1))), none⟩,
        ⟨(some 70), (.op (.mv (.tmp 0))), none⟩,
        ⟨(some 71), (.op (.mv (.tmp 1))), none⟩,
        ⟨(some 72), (.op (.idxS 1 (.tmp 70) (.tmp 71))), none⟩,
        ⟨(some 73), (.op (.load none (.tmp 72))), none⟩,
        ⟨(some 74), (.op (.mv (.tmp 0))), none⟩,
        ⟨(some 75), (.op (.mv (.tmp 11))), none⟩,
        ⟨(some 76), (.op (.idxS 1 (.tmp 74) (.tmp 75))), none⟩,
        ⟨(some 77), (.op (.load none (.tmp 76))), none⟩,
        ⟨(some 78), (.op (.idxS 1 (.tmp 66) (.tmp 67))), none⟩,
        ⟨none, (.op (.store 1 (.tmp 78) (.tmp 73))), none⟩,
        ⟨(some 79), (.op (.idxS 1 (.tmp 68) (.tmp 69))), none⟩,
        ⟨none, (.op (.store 1 (.tmp 79) (.tmp 77))), none⟩] [0, 1, 2, 3, 4, 5, 6, 7, 8, 9, 10, 11, 12, 13, 14, 15] [[], [], [], [], [], [], [], [], [], [], [], [], [], [12, 6, 7, 11, 10], [], [14, 6, 7, 10, 11, 12]] [])
      (.seq (.region [
        ⟨(some 80), (.op (.mv (.tmp 11))), none⟩,
        ⟨(some 8), (.op (.mv (.tmp 80))), none⟩,
        ⟨(some 9), (.op (.mv (.cst (.bool true)))), none⟩] [])
      .ret))
      .skip))
    (.seq (.draw [
      ⟨(some 81), (.op (.mv (.tmp 0))), none⟩,
      ⟨(some 82), (.op (.mv (.tmp 10))), none⟩,
      ⟨(some 83), (.op (.mv (.tmp 0))), none⟩,
      ⟨(some 84), (.op (.mv (.tmp 11))), none⟩,
      ⟨(some 85), (.op (.mv (.tmp 0))), none⟩,
      ⟨(some 86), (.op (.mv (.tmp 11))), none⟩,
      ⟨(some 87), (.op (.idxS 1 (.tmp 85) (.tmp 86))), none⟩,
      ⟨(some 88), (.op (.load none (.tmp 87))), none⟩,
      ⟨(some 89), (.op (.mv (.tmp 0))), none⟩,
      ⟨(some 90), (.op (.mv (.tmp 10))), none⟩,
      ⟨(some 91), (.op (.idxS 1 (.tmp 89) (.tmp 90))), none⟩,
      ⟨(some 92), (.op (.load none (.tmp 91))), none⟩,
      ⟨(some 93), (.op (.idxS 1 (.tmp 81) (.tmp 82))), none⟩,
      ⟨none, (.op (.store 1 (.tmp 93) (.tmp 88))), none⟩,
      ⟨(some 94), (.op (.idxS 1 (.tmp 83) (.tmp 84))), none⟩,
      ⟨none, (.op (.store 1 (.tmp 94) (.tmp 92))), none⟩] [0, 1, 2, 3, 4, 5, 6, 7, 8, 9, 10, 11, 12, 13, 14, 15] [[], [], [], [], [], [], [], [], [], [], [], [], [], [12, 6, 7, 11, 10], [], [14, 6, 7, 10, 11, 12]] [])
    (.seq (.region [
      ⟨(some 95), (.op (.mv (.tmp 10))), none⟩,
      ⟨(some 96), (.op (.bin .add none (.tmp 95) (.cst (.int .i64 1)))), none⟩,
      ⟨(some 10), (.op (.mv (.tmp 96))), none⟩] [])
    (.seq (.region [
      ⟨(some 97), (.op (.mv (.tmp 11))), none⟩,
      ⟨(some 98), (.op (.bin .sub none (.tmp 97) (.cst (.int .i64 1)))), none⟩,
      ⟨(some 11), (.op (.mv (.tmp 98))), none⟩] [])
    (.seq (.block 4
      (.loop
        (.block 5
          (.seq (.block 6
            (.loop
              (.seq (.seq (.draw [
                ⟨(some 99), (.op (.mv (.tmp 10))), none⟩,
                ⟨(some 100), (.op (.mv (.tmp 11))), none⟩,
                ⟨(some 101), (.op (.bin .leq none (.tmp 99) (.tmp 100))), none⟩,
                ⟨(some 102), (.op (.mv (.tmp 101))), none⟩,
                ⟨(some 103), (.op (.mv (.tmp 0))), (some (102, true))⟩,
                ⟨(some 104), (.op (.mv (.tmp 10))), (some (102, true))⟩,
                ⟨(some 105), (.op (.idxS 1 (.tmp 103) (.tmp 104))), (some (102, true))⟩,
                ⟨(some 106), (.op (.load none (.tmp 105))), (some (102, true))⟩,
                ⟨(some 107), (.op (.mv (.tmp 0))), (some (102, true))⟩,
                ⟨(some 108), (.op (.mv (.tmp 1))), (some (102, true))⟩,
                ⟨(some 109), (.op (.idxS 1 (.tmp 107) (.tmp 108))), (some (102, true))⟩,
                ⟨(some 110), (.op (.load none (.tmp 109))), (some (102, true))⟩,
                ⟨(some 111), (.call (.cst (.func (.func 65) [] [])) [(.tmp 106), (.tmp 110)]), (some (102, true))⟩,
                ⟨(some 112), (.op (.pick (.tmp 102) (.tmp 111) (.cst (.bool false)))), none⟩] [0, 1, 2, 3, 4, 5, 6, 7, 8, 9, 10, 11, 12, 13] [[], [], [], [], [], [], [], [], [], [], [], [], [7, 6, 11, 10], []] [])
              (.cond (.tmp 112)
                .skip
                (.exit 6)))
              (.block 7
                (.region [
                  ⟨(some 113), (.op (.mv (.tmp 10))), none⟩,
                  ⟨(some 114), (.op (.bin .add none (.tmp 113) (.cst (.int .i64 1)))), none⟩,
                  ⟨(some 10), (.op (.mv (.tmp 114))), none⟩] [])))))
          (.seq (.block 8
            (.loop
              (.seq (.seq (.draw [
                ⟨(some 115), (.op (.mv (.tmp 10))), none⟩,
                ⟨(some 116), (.op (.mv (.tmp 11))), none⟩,
                ⟨(some 117), (.op (.bin .leq none (.tmp 115) (.tmp 116))), none⟩,
                ⟨(some 118), (.op (.mv (.tmp 117))), none⟩,
                ⟨(some 119), (.op (.mv (.tmp 0))), (some (118, true))⟩,
                ⟨(some 120), (.op (.mv (.tmp 11))), (some (118, true))⟩,
                ⟨(some 121), (.op (.idxS 1 (.tmp 119) (.tmp 120))), (some (118, true))⟩,
                ⟨(some 122), (.op (.load none (.tmp 121))), (some (118, true))⟩,
                ⟨(some 123), (.op (.mv (.tmp 0))), (some (118, true))⟩,
                ⟨(some 124), (.op (.mv (.tmp 1))), (some (118, true))⟩,
                ⟨(some 125), (.op (.idxS 1 (.tmp 123) (.tmp 124))), (some (118, true))⟩,
                ⟨(some 126), (.op (.load none (.tmp 125))), (some (118, true))⟩,
                ⟨(some 127), (.call (.cst (.func (.func 65) [] [])) [(.tmp 122), (.tmp 126)]), (some (118, true))⟩,
                ⟨(some 128), (.op (.un .not (.tmp 127))), (some (118, true))⟩,
                ⟨(some 129), (.op (.pick (.tmp 118) (.tmp 128) (.cst (.bool false)))), none⟩] [0, 1, 2, 3, 4, 5, 6, 7, 8, 9, 10, 11, 12, 13, 14] [[], [], [], [], [], [], [], [], [], [], [], [], [7, 6, 11, 10], [], []] [])
              (.cond (.tmp 129)
                .skip
                (.exit 8)))
              (.block 9
                (.region [
                  ⟨(some 130), (.op (.mv (.tmp 11))), none⟩,
                  ⟨(some 131), (.op (.bin .sub none (.tmp 130) (.cst (.int .i64 1)))), none⟩,
                  ⟨(some 11), (.op (.mv (.tmp 131))), none⟩] [])))))
          (.seq (.seq (.region [
            ⟨(some 132), (.op (.mv (.tmp 10))), none⟩,
            ⟨(some 133), (.op (.mv (.tmp 11))), none⟩,
            ⟨(some 134), (.op (.bin .gtr none (.tmp 132) (.tmp 133))), none⟩] [])
          (.cond (.tmp 134)
            (.exit 4)
            .skip))
          (.seq (.draw [
            ⟨(some 135), (.op (.mv (.tmp 0))), none⟩,
            ⟨(some 136), (.op (.mv (.tmp 10))), none⟩,
            ⟨(some 137), (.op (.mv (.tmp 0))), none⟩,
            ⟨(some 138), (.op (.mv (.tmp 11))), none⟩,
            ⟨(some 139), (.op (.mv (.tmp 0))), none⟩,
            ⟨(some 140), (.op (.mv (.tmp 11))), none⟩,
            ⟨(some 141), (.op (.idxS 1 (.tmp 139) (.tmp 140))), none⟩,
            ⟨(some 142), (.op (.load none (.tmp 141))), none⟩,
            ⟨(some 143), (.op (.mv (.tmp 0))), none⟩,
            ⟨(some 144), (.op (.mv (.tmp 10))), none⟩,
            ⟨(some 145), (.op (.idxS 1 (.tmp 143) (.tmp 144))), none⟩,
            ⟨(some 146), (.op (.load none (.tmp 145))), none⟩,
            ⟨(some 147), (.op (.idxS 1 (.tmp 135) (.tmp 136))), none⟩,
            ⟨none, (.op (.store 1 (.tmp 147) (.tmp 142))), none⟩,
            ⟨(some 148), (.op (.idxS 1 (.tmp 137) (.tmp 138))), none⟩,
            ⟨none, (.op (.store 1 (.tmp 148) (.tmp 146))), none⟩] [0, 1, 2, 3, 4, 5, 6, 7, 8, 9, 10, 11, 12, 13, 14, 15] [[], [], [], [], [], [], [], [], [], [], [], [], [], [12, 6, 7, 11, 10], [], [14, 6, 7, 10, 11, 12]] [])
          (.seq (.region [
            ⟨(some 149), (.op (.mv (.tmp 10))), none⟩,
            ⟨(some 150), (.op (.bin .add none (.tmp 149) (.cst (.int .i64 1)))), none⟩,
            ⟨(some 10), (.op (.mv (.tmp 150))), none⟩] [])
          (.region [
            ⟨(some 151), (.op (.mv (.tmp 11))), none⟩,
            ⟨(some 152), (.op (.bin .sub none (.tmp 151) (.cst (.int .i64 1)))), none⟩,
            ⟨(some 11), (.op (.mv (.tmp 152))), none⟩] [])))))))))
    (.seq (.draw [
      ⟨(some 153), (.op (.mv (.tmp 0))), none⟩,
      ⟨(some 154), (.op (.mv (.tmp 11))), none⟩,
      ⟨(some 155), (.op (.mv (.tmp 0))), none⟩,
      ⟨(some 156), (.op (.mv (.tmp 1))), none⟩,
      ⟨(some 157), (.op (.mv (.tmp 0))), none⟩,
      ⟨(some 158), (.op (.mv (.tmp 1))), none⟩,
      ⟨(some 159), (.op (.idxS 1 (.tmp 157) (.tmp 158))), none⟩,
      ⟨(some 160), (.op (.load none (.tmp 159))), none⟩,
      ⟨(some 161), (.op (.mv (.tmp 0))), none⟩,
      ⟨(some 162), (.op (.mv (.tmp 11))), none⟩,
      ⟨(some 163), (.op (.idxS 1 (.tmp 161) (.tmp 162))), none⟩,
      ⟨(some 164), (.op (.load none (.tmp 163))), none⟩,
      ⟨(some 165), (.op (.idxS 1 (.tmp 153) (.tmp 154))), none⟩,
      ⟨none, (.op (.store 1 (.tmp 165) (.tmp 160))), none⟩,
      ⟨(some 166), (.op (.idxS 1 (.tmp 155) (.tmp 156))), none⟩,
      ⟨none, (.op (.store 1 (.tmp 166) (.tmp 164))), none⟩] [0, 1, 2, 3, 4, 5, 6, 7, 8, 9, 10, 11, 12, 13, 14, 15] [[], [], [], [], [], [], [], [], [], [], [], [], [], [12, 6, 7, 11, 10], [], [14, 6, 7, 10, 11, 12]] [])
    (.seq (.region [
      ⟨(some 167), (.op (.mv (.tmp 11))), none⟩,
      ⟨(some 8), (.op (.mv (.tmp 167))), none⟩,
      ⟨(some 9), (.op (.mv (.cst (.bool false)))), none⟩] [])
    .ret))))))))))))⟩
theorem c67 : cFn Try.prog [] Try.f67 = some h67 := by kernel_rfl
/-- slices.nextPowerOfTwo -/
def h69 : HFn :=
  ⟨7, [(.tmp 2)],
    (.seq (.region [
      ⟨(some 2), (.op (.mv (.cst (.int .u64 0)))), none⟩] [])
    (.seq (.region [
      ⟨(some 3), (.op (.mv (.tmp 0))), none⟩,
      ⟨(some 4), (.op (.cInt .u64 (.tmp 3))), none⟩,
      ⟨(some 5), (.call (.cst (.func (.func 44) [] [])) [(.tmp 4)]), none⟩,
      ⟨(some 6), (.op (.bin .shl none (.cst (.int .u64 1)) (.tmp 5))), none⟩,
      ⟨(some 2), (.op (.mv (.tmp 6))), none⟩] [])
    .ret))⟩
theorem c69 : cFn Try.prog [] Try.f69 = some h69 := by kernel_rfl
/-- (*slices.xorshift).Next -/
def h70 : HFn :=
  ⟨33, [(.tmp 2)],
    (.seq (.region [
      ⟨(some 2), (.op (.mv (.cst (.int .u64 0)))), none⟩] [])
    (.seq (.draw [
      ⟨(some 3), (.op (.mv (.tmp 0))), none⟩,
      ⟨(some 4), (.op (.nilc (.tmp 3))), none⟩,
      ⟨(some 5), (.op (.load none (.tmp 4))), none⟩,
      ⟨(some 6), (.op (.mv (.tmp 0))), none⟩,
      ⟨(some 7), (.op (.nilc (.tmp 6))), none⟩,
      ⟨(some 8), (.op (.load none (.tmp 7))), none⟩,
      ⟨(some 9), (.op (.bin .shl none (.tmp 8) (.cst (.int .u64 13)))), none⟩,
      ⟨(some 10), (.op (.bin .xor none (.tmp 5) (.tmp 9))), none⟩,
      ⟨(some 11), (.op (.nilc (.tmp 3))), none⟩,
      ⟨none, (.op (.store 1 (.tmp 11) (.tmp 10))), none⟩] [0, 1, 2, 3, 4, 5, 6, 7, 8, 9] [[], [], [], [], [], [], [], [], [], [2, 5]] [])
    (.seq (.draw [
      ⟨(some 12), (.op (.mv (.tmp 0))), none⟩,
      ⟨(some 13), (.op (.nilc (.tmp 12))), none⟩,
      ⟨(some 14), (.op (.load none (.tmp 13))), none⟩,
      ⟨(some 15), (.op (.mv (.tmp 0))), none⟩,
      ⟨(some 16), (.op (.nilc (.tmp 15))), none⟩,
      ⟨(some 17), (.op (.load none (.tmp 16))), none⟩,
      ⟨(some 18), (.op (.bin .shr none (.tmp 17) (.cst (.int .u64 7)))), none⟩,
      ⟨(some 19), (.op (.bin .xor none (.tmp 14) (.tmp 18))), none⟩,
      ⟨(some 20), (.op (.nilc (.tmp 12))), none⟩,
      ⟨none, (.op (.store 1 (.tmp 20) (.tmp 19))), none⟩] [0, 1, 2, 3, 4, 5, 6, 7, 8, 9] [[], [], [], [], [], [], [], [], [], [2, 5]] [])
    (.seq (.draw [
      ⟨(some 21), (.op (.mv (.tmp 0))), none⟩,
      ⟨(some 22), (.op (.nilc (.tmp 21))), none⟩,
      ⟨(some 23), (.op (.load none (.tmp 22))), none⟩,
      ⟨(some 24), (.op (.mv (.tmp 0))), none⟩,
      ⟨(some 25), (.op (.nilc (.tmp 24))), none⟩,
      ⟨(some 26), (.op (.load none (.tmp 25))), none⟩,
      ⟨(some 27), (.op (.bin .shl none (.tmp 26) (.cst (.int .u64 17)))), none⟩,
      ⟨(some 28), (.op (.bin .xor none (.tmp 23) (.tmp 27))), none⟩,
      ⟨(some 29), (.op (.nilc (.tmp 21))), none⟩,
      ⟨none, (.op (.store 1 (.tmp 29) (.tmp 28))), none⟩] [0, 1, 2, 3, 4, 5, 6, 7, 8, 9] [[], [], [], [], [], [], [], [], [], [2, 5]] [])
    (.seq (.region [
      ⟨(some 30), (.op (.mv (.tmp 0))), none⟩,
      ⟨(some 31), (.op (.nilc (.tmp 30))), none⟩,
      ⟨(some 32), (.op (.load none (.tmp 31))), none⟩,
      ⟨(some 2), (.op (.mv (.tmp 32))), none⟩] [])
    .ret)))))⟩
theorem c70 : cFn Try.prog [] Try.f70 = some h70 := by kernel_rfl
/-- internal/stringslite.IndexByte -/
def h74 : HFn :=
  ⟨8, [(.tmp 4)],
    (.seq (.region [
      ⟨(some 4), (.op (.mv (.cst (.int .i64 0)))), none⟩] [])
    (.seq (.region [
      ⟨(some 5), (.op (.mv (.tmp 0))), none⟩,
      ⟨(some 6), (.op (.mv (.tmp 1))), none⟩,
      ⟨(some 7), (.call (.cst (.func (.func 80) [] [])) [(.tmp 5), (.tmp 6)]), none⟩,
      ⟨(some 4), (.op (.mv (.tmp 7))), none⟩] [])
    .ret))⟩
theorem c74 : cFn Try.prog [] Try.f74 = some h74 := by kernel_rfl
/-- slices.siftDownOrdered[string] -/
def h75 : HFn :=
  ⟨76, [],
    (.seq (.region [
      ⟨(some 10), (.op (.mv (.tmp 1))), none⟩,
      ⟨(some 8), (.op (.mv (.tmp 10))), none⟩] [])
    (.block 0
      (.loop
        (.block 1
          (.seq (.region [
            ⟨(some 11), (.op (.mv (.tmp 8))), none⟩,
            ⟨(some 12), (.op (.bin .mul none (.cst (.int .i64 2)) (.tmp 11))), none⟩,
            ⟨(some 13), (.op (.bin .add none (.tmp 12) (.cst (.int .i64 1)))), none⟩,
            ⟨(some 9), (.op (.mv (.tmp 13))), none⟩] [])
          (.seq (.seq (.region [
            ⟨(some 14), (.op (.mv (.tmp 9))), none⟩,
            ⟨(some 15), (.op (.mv (.tmp 2))), none⟩,
            ⟨(some 16), (.op (.bin .geq none (.tmp 14) (.tmp 15))), none⟩] [])
          (.cond (.tmp 16)
            (.exit 0)
            .skip))
          (.seq (.seq (.draw [
            ⟨(some 17), (.op (.mv (.tmp 9))), none⟩,
            ⟨(some 18), (.op (.bin .add none (.tmp 17) (.cst (.int .i64 1)))), none⟩,
            ⟨(some 19), (.op (.mv (.tmp 2))), none⟩,
            ⟨(some 20), (.op (.bin .lss none (.tmp 18) (.tmp 19))), none⟩,
            ⟨(some 21), (.op (.mv (.tmp 20))), none⟩,
            ⟨(some 22), (.op (.mv (.tmp 0))), (some (21, true))⟩,
            ⟨(some 23), (.op (.mv (.tmp 3))), (some (21, true))⟩,
            ⟨(some 24), (.op (.mv (.tmp 9))), (some (21, true))⟩,
            ⟨(some 25), (.op (.bin .add none (.tmp 23) (.tmp 24))), (some (21, true))⟩,
            ⟨(some 26), (.op (.idxS 1 (.tmp 22) (.tmp 25))), (some (21, true))⟩,
            ⟨(some 27), (.op (.load none (.tmp 26))), (some (21, true))⟩,
            ⟨(some 28), (.op (.mv (.tmp 0))), (some (21, true))⟩,
            ⟨(some 29), (.op (.mv (.tmp 3))), (some (21, true))⟩,
            ⟨(some 30), (.op (.mv (.tmp 9))), (some (21, true))⟩,
            ⟨(some 31), (.op (.bin .add none (.tmp 29) (.tmp 30))), (some (21, true))⟩,
            ⟨(some 32), (.op (.bin .add none (.tmp 31) (.cst (.int .i64 1)))), (some (21, true))⟩,
            ⟨(some 33), (.op (.idxS 1 (.tmp 28) (.tmp 32))), (some (21, true))⟩,
            ⟨(some 34), (.op (.load none (.tmp 33))), (some (21, true))⟩,
            ⟨(some 35), (.call (.cst (.func (.func 65) [] [])) [(.tmp 27), (.tmp 34)]), (some (21, true))⟩,
            ⟨(some 36), (.op (.pick (.tmp 21) (.tmp 35) (.cst (.bool false)))), none⟩] [0, 1, 2, 3, 4, 5, 6, 7, 8, 9, 10, 11, 12, 13, 14, 15, 16, 17, 18, 19] [[], [], [], [], [], [], [], [], [], [], [], [], [], [], [], [], [], [], [10, 9, 17, 16], []] [])
          (.cond (.tmp 36)
            (.region [
              ⟨(some 37), (.op (.mv (.tmp 9))), none⟩,
              ⟨(some 38), (.op (.bin .add none (.tmp 37) (.cst (.int .i64 1)))), none⟩,
              ⟨(some 9), (.op (.mv (.tmp 38))), none⟩] [])
            .skip))
          (.seq (.seq (.draw [
            ⟨(some 39), (.op (.mv (.tmp 0))), none⟩,
            ⟨(some 40), (.op (.mv (.tmp 3))), none⟩,
            ⟨(some 41), (.op (.mv (.tmp 8))), none⟩,
            ⟨(some 42), (.op (.bin .add none (.tmp 40) (.tmp 41))), none⟩,
            ⟨(some 43), (.op (.idxS 1 (.tmp 39) (.tmp 42))), none⟩,
            ⟨(some 44), (.op (.load none (.tmp 43))), none⟩,
            ⟨(some 45), (.op (.mv (.tmp 0))), none⟩,
            ⟨(some 46), (.op (.mv (.tmp 3))), none⟩,
            ⟨(some 47), (.op (.mv (.tmp 9))), none⟩,
            ⟨(some 48), (.op (.bin .add none (.tmp 46) (.tmp 47))), none⟩,
            ⟨(some 49), (.op (.idxS 1 (.tmp 45) (.tmp 48))), none⟩,
            ⟨(some 50), (.op (.load none (.tmp 49))), none⟩,
            ⟨(some 51), (.call (.cst (.func (.func 65) [] [])) [(.tmp 44), (.tmp 50)]), none⟩,
            ⟨(some 52), (.op (.un .not (.tmp 51))), none⟩] [0, 1, 2, 3, 4, 5, 6, 7, 8, 9, 10, 11, 12, 13] [[], [], [], [], [], [], [], [], [], [], [], [], [5, 4, 11, 10], []] [])
          (.cond (.tmp 52)
            .ret
            .skip))
          (.seq (.draw [
            ⟨(some 53), (.op (.mv (.tmp 0))), none⟩,
            ⟨(some 54), (.op (.mv (.tmp 3))), none⟩,
            ⟨(some 55), (.op (.mv (.tmp 8))), none⟩,
            ⟨(some 56), (.op (.bin .add none (.tmp 54) (.tmp 55))), none⟩,
            ⟨(some 57), (.op (.mv (.tmp 0))), none⟩,
            ⟨(some 58), (.op (.mv (.tmp 3))), none⟩,
            ⟨(some 59), (.op (.mv (.tmp 9))), none⟩,
            ⟨(some 60), (.op (.bin .add none (.tmp 58) (.tmp 59))), none⟩,
            ⟨(some 61), (.op (.mv (.tmp 0))), none⟩,
            ⟨(some 62), (.op (.mv (.tmp 3))), none⟩,
            ⟨(some 63), (.op (.mv (.tmp 9))), none⟩,
            ⟨(some 64), (.op (.bin .add none (.tmp 62) (.tmp 63))), none⟩,
            ⟨(some 65), (.op (.idxS 1 (.tmp 61) (.tmp 64))), none⟩,
            ⟨(some 66), (.op (.load none (.tmp 65))), none⟩,
            ⟨(some 67), (.op (.mv (.tmp 0))), none⟩,
            ⟨(some 68), (.op (.mv (.tmp 3))), none⟩,
            ⟨(some 69), (.op (.mv (.tmp 8))), none⟩,
            ⟨(some 70), (.op (.bin .add none (.tmp 68) (.tmp 69))), none⟩,
            ⟨(some 71), (.op (.idxS 1 (.tmp 67) (.tmp 70))), none⟩,
            ⟨(some 72), (.op (.load none (.tmp 71))), none⟩,
            ⟨(some 73), (.op (.idxS 1 (.tmp 53) (.tmp 56))), none⟩,
            ⟨none, (.op (.store 1 (.tmp 73) (.tmp 66))), none⟩,
            ⟨(some 74), (.op (.idxS 1 (.tmp 57) (.tmp 60))), none⟩,
            ⟨none, (.op (.store 1 (.tmp 74) (.tmp 72))), none⟩] [0, 1, 2, 3, 4, 5, 6, 7, 8, 9, 10, 11, 12, 13, 14, 15, 16, 17, 18, 19, 20, 21, 22, 23] [[], [], [], [], [], [], [], [], [], [], [], [], [], [], [], [], [], [], [], [], [], [20, 12, 13, 19, 18], [], [22, 12, 13, 18, 19, 20]] [])
          (.region [
            ⟨(some 75), (.op (.mv (.tmp 9))), none⟩,
            ⟨(some 8), (.op (.mv (.tmp 75))), none⟩] []))))))))))⟩
theorem c75 : cFn Try.prog [] Try.f75 = some h75 := by kernel_rfl
/-- slices.medianAdjacentOrdered[string] -/
def h76 : HFn :=
  ⟨15, [(.tmp 6)],
    (.seq (.region [
      ⟨(some 6), (.op (.mv (.cst (.int .i64 0)))), none⟩] [])
    (.seq (.region [
      ⟨(some 7), (.op (.mv (.tmp 0))), none⟩,
      ⟨(some 8), (.op (.mv (.tmp 1))), none⟩,
      ⟨(some 9), (.op (.bin .sub none (.tmp 8) (.cst (.int .i64 1)))), none⟩,
      ⟨(some 10), (.op (.mv (.tmp 1))), none⟩,
      ⟨(some 11), (.op (.mv (.tmp 1))), none⟩,
      ⟨(some 12), (.op (.bin .add none (.tmp 11) (.cst (.int .i64 1)))), none⟩,
      ⟨(some 13), (.op (.mv (.tmp 2))), none⟩,
      ⟨(some 14), (.call (.cst (.func (.func 77) [] [])) [(.tmp 7), (.tmp 9), (.tmp 10), (.tmp 12), (.tmp 13)]), none⟩,
      ⟨(some 6), (.op (.mv (.tmp 14))), none⟩] [])
    .ret))⟩
theorem c76 : cFn Try.prog [] Try.f76 = some h76 := by kernel_rfl
/-- slices.medianOrdered[string] -/
def h77 : HFn :=
  ⟨36, [(.tmp 10)],
    (.seq (.region [
      ⟨(some 10), (.op (.mv (.cst (.int .i64 0)))), none⟩] [])
    (.seq (.region [
      ⟨(some 12), (.op (.mv (.tmp 0))), none⟩,
      ⟨(some 13), (.op (.mv (.tmp 1))), none⟩,
      ⟨(some 14), (.op (.mv (.tmp 2))), none⟩,
      ⟨(some 15), (.op (.mv (.tmp 4))), none⟩,
      ⟨(some 16), (.call (.cst (.func (.func 81) [] [])) [(.tmp 12), (.tmp 13), (.tmp 14), (.tmp 15)]), none⟩,
      ⟨(some 11), (.op (.mv (.tmp 16))), none⟩,
      ⟨(some 17), (.op (.ext 0 (.tmp 11))), none⟩,
      ⟨(some 18), (.op (.ext 1 (.tmp 11))), none⟩,
      ⟨(some 1), (.op (.mv (.tmp 17))), none⟩,
      ⟨(some 2), (.op (.mv (.tmp 18))), none⟩] [])
    (.seq (.region [
      ⟨(some 20), (.op (.mv (.tmp 0))), none⟩,
      ⟨(some 21), (.op (.mv (.tmp 2))), none⟩,
      ⟨(some 22), (.op (.mv (.tmp 3))), none⟩,
      ⟨(some 23), (.op (.mv (.tmp 4))), none⟩,
      ⟨(some 24), (.call (.cst (.func (.func 81) [] [])) [(.tmp 20), (.tmp 21), (.tmp 22), (.tmp 23)]), none⟩,
      ⟨(some 19), (.op (.mv (.tmp 24))), none⟩,
      ⟨(some 25), (.op (.ext 0 (.tmp 19))), none⟩,
      ⟨(some 26), (.op (.ext 1 (.tmp 19))), none⟩,
      ⟨(some 2), (.op (.mv (.tmp 25))), none⟩,
      ⟨(some 3), (.op (.mv (.tmp 26))), none⟩] [])
    (.seq (.region [
      ⟨(some 28), (.op (.mv (.tmp 0))), none⟩,
      ⟨(some 29), (.op (.mv (.tmp 1))), none⟩,
      ⟨(some 30), (.op (.mv (.tmp 2))), none⟩,
      ⟨(some 31), (.op (.mv (.tmp 4))), none⟩,
      ⟨(some 32), (.call (.cst (.func (.func 81) [] [])) [(.tmp 28), (.tmp 29), (.tmp 30), (.tmp 31)]), none⟩,
      ⟨(some 27), (.op (.mv (.tmp 32))), none⟩,
      ⟨(some 33), (.op (.ext 0 (.tmp 27))), none⟩,
      ⟨(some 34), (.op (.ext 1 (.tmp 27))), none⟩,
      ⟨(some 1), (.op (.mv (.tmp 33))), none⟩,
      ⟨(some 2), (.op (.mv (.tmp 34))), none⟩] [])
    (.seq (.region [
      ⟨(some 35), (.op (.mv (.tmp 2))), none⟩,
      ⟨(some 10), (.op (.mv (.tmp 35))), none⟩] [])
    .ret)))))⟩
theorem c77 : cFn Try.prog [] Try.f77 = some h77 := by kernel_rfl
/-- cmp.isNaN[string] -/
def h78 : HFn :=
  ⟨6, [(.tmp 2)],
    (.seq (.region [
      ⟨(some 2), (.op (.mv (.cst (.bool false)))), none⟩] [])
    (.seq (.region [
      ⟨(some 3), (.op (.mv (.tmp 0))), none⟩,
      ⟨(some 4), (.op (.mv (.tmp 0))), none⟩,
      ⟨(some 5), (.op (.bin .neq (some .str) (.tmp 3) (.tmp 4))), none⟩,
      ⟨(some 2), (.op (.mv (.tmp 5))), none⟩] [])
    .ret))⟩
theorem c78 : cFn Try.prog [] Try.f78 = some h78 := by kernel_rfl
/-- slices.order2Ordered[string] -/
def h81 : HFn :=
  ⟨28, [(.tmp 8), (.tmp 9)],
    (.seq (.region [
      ⟨(some 8), (.op (.mv (.cst (.int .i64 0)))), none⟩,
      ⟨(some 9), (.op (.mv (.cst (.int .i64 0)))), none⟩] [])
    (.seq (.seq (.draw [
      ⟨(some 10), (.op (.mv (.tmp 0))), none⟩,
      ⟨(some 11), (.op (.mv (.tmp 2))), none⟩,
      ⟨(some 12), (.op (.idxS 1 (.tmp 10) (.tmp 11))), none⟩,
      ⟨(some 13), (.op (.load none (.tmp 12))), none⟩,
      ⟨(some 14), (.op (.mv (.tmp 0))), none⟩,
      ⟨(some 15), (.op (.mv (.tmp 1))), none⟩,
      ⟨(some 16), (.op (.idxS 1 (.tmp 14) (.tmp 15))), none⟩,
      ⟨(some 17), (.op (.load none (.tmp 16))), none⟩,
      ⟨(some 18), (.call (.cst (.func (.func 65) [] [])) [(.tmp 13), (.tmp 17)]), none⟩] [0, 1, 2, 3, 4, 5, 6, 7, 8] [[], [], [], [], [], [], [], [], [3, 2, 7, 6]] [])
    (.cond (.tmp 18)
      (.seq (.region [
        ⟨(some 19), (.op (.mv (.tmp 3))), none⟩,
        ⟨(some 20), (.op (.nilc (.tmp 19))), none⟩,
        ⟨(some 21), (.op (.load none (.tmp 20))), none⟩,
        ⟨(some 22), (.op (.bin .add none (.tmp 21) (.cst (.int .i64 1)))), none⟩,
        ⟨(some 23), (.op (.nilc (.tmp 19))), none⟩,
        ⟨none, (.op (.store 1 (.tmp 23) (.tmp 22))), none⟩] [])
      (.seq (.region [
        ⟨(some 24), (.op (.mv (.tmp 2))), none⟩,
        ⟨(some 25), (.op (.mv (.tmp 1))), none⟩,
        ⟨(some 8), (.op (.mv (.tmp 24))), none⟩,
        ⟨(some 9), (.op (.mv (.tmp 25))), none⟩] [])
      .ret))
      .skip))
    (.seq (.region [
      ⟨(some 26), (.op (.mv (.tmp 1))), none⟩,
      ⟨(some 27), (.op (.mv (.tmp 2))), none⟩,
      ⟨(some 8), (.op (.mv (.tmp 26))), none⟩,
      ⟨(some 9), (.op (.mv (.tmp 27))), none⟩] [])
    .ret)))⟩
theorem c81 : cFn Try.prog [] Try.f81 = some h81 := by kernel_rfl
noncomputable def F : FuncId → Option HFn
  | 3 => some h3
  | 6 => some h6
  | 7 => some h7
  | 9 => some h9
  | 10 => some h10
  | 13 => some h13
  | 14 => some h14
  | 17 => some h17
  | 24 => some h24
  | 25 => some h25
  | 27 => some h27
  | 28 => some h28
  | 29 => some h29
  | 37 => some h37
  | 40 => some h40
  | 41 => some h41
  | 42 => some h42
  | 44 => some h44
  | 45 => some h45
  | 46 => some h46
  | 56 => some h56
  | 57 => some h57
  | 58 => some h58
  | 59 => some h59
  | 60 => some h60
  | 61 => some h61
  | 62 => some h62
  | 63 => some h63
  | 64 => some h64
  | 65 => some h65
  | 66 => some h66
  | 67 => some h67
  | 69 => some h69
  | 70 => some h70
  | 74 => some h74
  | 75 => some h75
  | 76 => some h76
  | 77 => some h77
  | 78 => some h78
  | 81 => some h81
  | _ => none
theorem F_ok : FOk Try.prog F := by
  intro f hf h
  unfold F at h
  split at h
  · simp at h; subst h; exact ⟨_, [], Try.func3, c3⟩
  · simp at h; subst h; exact ⟨_, [], Try.func6, c6⟩
  · simp at h; subst h; exact ⟨_, [], Try.func7, c7⟩
  · simp at h; subst h; exact ⟨_, [], Try.func9, c9⟩
  · simp at h; subst h; exact ⟨_, [], Try.func10, c10⟩
  · simp at h; subst h; exact ⟨_, [], Try.func13, c13⟩
  · simp at h; subst h; exact ⟨_, [], Try.func14, c14⟩
  · simp at h; subst h; exact ⟨_, [], Try.func17, c17⟩
  · simp at h; subst h; exact ⟨_, [], Try.func24, c24⟩
  · simp at h; subst h; exact ⟨_, [], Try.func25, c25⟩
  · simp at h; subst h; exact ⟨_, [], Try.func27, c27⟩
  · simp at h; subst h; exact ⟨_, [], Try.func28, c28⟩
  · simp at h; subst h; exact ⟨_, [], Try.func29, c29⟩
  · simp at h; subst h; exact ⟨_, [], Try.func37, c37⟩
  · simp at h; subst h; exact ⟨_, [], Try.func40, c40⟩
  · simp at h; subst h; exact ⟨_, [], Try.func41, c41⟩
  · simp at h; subst h; exact ⟨_, [], Try.func42, c42⟩
  · simp at h; subst h; exact ⟨_, [], Try.func44, c44⟩
  · simp at h; subst h; exact ⟨_, [], Try.func45, c45⟩
  · simp at h; subst h; exact ⟨_, [], Try.func46, c46⟩
  · simp at h; subst h; exact ⟨_, [], Try.func56, c56⟩
  · simp at h; subst h; exact ⟨_, [], Try.func57, c57⟩
  · simp at h; subst h; exact ⟨_, [], Try.func58, c58⟩
  · simp at h; subst h; exact ⟨_, [], Try.func59, c59⟩
  · simp at h; subst h; exact ⟨_, [], Try.func60, c60⟩
  · simp at h; subst h; exact ⟨_, [], Try.func61, c61⟩
  · simp at h; subst h; exact ⟨_, [], Try.func62, c62⟩
  · simp at h; subst h; exact ⟨_, [], Try.func63, c63⟩
  · simp at h; subst h; exact ⟨_, [], Try.func64, c64⟩
  · simp at h; subst h; exact ⟨_, [], Try.func65, c65⟩
  · simp at h; subst h; exact ⟨_, [], Try.func66, c66⟩
  · simp at h; subst h; exact ⟨_, [], Try.func67, c67⟩
  · simp at h; subst h; exact ⟨_, [], Try.func69, c69⟩
  · simp at h; subst h; exact ⟨_, [], Try.func70, c70⟩
  · simp at h; subst h; exact ⟨_, [], Try.func74, c74⟩
  · simp at h; subst h; exact ⟨_, [], Try.func75, c75⟩
  · simp at h; subst h; exact ⟨_, [], Try.func76, c76⟩
  · simp at h; subst h; exact ⟨_, [], Try.func77, c77⟩
  · simp at h; subst h; exact ⟨_, [], Try.func78, c78⟩
  · simp at h; subst h; exact ⟨_, [], Try.func81, c81⟩
  · simp at h
end Go.Proofs.Ytkimigoljleleaa
