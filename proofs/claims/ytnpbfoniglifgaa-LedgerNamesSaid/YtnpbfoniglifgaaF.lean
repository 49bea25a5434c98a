import Derived.Test.YtnpbfoniglifgaaHLFun
import Derived.Test.YtnpbfoniglifgaaProg
import Derived.KernelRfl
/- The functions, turned (written by program, each checked by the kernel). -/
namespace Go.Proofs.Ytnpbfoniglifgaa
open Go Go.HL
/-- stint/stintlaw14.LedgerNames -/
def h3 : HFn :=
  ⟨30, [(.tmp 0)],
    (.seq (.region [
      ⟨(some 0), (.op (.mv (.cst (.bool false)))), none⟩] [])
    (.seq (.region [
      ⟨(some 1), (.call (.cst (.func (.func 4) [] [])) []), none⟩,
      ⟨(some 2), (.op (.mv (.tmp 1))), none⟩,
      ⟨(some 3), (.op (.pick (.tmp 2) (.cst (.bool true)) (.cst (.bool false)))), none⟩,
      ⟨(some 4), (.op (.mv (.tmp 3))), none⟩,
      ⟨(some 5), (.op (.pick (.tmp 4) (.cst (.bool true)) (.cst (.bool false)))), none⟩,
      ⟨(some 6), (.op (.mv (.tmp 5))), none⟩,
      ⟨(some 7), (.op (.pick (.tmp 6) (.cst (.bool true)) (.cst (.bool false)))), none⟩,
      ⟨(some 8), (.op (.mv (.tmp 7))), none⟩,
      ⟨(some 9), (.op (.pick (.tmp 8) (.cst (.bool true)) (.cst (.bool false)))), none⟩,
      ⟨(some 10), (.op (.mv (.tmp 9))), none⟩,
      ⟨(some 11), (.op (.pick (.tmp 10) (.cst (.bool true)) (.cst (.bool false)))), none⟩,
      ⟨(some 12), (.op (.mv (.tmp 11))), none⟩,
      ⟨(some 13), (.op (.pick (.tmp 12) (.cst (.bool true)) (.cst (.bool false)))), none⟩,
      ⟨(some 14), (.op (.mv (.tmp 13))), none⟩,
      ⟨(some 15), (.op (.pick (.tmp 14) (.cst (.bool true)) (.cst (.bool false)))), none⟩,
      ⟨(some 16), (.op (.mv (.tmp 15))), none⟩,
      ⟨(some 17), (.op (.pick (.tmp 16) (.cst (.bool true)) (.cst (.bool false)))), none⟩,
      ⟨(some 18), (.op (.mv (.tmp 17))), none⟩,
      ⟨(some 19), (.op (.pick (.tmp 18) (.cst (.bool true)) (.cst (.bool false)))), none⟩,
      ⟨(some 20), (.op (.mv (.tmp 19))), none⟩,
      ⟨(some 21), (.op (.pick (.tmp 20) (.cst (.bool true)) (.cst (.bool false)))), none⟩,
      ⟨(some 22), (.op (.mv (.tmp 21))), none⟩,
      ⟨(some 23), (.op (.pick (.tmp 22) (.cst (.bool true)) (.cst (.bool false)))), none⟩,
      ⟨(some 24), (.op (.mv (.tmp 23))), none⟩,
      ⟨(some 25), (.op (.pick (.tmp 24) (.cst (.bool true)) (.cst (.bool false)))), none⟩,
      ⟨(some 26), (.op (.mv (.tmp 25))), none⟩,
      ⟨(some 27), (.op (.pick (.tmp 26) (.cst (.bool true)) (.cst (.bool false)))), none⟩,
      ⟨(some 28), (.op (.mv (.tmp 27))), none⟩,
      ⟨(some 29), (.op (.pick (.tmp 28) (.cst (.bool true)) (.cst (.bool false)))), none⟩,
      ⟨(some 0), (.op (.mv (.tmp 29))), none⟩] [])
    .ret))⟩
theorem c3 : cFn Try.prog [] Try.f3 = some h3 := by kernel_rfl
/-- stint/stintlaw14.shown -/
def h4 : HFn :=
  ⟨104, [(.tmp 0)],
    (.seq (.region [
      ⟨(some 0), (.op (.mv (.cst (.bool false)))), none⟩] [])
    (.seq (.region [
      ⟨(some 8), (.call (.cst (.func (.func 6) [] [])) []), none⟩,
      ⟨(some 9), (.call (.cst (.func (.func 5) [] [])) [(.tmp 8)]), none⟩,
      ⟨(some 7), (.op (.mv (.tmp 9))), none⟩,
      ⟨(some 10), (.op (.ext 0 (.tmp 7))), none⟩,
      ⟨(some 11), (.op (.ext 1 (.tmp 7))), none⟩,
      ⟨(some 12), (.op (.ext 2 (.tmp 7))), none⟩,
      ⟨(some 1), (.op (.mv (.tmp 10))), none⟩,
      ⟨(some 2), (.op (.mv (.tmp 11))), none⟩,
      ⟨(some 3), (.op (.mv (.tmp 12))), none⟩] [])
    (.seq (.seq (.region [
      ⟨(some 13), (.op (.mv (.tmp 1))), none⟩,
      ⟨(some 14), (.op (.bin .eql (some .ptr) (.tmp 13) (.cst .nilPtr))), none⟩,
      ⟨(some 15), (.op (.mv (.tmp 14))), none⟩,
      ⟨(some 16), (.op (.mv (.tmp 3))), (some (15, false))⟩,
      ⟨(some 17), (.op (.bin .neq (some .int) (.tmp 16) (.cst (.int .i64 0)))), (some (15, false))⟩,
      ⟨(some 18), (.op (.pick (.tmp 15) (.cst (.bool true)) (.tmp 17))), none⟩,
      ⟨(some 19), (.op (.mv (.tmp 18))), none⟩,
      ⟨(some 20), (.op (.mv (.tmp 2))), (some (19, false))⟩,
      ⟨(some 21), (.op (.len .slice (.tmp 20))), (some (19, false))⟩,
      ⟨(some 22), (.op (.bin .neq (some .int) (.tmp 21) (.cst (.int .i64 3)))), (some (19, false))⟩,
      ⟨(some 23), (.op (.pick (.tmp 19) (.cst (.bool true)) (.tmp 22))), none⟩,
      ⟨(some 24), (.op (.mv (.tmp 23))), none⟩,
      ⟨(some 25), (.op (.mv (.tmp 2))), (some (24, false))⟩,
      ⟨(some 26), (.op (.idxS 4 (.tmp 25) (.cst (.int .i64 0)))), (some (24, false))⟩,
      ⟨(some 27), (.op (.faddr 0 (.tmp 26))), (some (24, false))⟩,
      ⟨(some 28), (.op (.load none (.tmp 27))), (some (24, false))⟩,
      ⟨(some 29), (.op (.bin .neq (some .int) (.tmp 28) (.cst (.int .i64 1)))), (some (24, false))⟩,
      ⟨(some 30), (.op (.pick (.tmp 24) (.cst (.bool true)) (.tmp 29))), none⟩,
      ⟨(some 31), (.op (.mv (.tmp 30))), none⟩,
      ⟨(some 32), (.op (.mv (.tmp 2))), (some (31, false))⟩,
      ⟨(some 33), (.op (.idxS 4 (.tmp 32) (.cst (.int .i64 1)))), (some (31, false))⟩,
      ⟨(some 34), (.op (.faddr 0 (.tmp 33))), (some (31, false))⟩,
      ⟨(some 35), (.op (.load none (.tmp 34))), (some (31, false))⟩,
      ⟨(some 36), (.op (.bin .neq (some .int) (.tmp 35) (.cst (.int .i64 2)))), (some (31, false))⟩,
      ⟨(some 37), (.op (.pick (.tmp 31) (.cst (.bool true)) (.tmp 36))), none⟩,
      ⟨(some 38), (.op (.mv (.tmp 37))), none⟩,
      ⟨(some 39), (.op (.mv (.tmp 2))), (some (38, false))⟩,
      ⟨(some 40), (.op (.idxS 4 (.tmp 39) (.cst (.int .i64 1)))), (some (38, false))⟩,
      ⟨(some 41), (.op (.faddr 2 (.tmp 40))), (some (38, false))⟩,
      ⟨(some 42), (.op (.load none (.tmp 41))), (some (38, false))⟩,
      ⟨(some 43), (.op (.len .slice (.tmp 42))), (some (38, false))⟩,
      ⟨(some 44), (.op (.bin .neq (some .int) (.tmp 43) (.cst (.int .i64 25)))), (some (38, false))⟩,
      ⟨(some 45), (.op (.pick (.tmp 38) (.cst (.bool true)) (.tmp 44))), none⟩,
      ⟨(some 46), (.op (.mv (.tmp 45))), none⟩,
      ⟨(some 47), (.op (.mv (.tmp 2))), (some (46, false))⟩,
      ⟨(some 48), (.op (.idxS 4 (.tmp 47) (.cst (.int .i64 2)))), (some (46, false))⟩,
      ⟨(some 49), (.op (.faddr 0 (.tmp 48))), (some (46, false))⟩,
      ⟨(some 50), (.op (.load none (.tmp 49))), (some (46, false))⟩,
      ⟨(some 51), (.op (.bin .neq (some .int) (.tmp 50) (.cst (.int .i64 3)))), (some (46, false))⟩,
      ⟨(some 52), (.op (.pick (.tmp 46) (.cst (.bool true)) (.tmp 51))), none⟩] [])
    (.cond (.tmp 52)
      (.seq (.region [
        ⟨(some 0), (.op (.mv (.cst (.bool false)))), none⟩] [])
      .ret)
      .skip))
    (.seq (.region [
      ⟨(some 54), (.op (.mv (.tmp 1))), none⟩,
      ⟨(some 55), (.call (.cst (.func (.func 8) [] [])) []), none⟩,
      ⟨(some 56), (.call (.cst (.func (.func 7) [] [])) [(.tmp 54), (.tmp 55)]), none⟩,
      ⟨(some 53), (.op (.mv (.tmp 56))), none⟩,
      ⟨(some 57), (.op (.ext 0 (.tmp 53))), none⟩,
      ⟨(some 58), (.op (.ext 1 (.tmp 53))), none⟩,
      ⟨(some 59), (.op (.ext 2 (.tmp 53))), none⟩,
      ⟨(some 4), (.op (.mv (.tmp 57))), none⟩,
      ⟨(some 5), (.op (.mv (.tmp 58))), none⟩,
      ⟨(some 6), (.op (.mv (.tmp 59))), none⟩] [])
    (.seq (.region [
      ⟨(some 60), (.op (.mv (.tmp 6))), none⟩,
      ⟨(some 61), (.op (.bin .eql (some .int) (.tmp 60) (.cst (.int .i64 0)))), none⟩,
      ⟨(some 62), (.op (.mv (.tmp 61))), none⟩,
      ⟨(some 63), (.op (.mv (.tmp 4))), (some (62, true))⟩,
      ⟨(some 64), (.op (.bin .eql (some .int) (.tmp 63) (.cst (.int .i64 1)))), (some (62, true))⟩,
      ⟨(some 65), (.op (.pick (.tmp 62) (.tmp 64) (.cst (.bool false)))), none⟩,
      ⟨(some 66), (.op (.mv (.tmp 65))), none⟩,
      ⟨(some 67), (.op (.mv (.tmp 5))), (some (66, true))⟩,
      ⟨(some 68), (.op (.len .slice (.tmp 67))), (some (66, true))⟩,
      ⟨(some 69), (.op (.bin .eql (some .int) (.tmp 68) (.cst (.int .i64 2)))), (some (66, true))⟩,
      ⟨(some 70), (.op (.pick (.tmp 66) (.tmp 69) (.cst (.bool false)))), none⟩,
      ⟨(some 71), (.op (.mv (.tmp 70))), none⟩,
      ⟨(some 72), (.op (.mv (.tmp 5))), (some (71, true))⟩,
      ⟨(some 73), (.op (.idxS 4 (.tmp 72) (.cst (.int .i64 0)))), (some (71, true))⟩,
      ⟨(some 74), (.op (.faddr 2 (.tmp 73))), (some (71, true))⟩,
      ⟨(some 75), (.op (.load none (.tmp 74))), (some (71, true))⟩,
      ⟨(some 76), (.op (.len .slice (.tmp 75))), (some (71, true))⟩,
      ⟨(some 77), (.op (.bin .eql (some .int) (.tmp 76) (.cst (.int .i64 116)))), (some (71, true))⟩,
      ⟨(some 78), (.op (.pick (.tmp 71) (.tmp 77) (.cst (.bool false)))), none⟩,
      ⟨(some 79), (.op (.mv (.tmp 78))), none⟩,
      ⟨(some 80), (.op (.mv (.tmp 1))), (some (79, true))⟩,
      ⟨(some 81), (.call (.cst (.func (.func 9) [] [])) [(.tmp 80)]), (some (79, true))⟩,
      ⟨(some 82), (.op (.bin .eql (some .int) (.tmp 81) (.cst (.int .i64 2)))), (some (79, true))⟩,
      ⟨(some 83), (.op (.pick (.tmp 79) (.tmp 82) (.cst (.bool false)))), none⟩,
      ⟨(some 84), (.op (.mv (.tmp 83))), none⟩,
      ⟨(some 85), (.op (.mv (.tmp 1))), (some (84, true))⟩,
      ⟨(some 86), (.call (.cst (.func (.func 10) [] [])) [(.tmp 85)]), (some (84, true))⟩,
      ⟨(some 87), (.op (.bin .eql (some .int) (.tmp 86) (.cst (.int .i64 141)))), (some (84, true))⟩,
      ⟨(some 88), (.op (.pick (.tmp 84) (.tmp 87) (.cst (.bool false)))), none⟩,
      ⟨(some 89), (.op (.mv (.tmp 88))), none⟩,
      ⟨(some 90), (.op (.mv (.tmp 1))), (some (89, true))⟩,
      ⟨(some 91), (.call (.cst (.func (.func 11) [] [])) [(.tmp 90)]), (some (89, true))⟩,
      ⟨(some 92), (.op (.bin .eql (some .int) (.tmp 91) (.cst (.int .i64 164)))), (some (89, true))⟩,
      ⟨(some 93), (.op (.pick (.tmp 89) (.tmp 92) (.cst (.bool false)))), none⟩,
      ⟨(some 94), (.op (.mv (.tmp 93))), none⟩,
      ⟨(some 95), (.op (.mv (.tmp 1))), (some (94, true))⟩,
      ⟨(some 96), (.call (.cst (.func (.func 12) [] [])) [(.tmp 95)]), (some (94, true))⟩,
      ⟨(some 97), (.op (.bin .eql (some .int) (.tmp 96) (.cst (.int .i64 694)))), (some (94, true))⟩,
      ⟨(some 98), (.op (.pick (.tmp 94) (.tmp 97) (.cst (.bool false)))), none⟩,
      ⟨(some 99), (.op (.mv (.tmp 98))), none⟩,
      ⟨(some 100), (.op (.mv (.tmp 1))), (some (99, true))⟩,
      ⟨(some 101), (.call (.cst (.func (.func 13) [] [])) [(.tmp 100), (.cst (.int .i64 1))]), (some (99, true))⟩,
      ⟨(some 102), (.op (.bin .eql (some .int) (.tmp 101) (.cst (.int .i64 1)))), (some (99, true))⟩,
      ⟨(some 103), (.op (.pick (.tmp 99) (.tmp 102) (.cst (.bool false)))), none⟩,
      ⟨(some 0), (.op (.mv (.tmp 103))), none⟩] [])
    .ret)))))⟩
theorem c4 : cFn Try.prog [] Try.f4 = some h4 := by kernel_rfl
/-- stint/ledger.New -/
def h5 : HFn :=
  ⟨23, [(.tmp 2), (.tmp 3), (.tmp 4)],
    (.seq (.region [
      ⟨(some 1), (.op (.box (.tmp 0))), none⟩,
      ⟨(some 2), (.op (.mv (.cst .nilPtr))), none⟩,
      ⟨(some 3), (.op (.mv (.cst .nilSlice))), none⟩,
      ⟨(some 4), (.op (.mv (.cst (.int .i64 0)))), none⟩] [])
    (.seq (.seq (.region [
      ⟨(some 7), (.op (.load (some 3) (.tmp 1))), none⟩,
      ⟨(some 8), (.call (.cst (.func (.func 14) [] [])) [(.tmp 7)]), none⟩,
      ⟨(some 5), (.op (.mv (.tmp 8))), none⟩] [])
    (.seq (.region [
      ⟨(some 9), (.op (.mv (.tmp 5))), none⟩,
      ⟨(some 10), (.op (.bin .neq (some .int) (.tmp 9) (.cst (.int .i64 0)))), none⟩] [])
    (.cond (.tmp 10)
      (.seq (.region [
        ⟨(some 11), (.op (.mv (.tmp 5))), none⟩,
        ⟨(some 2), (.op (.mv (.cst .nilPtr))), none⟩,
        ⟨(some 3), (.op (.mv (.cst .nilSlice))), none⟩,
        ⟨(some 4), (.op (.mv (.tmp 11))), none⟩] [])
      .ret)
      .skip)))
    (.seq (.region [
      ⟨(some 12), (.op (.load (some 3) (.tmp 1))), none⟩,
      ⟨(some 13), (.op .mkMap), none⟩,
      ⟨(some 14), (.op (.build [(.int .i64 0), (.int .i64 0), (.int .i64 0), .nilMap, (.int .i64 0), .nilSlice, (.int .i64 0), (.int .i64 0), .nilSlice] [(0, 3, (.tmp 12)), (3, 1, (.tmp 13)), (4, 1, (.cst (.int .i64 1)))])), none⟩,
      ⟨(some 15), (.op (.box (.tmp 14))), none⟩,
      ⟨(some 6), (.op (.mv (.tmp 15))), none⟩] [])
    (.seq (.region [
      ⟨(some 16), (.op (.mv (.tmp 6))), none⟩,
      ⟨(some 17), (.call (.cst (.func (.func 15) [] [])) [(.tmp 16), (.cst (.int .i64 1))]), none⟩] [])
    (.seq (.region [
      ⟨(some 18), (.op (.mv (.tmp 6))), none⟩,
      ⟨(some 19), (.call (.cst (.func (.func 16) [] [])) [(.tmp 18)]), none⟩] [])
    (.seq (.region [
      ⟨(some 20), (.op (.mv (.tmp 6))), none⟩,
      ⟨(some 21), (.op (.mv (.tmp 6))), none⟩,
      ⟨(some 22), (.call (.cst (.func (.func 17) [] [])) [(.tmp 21)]), none⟩,
      ⟨(some 2), (.op (.mv (.tmp 20))), none⟩,
      ⟨(some 3), (.op (.mv (.tmp 22))), none⟩,
      ⟨(some 4), (.op (.mv (.cst (.int .i64 0)))), none⟩] [])
    .ret))))))⟩
theorem c5 : cFn Try.prog [] Try.f5 = some h5 := by kernel_rfl
/-- stint/stintlaw14.plain -/
def h6 : HFn :=
  ⟨2, [(.cell 0 (some 3))],
    (.seq (.region [
      ⟨(some 0), (.op (.box (.cst (.agg [(.int .i64 0), (.int .i64 0), (.int .i64 0)])))), none⟩] [])
    (.seq (.region [
      ⟨(some 1), (.op (.build [(.int .i64 0), (.int .i64 0), (.int .i64 0)] [(0, 1, (.cst (.int .i64 100))), (1, 1, (.cst (.int .i64 256))), (2, 1, (.cst (.int .i64 1024)))])), none⟩,
      ⟨none, (.op (.store 3 (.tmp 0) (.tmp 1))), none⟩] [])
    .ret))⟩
theorem c6 : cFn Try.prog [] Try.f6 = some h6 := by kernel_rfl
/-- (*stint/ledger.Ledger).Put -/
def h7 : HFn :=
  ⟨73, [(.tmp 4), (.tmp 5), (.tmp 6)],
    (.seq (.region [
      ⟨(some 3), (.op (.box (.tmp 1))), none⟩,
      ⟨(some 4), (.op (.mv (.cst (.int .i64 0)))), none⟩,
      ⟨(some 5), (.op (.mv (.cst .nilSlice))), none⟩,
      ⟨(some 6), (.op (.mv (.cst (.int .i64 0)))), none⟩] [])
    (.seq (.region [
      ⟨(some 8), (.op (.faddr 0 (.tmp 3))), none⟩,
      ⟨none, (.op (.store 1 (.tmp 8) (.cst (.int .i64 1)))), none⟩] [])
    (.seq (.seq (.region [
      ⟨(some 9), (.op (.load (some 15) (.tmp 3))), none⟩,
      ⟨(some 10), (.call (.cst (.func (.func 19) [] [])) [(.tmp 9)]), none⟩,
      ⟨(some 11), (.call (.cst (.func (.func 18) [] [])) [(.tmp 10)]), none⟩,
      ⟨(some 12), (.op (.bin .neq (some .int) (.tmp 11) (.cst (.int .i64 0)))), none⟩,
      ⟨(some 13), (.op (.mv (.tmp 12))), none⟩,
      ⟨(some 14), (.op (.faddr 5 (.tmp 3))), (some (13, false))⟩,
      ⟨(some 15), (.op (.load none (.tmp 14))), (some (13, false))⟩,
      ⟨(some 16), (.op (.bin .eql (some .int) (.tmp 15) (.cst (.int .i64 4)))), (some (13, false))⟩,
      ⟨(some 17), (.op (.pick (.tmp 13) (.cst (.bool true)) (.tmp 16))), none⟩] [])
    (.cond (.tmp 17)
      (.seq (.region [
        ⟨(some 4), (.op (.mv (.cst (.int .i64 0)))), none⟩,
        ⟨(some 5), (.op (.mv (.cst .nilSlice))), none⟩,
        ⟨(some 6), (.op (.mv (.cst (.int .i64 140)))), none⟩] [])
      .ret)
      .skip))
    (.seq (.seq (.region [
      ⟨(some 18), (.op (.mv (.tmp 0))), none⟩,
      ⟨(some 19), (.op (.nilc (.tmp 18))), none⟩,
      ⟨(some 20), (.op (.faddr 4 (.tmp 19))), none⟩,
      ⟨(some 21), (.op (.load none (.tmp 20))), none⟩,
      ⟨(some 22), (.op (.bin .gtr none (.tmp 21) (.cst (.int .i64 1099511627776)))), none⟩] [])
    (.cond (.tmp 22)
      (.seq (.region [
        ⟨(some 4), (.op (.mv (.cst (.int .i64 0)))), none⟩,
        ⟨(some 5), (.op (.mv (.cst .nilSlice))), none⟩,
        ⟨(some 6), (.op (.mv (.cst (.int .i64 141)))), none⟩] [])
      .ret)
      .skip))
    (.seq (.region [
      ⟨(some 23), (.op (.mv (.tmp 0))), none⟩,
      ⟨(some 24), (.op (.nilc (.tmp 23))), none⟩,
      ⟨(some 25), (.op (.faddr 4 (.tmp 24))), none⟩,
      ⟨(some 26), (.op (.load none (.tmp 25))), none⟩,
      ⟨(some 27), (.op (.faddr 0 (.tmp 3))), none⟩,
      ⟨none, (.op (.store 1 (.tmp 27) (.tmp 26))), none⟩] [])
    (.seq (.region [
      ⟨(some 28), (.op (.load (some 15) (.tmp 3))), none⟩,
      ⟨(some 29), (.call (.cst (.func (.func 19) [] [])) [(.tmp 28)]), none⟩,
      ⟨(some 30), (.call (.cst (.func (.func 20) [] [])) [(.tmp 29)]), none⟩,
      ⟨(some 7), (.op (.mv (.tmp 30))), none⟩] [])
    (.seq (.seq (.region [
      ⟨(some 31), (.op (.mv (.tmp 7))), none⟩,
      ⟨(some 32), (.op (.mv (.tmp 0))), none⟩,
      ⟨(some 33), (.call (.cst (.func (.func 21) [] [])) [(.tmp 32)]), none⟩,
      ⟨(some 34), (.op (.bin .add none (.tmp 31) (.tmp 33))), none⟩,
      ⟨(some 35), (.op (.bin .add none (.tmp 34) (.cst (.int .i64 42)))), none⟩,
      ⟨(some 36), (.op (.bin .add none (.tmp 35) (.cst (.int .i64 122)))), none⟩,
      ⟨(some 37), (.op (.mv (.tmp 0))), none⟩,
      ⟨(some 38), (.call (.cst (.func (.func 12) [] [])) [(.tmp 37)]), none⟩,
      ⟨(some 39), (.op (.bin .gtr none (.tmp 36) (.tmp 38))), none⟩] [])
    (.cond (.tmp 39)
      (.seq (.region [
        ⟨(some 4), (.op (.mv (.cst (.int .i64 0)))), none⟩,
        ⟨(some 5), (.op (.mv (.cst .nilSlice))), none⟩,
        ⟨(some 6), (.op (.mv (.cst (.int .i64 142)))), none⟩] [])
      .ret)
      .skip))
    (.seq (.region [
      ⟨(some 40), (.op (.faddr 14 (.tmp 3))), none⟩,
      ⟨(some 41), (.op (.load none (.tmp 40))), none⟩,
      ⟨(some 42), (.call (.cst (.func (.func 22) [] [])) [(.tmp 41)]), none⟩,
      ⟨(some 43), (.op (.faddr 14 (.tmp 3))), none⟩,
      ⟨none, (.op (.store 1 (.tmp 43) (.tmp 42))), none⟩] [])
    (.seq (.region [
      ⟨(some 44), (.op (.mv (.tmp 0))), none⟩,
      ⟨(some 45), (.op (.load (some 15) (.tmp 3))), none⟩,
      ⟨(some 46), (.call (.cst (.func (.func 19) [] [])) [(.tmp 45)]), none⟩,
      ⟨(some 47), (.call (.cst (.func (.func 23) [] [])) [(.tmp 44), (.tmp 46)]), none⟩] [])
    (.seq (.region [
      ⟨(some 48), (.op (.mv (.tmp 0))), none⟩,
      ⟨(some 49), (.op (.nilc (.tmp 48))), none⟩,
      ⟨(some 50), (.op (.faddr 4 (.tmp 49))), none⟩,
      ⟨(some 51), (.op (.load none (.tmp 50))), none⟩,
      ⟨(some 52), (.op (.bin .add none (.tmp 51) (.cst (.int .i64 1)))), none⟩,
      ⟨(some 53), (.op (.nilc (.tmp 48))), none⟩,
      ⟨(some 54), (.op (.faddr 4 (.tmp 53))), none⟩,
      ⟨none, (.op (.store 1 (.tmp 54) (.tmp 52))), none⟩] [])
    (.seq (.draw [
      ⟨(some 55), (.op (.mv (.tmp 0))), none⟩,
      ⟨(some 56), (.op (.nilc (.tmp 55))), none⟩,
      ⟨(some 57), (.op (.faddr 3 (.tmp 56))), none⟩,
      ⟨(some 58), (.op (.load none (.tmp 57))), none⟩,
      ⟨(some 59), (.op (.faddr 0 (.tmp 3))), none⟩,
      ⟨(some 60), (.op (.load none (.tmp 59))), none⟩,
      ⟨(some 61), (.op (.load (some 15) (.tmp 3))), none⟩,
      ⟨(some 62), (.op (.mv (.tmp 0))), none⟩,
      ⟨(some 63), (.call (.cst (.func (.func 24) [] [])) [(.tmp 62)]), none⟩,
      ⟨(some 64), (.op (.nilc (.tmp 63))), none⟩,
      ⟨(some 65), (.op (.faddr 0 (.tmp 64))), none⟩,
      ⟨(some 66), (.op (.load none (.tmp 65))), none⟩,
      ⟨(some 67), (.op (.mv (.tmp 7))), none⟩,
      ⟨(some 68), (.op (.build [(.int .i64 0), (.int .i64 0), (.int .i64 0), (.int .i64 0), (.int .i64 0), (.int .i64 0), (.int .i64 0), (.int .i64 0), (.int .i64 0), (.int .i64 0), (.int .i64 0), (.int .i64 0), (.int .i64 0), (.str []), .nilSlice, (.int .i64 0), (.int .i64 0)] [(0, 15, (.tmp 61)), (15, 1, (.tmp 66)), (16, 1, (.tmp 67))])), none⟩,
      ⟨none, (.op (.mapUpd .int (.tmp 58) (.tmp 60) (.tmp 68))), none⟩] [0, 1, 2, 3, 4, 5, 6, 7, 12, 8, 9, 10, 11, 13, 14] [[], [], [], [], [], [], [], [], [], [], [], [], [], [], [3, 5, 6, 11]] [])
    (.seq (.draw [
      ⟨(some 69), (.op (.faddr 0 (.tmp 3))), none⟩,
      ⟨(some 70), (.op (.load none (.tmp 69))), none⟩,
      ⟨(some 71), (.op (.mv (.tmp 0))), none⟩,
      ⟨(some 72), (.call (.cst (.func (.func 25) [] [])) [(.tmp 71)]), none⟩,
      ⟨(some 4), (.op (.mv (.tmp 70))), none⟩,
      ⟨(some 5), (.op (.mv (.tmp 72))), none⟩,
      ⟨(some 6), (.op (.mv (.cst (.int .i64 0)))), none⟩] [0, 1, 2, 3, 4, 5, 6] [[], [], [], [], [], [], []] [])
    .ret))))))))))))⟩
theorem c7 : cFn Try.prog [] Try.f7 = some h7 := by kernel_rfl
/-- stint/stintlaw14.job -/
def h8 : HFn :=
  ⟨3, [(.cell 0 (some 15))],
    (.seq (.region [
      ⟨(some 0), (.op (.box (.cst (.agg [(.int .i64 0), (.int .i64 0), (.int .i64 0), (.int .i64 0), (.int .i64 0), (.int .i64 0), (.int .i64 0), (.int .i64 0), (.int .i64 0), (.int .i64 0), (.int .i64 0), (.int .i64 0), (.int .i64 0), (.str []), .nilSlice])))), none⟩] [])
    (.seq (.region [
      ⟨(some 1), (.op (.bslice 1 1 [(.int .u8 0)] [(0, 1, (.cst (.int .u8 120)))])), none⟩,
      ⟨(some 2), (.op (.build [(.int .i64 0), (.int .i64 0), (.int .i64 0), (.int .i64 0), (.int .i64 0), (.int .i64 0), (.int .i64 0), (.int .i64 0), (.int .i64 0), (.int .i64 0), (.int .i64 0), (.int .i64 0), (.int .i64 0), (.str []), .nilSlice] [(1, 1, (.cst (.int .i64 1))), (3, 1, (.cst (.int .i64 9))), (5, 1, (.cst (.int .i64 1))), (13, 1, (.cst (.str [116]))), (14, 1, (.tmp 1))])), none⟩,
      ⟨none, (.op (.store 15 (.tmp 0) (.tmp 2))), none⟩] [])
    .ret))⟩
theorem c8 : cFn Try.prog [] Try.f8 = some h8 := by kernel_rfl
/-- (*stint/ledger.Ledger).Next -/
def h9 : HFn :=
  ⟨7, [(.tmp 2)],
    (.seq (.region [
      ⟨(some 2), (.op (.mv (.cst (.int .i64 0)))), none⟩] [])
    (.seq (.region [
      ⟨(some 3), (.op (.mv (.tmp 0))), none⟩,
      ⟨(some 4), (.op (.nilc (.tmp 3))), none⟩,
      ⟨(some 5), (.op (.faddr 4 (.tmp 4))), none⟩,
      ⟨(some 6), (.op (.load none (.tmp 5))), none⟩,
      ⟨(some 2), (.op (.mv (.tmp 6))), none⟩] [])
    .ret))⟩
theorem c9 : cFn Try.prog [] Try.f9 = some h9 := by kernel_rfl
/-- (*stint/ledger.Ledger).Used -/
def h10 : HFn :=
  ⟨21, [(.tmp 2)],
    (.seq (.region [
      ⟨(some 2), (.op (.mv (.cst (.int .i64 0)))), none⟩] [])
    (.seq (.region [
      ⟨(some 3), (.op (.mv (.cst (.int .i64 0)))), none⟩] [])
    (.seq (.seq (.region [
      ⟨(some 6), (.op (.mv (.tmp 0))), none⟩,
      ⟨(some 7), (.op (.nilc (.tmp 6))), none⟩,
      ⟨(some 8), (.op (.faddr 5 (.tmp 7))), none⟩,
      ⟨(some 9), (.op (.load none (.tmp 8))), none⟩,
      ⟨(some 10), (.op (.len .slice (.tmp 9))), none⟩,
      ⟨(some 11), (.op (.mv (.cst (.int .i64 0)))), none⟩] [])
    (.block 0
      (.loop
        (.seq (.region [
          ⟨(some 12), (.op (.bin .lss none (.tmp 11) (.tmp 10))), none⟩] [])
        (.seq (.cond (.tmp 12)
          .skip
          (.exit 0))
        (.seq (.block 1
          (.seq (.region [
            ⟨(some 13), (.op (.idxS 2 (.tmp 9) (.tmp 11))), none⟩,
            ⟨(some 14), (.op (.load (some 2) (.tmp 13))), none⟩,
            ⟨(some 5), (.op (.box (.cst (.agg [(.int .i64 0), (.int .i64 0)])))), none⟩,
            ⟨none, (.op (.store 2 (.tmp 5) (.tmp 14))), none⟩] [])
          (.region [
            ⟨(some 15), (.op (.mv (.tmp 3))), none⟩,
            ⟨(some 16), (.op (.faddr 1 (.tmp 5))), none⟩,
            ⟨(some 17), (.op (.load none (.tmp 16))), none⟩,
            ⟨(some 18), (.op (.bin .add none (.tmp 15) (.tmp 17))), none⟩,
            ⟨(some 3), (.op (.mv (.tmp 18))), none⟩] [])))
        (.region [
          ⟨(some 19), (.op (.bin .add none (.tmp 11) (.cst (.int .i64 1)))), none⟩,
          ⟨(some 11), (.op (.mv (.tmp 19))), none⟩] [])))))))
    (.seq (.region [
      ⟨(some 20), (.op (.mv (.tmp 3))), none⟩,
      ⟨(some 2), (.op (.mv (.tmp 20))), none⟩] [])
    .ret))))⟩
theorem c10 : cFn Try.prog [] Try.f10 = some h10 := by kernel_rfl
/-- (*stint/ledger.Ledger).Held -/
def h11 : HFn :=
  ⟨20, [(.tmp 2)],
    (.seq (.region [
      ⟨(some 2), (.op (.mv (.cst (.int .i64 0)))), none⟩] [])
    (.seq (.region [
      ⟨(some 3), (.op (.mv (.cst (.int .i64 0)))), none⟩] [])
    (.seq (.seq (.region [
      ⟨(some 6), (.op (.mv (.tmp 0))), none⟩,
      ⟨(some 7), (.op (.nilc (.tmp 6))), none⟩,
      ⟨(some 8), (.op (.faddr 3 (.tmp 7))), none⟩,
      ⟨(some 9), (.op (.load none (.tmp 8))), none⟩,
      ⟨(some 10), (.op (.rangeMap (.tmp 9))), none⟩] [])
    (.block 0
      (.loop
        (.seq (.region [
          ⟨(some 11), (.next (.tmp 10)), none⟩,
          ⟨(some 12), (.op (.ext 0 (.tmp 11))), none⟩] [])
        (.seq (.cond (.tmp 12)
          .skip
          (.exit 0))
        (.block 1
          (.seq (.region [
            ⟨(some 13), (.op (.entry (.tmp 10))), none⟩,
            ⟨(some 14), (.op (.ext 1 (.tmp 13))), none⟩,
            ⟨(some 5), (.op (.box (.cst (.agg [(.int .i64 0), (.int .i64 0), (.int .i64 0), (.int .i64 0), (.int .i64 0), (.int .i64 0), (.int .i64 0), (.int .i64 0), (.int .i64 0), (.int .i64 0), (.int .i64 0), (.int .i64 0), (.int .i64 0), (.str []), .nilSlice, (.int .i64 0), (.int .i64 0)])))), none⟩,
            ⟨none, (.op (.store 17 (.tmp 5) (.tmp 14))), none⟩] [])
          (.region [
            ⟨(some 15), (.op (.mv (.tmp 3))), none⟩,
            ⟨(some 16), (.op (.load (some 17) (.tmp 5))), none⟩,
            ⟨(some 17), (.call (.cst (.func (.func 26) [] [])) [(.tmp 16)]), none⟩,
            ⟨(some 18), (.op (.bin .add none (.tmp 15) (.tmp 17))), none⟩,
            ⟨(some 3), (.op (.mv (.tmp 18))), none⟩] []))))))))
    (.seq (.region [
      ⟨(some 19), (.op (.mv (.tmp 3))), none⟩,
      ⟨(some 2), (.op (.mv (.tmp 19))), none⟩] [])
    .ret))))⟩
theorem c11 : cFn Try.prog [] Try.f11 = some h11 := by kernel_rfl
/-- (*stint/ledger.Ledger).Room -/
def h12 : HFn :=
  ⟨15, [(.tmp 2)],
    (.seq (.region [
      ⟨(some 2), (.op (.mv (.cst (.int .i64 0)))), none⟩] [])
    (.seq (.draw [
      ⟨(some 3), (.op (.mv (.tmp 0))), none⟩,
      ⟨(some 4), (.op (.nilc (.tmp 3))), none⟩,
      ⟨(some 5), (.op (.faddr 0 (.tmp 4))), none⟩,
      ⟨(some 6), (.op (.faddr 2 (.tmp 5))), none⟩,
      ⟨(some 7), (.op (.load none (.tmp 6))), none⟩,
      ⟨(some 8), (.op (.bin .sub none (.tmp 7) (.cst (.int .i64 25)))), none⟩,
      ⟨(some 9), (.op (.mv (.tmp 0))), none⟩,
      ⟨(some 10), (.call (.cst (.func (.func 10) [] [])) [(.tmp 9)]), none⟩,
      ⟨(some 11), (.op (.bin .sub none (.tmp 8) (.tmp 10))), none⟩,
      ⟨(some 12), (.op (.mv (.tmp 0))), none⟩,
      ⟨(some 13), (.call (.cst (.func (.func 11) [] [])) [(.tmp 12)]), none⟩,
      ⟨(some 14), (.op (.bin .sub none (.tmp 11) (.tmp 13))), none⟩,
      ⟨(some 2), (.op (.mv (.tmp 14))), none⟩] [0, 1, 2, 3, 4, 5, 6, 9, 7, 8, 10, 11, 12] [[], [], [], [], [], [], [], [], [], [], [], [], []] [])
    .ret))⟩
theorem c12 : cFn Try.prog [] Try.f12 = some h12 := by kernel_rfl
/-- (*stint/ledger.Ledger).File -/
def h13 : HFn :=
  ⟨12, [(.tmp 4)],
    (.seq (.region [
      ⟨(some 4), (.op (.mv (.cst (.int .i64 0)))), none⟩] [])
    (.seq (.region [
      ⟨(some 5), (.op (.mv (.tmp 0))), none⟩,
      ⟨(some 6), (.op (.nilc (.tmp 5))), none⟩,
      ⟨(some 7), (.op (.faddr 3 (.tmp 6))), none⟩,
      ⟨(some 8), (.op (.load none (.tmp 7))), none⟩,
      ⟨(some 9), (.op (.mv (.tmp 1))), none⟩,
      ⟨(some 10), (.op (.lookup .int (.agg [(.int .i64 0), (.int .i64 0), (.int .i64 0), (.int .i64 0), (.int .i64 0), (.int .i64 0), (.int .i64 0), (.int .i64 0), (.int .i64 0), (.int .i64 0), (.int .i64 0), (.int .i64 0), (.int .i64 0), (.str []), .nilSlice, (.int .i64 0), (.int .i64 0)]) false (.tmp 8) (.tmp 9))), none⟩,
      ⟨(some 11), (.op (.field none 15 (.tmp 10))), none⟩,
      ⟨(some 4), (.op (.mv (.tmp 11))), none⟩] [])
    .ret))⟩
theorem c13 : cFn Try.prog [] Try.f13 = some h13 := by kernel_rfl
/-- stint/record.CheckConfig -/
def h14 : HFn :=
  ⟨27, [(.tmp 2)],
    (.seq (.region [
      ⟨(some 1), (.op (.box (.tmp 0))), none⟩,
      ⟨(some 2), (.op (.mv (.cst (.int .i64 0)))), none⟩] [])
    (.seq (.region [
      ⟨(some 4), (.op (.faddr 0 (.tmp 1))), none⟩,
      ⟨(some 5), (.op (.load none (.tmp 4))), none⟩,
      ⟨(some 6), (.call (.cst (.func (.func 27) [] [])) [(.tmp 5), (.cst (.int .i64 1)), (.cst (.int .i64 65535))]), none⟩,
      ⟨(some 7), (.op (.mv (.tmp 6))), none⟩,
      ⟨(some 8), (.op (.faddr 1 (.tmp 1))), (some (7, true))⟩,
      ⟨(some 9), (.op (.load none (.tmp 8))), (some (7, true))⟩,
      ⟨(some 10), (.call (.cst (.func (.func 27) [] [])) [(.tmp 9), (.cst (.int .i64 128)), (.cst (.int .i64 1048576))]), (some (7, true))⟩,
      ⟨(some 11), (.op (.pick (.tmp 7) (.tmp 10) (.cst (.bool false)))), none⟩,
      ⟨(some 12), (.op (.mv (.tmp 11))), none⟩,
      ⟨(some 13), (.op (.faddr 2 (.tmp 1))), (some (12, true))⟩,
      ⟨(some 14), (.op (.load none (.tmp 13))), (some (12, true))⟩,
      ⟨(some 15), (.call (.cst (.func (.func 27) [] [])) [(.tmp 14), (.cst (.int .i64 1024)), (.cst (.int .i64 67108864))]), (some (12, true))⟩,
      ⟨(some 16), (.op (.pick (.tmp 12) (.tmp 15) (.cst (.bool false)))), none⟩,
      ⟨(some 17), (.op (.mv (.tmp 16))), none⟩,
      ⟨(some 18), (.op (.faddr 1 (.tmp 1))), (some (17, true))⟩,
      ⟨(some 19), (.op (.load none (.tmp 18))), (some (17, true))⟩,
      ⟨(some 20), (.op (.bin .mul none (.cst (.int .i64 4)) (.tmp 19))), (some (17, true))⟩,
      ⟨(some 21), (.op (.faddr 2 (.tmp 1))), (some (17, true))⟩,
      ⟨(some 22), (.op (.load none (.tmp 21))), (some (17, true))⟩,
      ⟨(some 23), (.op (.bin .leq none (.tmp 20) (.tmp 22))), (some (17, true))⟩,
      ⟨(some 24), (.op (.pick (.tmp 17) (.tmp 23) (.cst (.bool false)))), none⟩,
      ⟨(some 3), (.op (.mv (.tmp 24))), none⟩] [])
    (.seq (.seq (.region [
      ⟨(some 25), (.op (.mv (.tmp 3))), none⟩,
      ⟨(some 26), (.op (.un .not (.tmp 25))), none⟩] [])
    (.cond (.tmp 26)
      (.seq (.region [
        ⟨(some 2), (.op (.mv (.cst (.int .i64 103)))), none⟩] [])
      .ret)
      .skip))
    (.seq (.region [
      ⟨(some 2), (.op (.mv (.cst (.int .i64 0)))), none⟩] [])
    .ret))))⟩
theorem c14 : cFn Try.prog [] Try.f14 = some h14 := by kernel_rfl
/-- (*stint/ledger.Ledger).begin -/
def h15 : HFn :=
  ⟨28, [],
    (.seq (.region [
      ⟨(some 4), (.op (.mv (.tmp 0))), none⟩,
      ⟨(some 5), (.op (.mv (.tmp 0))), none⟩,
      ⟨(some 6), (.op (.nilc (.tmp 5))), none⟩,
      ⟨(some 7), (.op (.faddr 8 (.tmp 6))), none⟩,
      ⟨(some 8), (.op (.load none (.tmp 7))), none⟩,
      ⟨(some 9), (.op (.mv (.tmp 1))), none⟩,
      ⟨(some 10), (.op (.build [(.int .i64 0), (.int .i64 0), .nilSlice, (.int .i64 0)] [(0, 1, (.cst (.int .i64 1))), (1, 1, (.tmp 9))])), none⟩,
      ⟨(some 11), (.op (.bslice 4 1 [(.int .i64 0), (.int .i64 0), .nilSlice, (.int .i64 0)] [(0, 4, (.tmp 10))])), none⟩,
      ⟨(some 12), (.op (.append 4 48 (.tmp 8) (.tmp 11))), none⟩,
      ⟨(some 13), (.op (.nilc (.tmp 4))), none⟩,
      ⟨(some 14), (.op (.faddr 8 (.tmp 13))), none⟩,
      ⟨none, (.op (.store 1 (.tmp 14) (.tmp 12))), none⟩] [])
    (.seq (.region [
      ⟨(some 15), (.op (.mv (.tmp 0))), none⟩,
      ⟨(some 16), (.op (.mv (.tmp 0))), none⟩,
      ⟨(some 17), (.op (.nilc (.tmp 16))), none⟩,
      ⟨(some 18), (.op (.faddr 5 (.tmp 17))), none⟩,
      ⟨(some 19), (.op (.load none (.tmp 18))), none⟩,
      ⟨(some 20), (.op (.mv (.tmp 1))), none⟩,
      ⟨(some 21), (.op (.build [(.int .i64 0), (.int .i64 0)] [(0, 1, (.tmp 20))])), none⟩,
      ⟨(some 22), (.op (.bslice 2 1 [(.int .i64 0), (.int .i64 0)] [(0, 2, (.tmp 21))])), none⟩,
      ⟨(some 23), (.op (.append 2 16 (.tmp 19) (.tmp 22))), none⟩,
      ⟨(some 24), (.op (.nilc (.tmp 15))), none⟩,
      ⟨(some 25), (.op (.faddr 5 (.tmp 24))), none⟩,
      ⟨none, (.op (.store 1 (.tmp 25) (.tmp 23))), none⟩] [])
    (.region [
      ⟨(some 26), (.op (.mv (.tmp 0))), none⟩,
      ⟨(some 27), (.call (.cst (.func (.func 28) [] [])) [(.tmp 26)]), none⟩] [])))⟩
theorem c15 : cFn Try.prog [] Try.f15 = some h15 := by kernel_rfl
/-- (*stint/ledger.Ledger).sync -/
def h16 : HFn :=
  ⟨17, [],
    (.draw [
      ⟨(some 2), (.op (.mv (.tmp 0))), none⟩,
      ⟨(some 3), (.op (.mv (.tmp 0))), none⟩,
      ⟨(some 4), (.op (.nilc (.tmp 3))), none⟩,
      ⟨(some 5), (.op (.faddr 8 (.tmp 4))), none⟩,
      ⟨(some 6), (.op (.load none (.tmp 5))), none⟩,
      ⟨(some 7), (.op (.mv (.tmp 0))), none⟩,
      ⟨(some 8), (.call (.cst (.func (.func 24) [] [])) [(.tmp 7)]), none⟩,
      ⟨(some 9), (.op (.nilc (.tmp 8))), none⟩,
      ⟨(some 10), (.op (.faddr 0 (.tmp 9))), none⟩,
      ⟨(some 11), (.op (.load none (.tmp 10))), none⟩,
      ⟨(some 12), (.op (.build [(.int .i64 0), (.int .i64 0), .nilSlice, (.int .i64 0)] [(0, 1, (.cst (.int .i64 3))), (1, 1, (.tmp 11))])), none⟩,
      ⟨(some 13), (.op (.bslice 4 1 [(.int .i64 0), (.int .i64 0), .nilSlice, (.int .i64 0)] [(0, 4, (.tmp 12))])), none⟩,
      ⟨(some 14), (.op (.append 4 48 (.tmp 6) (.tmp 13))), none⟩,
      ⟨(some 15), (.op (.nilc (.tmp 2))), none⟩,
      ⟨(some 16), (.op (.faddr 8 (.tmp 15))), none⟩,
      ⟨none, (.op (.store 1 (.tmp 16) (.tmp 14))), none⟩] [0, 1, 2, 3, 4, 5, 6, 7, 8, 9, 10, 11, 12, 13, 14, 15] [[], [], [], [], [], [], [], [], [], [], [], [9], [4, 9], [], [], [4, 9]] [])⟩
theorem c16 : cFn Try.prog [] Try.f16 = some h16 := by kernel_rfl
/-- (*stint/ledger.Ledger).told -/
def h17 : HFn :=
  ⟨12, [(.tmp 2)],
    (.seq (.region [
      ⟨(some 2), (.op (.mv (.cst .nilSlice))), none⟩] [])
    (.seq (.region [
      ⟨(some 4), (.op (.mv (.tmp 0))), none⟩,
      ⟨(some 5), (.op (.nilc (.tmp 4))), none⟩,
      ⟨(some 6), (.op (.faddr 8 (.tmp 5))), none⟩,
      ⟨(some 7), (.op (.load none (.tmp 6))), none⟩,
      ⟨(some 3), (.op (.mv (.tmp 7))), none⟩] [])
    (.seq (.region [
      ⟨(some 8), (.op (.mv (.tmp 0))), none⟩,
      ⟨(some 9), (.op (.nilc (.tmp 8))), none⟩,
      ⟨(some 10), (.op (.faddr 8 (.tmp 9))), none⟩,
      ⟨none, (.op (.store 1 (.tmp 10) (.cst .nilSlice))), none⟩] [])
    (.seq (.region [
      ⟨(some 11), (.op (.mv (.tmp 3))), none⟩,
      ⟨(some 2), (.op (.mv (.tmp 11))), none⟩] [])
    .ret))))⟩
theorem c17 : cFn Try.prog [] Try.f17 = some h17 := by kernel_rfl
/-- stint/record.Check -/
def h18 : HFn :=
  ⟨54, [(.tmp 2)],
    (.seq (.region [
      ⟨(some 1), (.op (.box (.tmp 0))), none⟩,
      ⟨(some 2), (.op (.mv (.cst (.int .i64 0)))), none⟩] [])
    (.seq (.region [
      ⟨(some 6), (.op (.faddr 0 (.tmp 1))), none⟩,
      ⟨(some 7), (.op (.load none (.tmp 6))), none⟩,
      ⟨(some 8), (.call (.cst (.func (.func 29) [] [])) [(.tmp 7)]), none⟩,
      ⟨(some 3), (.op (.mv (.tmp 8))), none⟩] [])
    (.seq (.seq (.region [
      ⟨(some 9), (.op (.mv (.tmp 3))), none⟩,
      ⟨(some 10), (.op (.bin .eql (some .slice) (.tmp 9) (.cst .nilSlice))), none⟩] [])
    (.cond (.tmp 10)
      (.seq (.region [
        ⟨(some 2), (.op (.mv (.cst (.int .i64 100)))), none⟩] [])
      .ret)
      .skip))
    (.seq (.region [
      ⟨(some 11), (.op (.load (some 19) (.tmp 1))), none⟩,
      ⟨(some 12), (.call (.cst (.func (.func 30) [] [])) [(.tmp 11)]), none⟩,
      ⟨(some 4), (.op (.box (.cst (.agg [(.int .i64 0), (.int .i64 0), (.int .i64 0), (.int .i64 0), (.int .i64 0), (.int .i64 0), (.int .i64 0), (.int .i64 0), (.int .i64 0), (.int .i64 0), (.int .i64 0), (.int .i64 0), (.int .i64 0), (.int .i64 0), (.int .i64 0), (.int .i64 0)])))), none⟩,
      ⟨none, (.op (.store 16 (.tmp 4) (.tmp 12))), none⟩] [])
    (.seq (.region [
      ⟨(some 13), (.op (.faddr 4 (.tmp 1))), none⟩,
      ⟨(some 14), (.op (.faddr 13 (.tmp 13))), none⟩,
      ⟨(some 15), (.op (.load none (.tmp 14))), none⟩,
      ⟨(some 16), (.op (.bin .eql (some .str) (.tmp 15) (.cst (.str [])))), none⟩,
      ⟨(some 17), (.op (.mv (.tmp 16))), none⟩,
      ⟨(some 18), (.op (.faddr 4 (.tmp 1))), (some (17, true))⟩,
      ⟨(some 19), (.op (.faddr 14 (.tmp 18))), (some (17, true))⟩,
      ⟨(some 20), (.op (.load none (.tmp 19))), (some (17, true))⟩,
      ⟨(some 21), (.op (.len .slice (.tmp 20))), (some (17, true))⟩,
      ⟨(some 22), (.op (.bin .eql (some .int) (.tmp 21) (.cst (.int .i64 0)))), (some (17, true))⟩,
      ⟨(some 23), (.op (.pick (.tmp 17) (.tmp 22) (.cst (.bool false)))), none⟩,
      ⟨(some 5), (.op (.mv (.tmp 23))), none⟩] [])
    (.seq (.seq (.region [
      ⟨(some 24), (.op (.faddr 0 (.tmp 1))), none⟩,
      ⟨(some 25), (.op (.load none (.tmp 24))), none⟩,
      ⟨(some 26), (.op (.bin .eql (some .int) (.tmp 25) (.cst (.int .i64 2)))), none⟩] [])
    (.cond (.tmp 26)
      (.region [
        ⟨(some 27), (.op (.faddr 4 (.tmp 1))), none⟩,
        ⟨(some 28), (.op (.faddr 13 (.tmp 27))), none⟩,
        ⟨(some 29), (.op (.load none (.tmp 28))), none⟩,
        ⟨(some 30), (.call (.cst (.func (.func 31) [] [])) [(.tmp 29)]), none⟩,
        ⟨(some 31), (.op (.mv (.tmp 30))), none⟩,
        ⟨(some 32), (.op (.faddr 4 (.tmp 1))), (some (31, true))⟩,
        ⟨(some 33), (.op (.faddr 14 (.tmp 32))), (some (31, true))⟩,
        ⟨(some 34), (.op (.load none (.tmp 33))), (some (31, true))⟩,
        ⟨(some 35), (.op (.len .slice (.tmp 34))), (some (31, true))⟩,
        ⟨(some 36), (.op (.bin .leq none (.tmp 35) (.cst (.int .i64 65535)))), (some (31, true))⟩,
        ⟨(some 37), (.op (.pick (.tmp 31) (.tmp 36) (.cst (.bool false)))), none⟩,
        ⟨(some 5), (.op (.mv (.tmp 37))), none⟩] [])
      .skip))
    (.seq (.seq (.draw [
      ⟨(some 38), (.op (.load (some 16) (.tmp 4))), none⟩,
      ⟨(some 39), (.op (.load (some 16) (.tmp 4))), none⟩,
      ⟨(some 40), (.op (.mv (.tmp 3))), none⟩,
      ⟨(some 41), (.call (.cst (.func (.func 32) [] [])) [(.tmp 39), (.tmp 40)]), none⟩,
      ⟨(some 42), (.op (.bin .neq (some (.struct [(0, none, .int), (1, none, .int), (2, none, .int), (3, none, .int), (4, none, .int), (5, none, .int), (6, none, .int), (7, none, .int), (8, none, .int), (9, none, .int), (10, none, .int), (11, none, .int), (12, none, .int), (13, none, .int), (14, none, .int), (15, none, .int)])) (.tmp 38) (.tmp 41))), none⟩,
      ⟨(some 43), (.op (.mv (.tmp 42))), none⟩,
      ⟨(some 44), (.op (.load (some 16) (.tmp 4))), (some (43, false))⟩,
      ⟨(some 45), (.op (.faddr 0 (.tmp 1))), (some (43, false))⟩,
      ⟨(some 46), (.op (.load none (.tmp 45))), (some (43, false))⟩,
      ⟨(some 47), (.call (.cst (.func (.func 33) [] [])) [(.tmp 44), (.tmp 46)]), (some (43, false))⟩,
      ⟨(some 48), (.op (.un .not (.tmp 47))), (some (43, false))⟩,
      ⟨(some 49), (.op (.pick (.tmp 43) (.cst (.bool true)) (.tmp 48))), none⟩,
      ⟨(some 50), (.op (.mv (.tmp 49))), none⟩,
      ⟨(some 51), (.op (.mv (.tmp 5))), (some (50, false))⟩,
      ⟨(some 52), (.op (.un .not (.tmp 51))), (some (50, false))⟩,
      ⟨(some 53), (.op (.pick (.tmp 50) (.cst (.bool true)) (.tmp 52))), none⟩] [0, 1, 2, 3, 4, 5, 6, 7, 8, 9, 10, 11, 12, 13, 14, 15] [[], [], [], [1], [], [], [], [], [], [6, 0, 1, 8], [], [], [], [], [], []] [])
    (.cond (.tmp 53)
      (.seq (.region [
        ⟨(some 2), (.op (.mv (.cst (.int .i64 101)))), none⟩] [])
      .ret)
      .skip))
    (.seq (.region [
      ⟨(some 2), (.op (.mv (.cst (.int .i64 0)))), none⟩] [])
    .ret))))))))⟩
theorem c18 : cFn Try.prog [] Try.f18 = some h18 := by kernel_rfl
/-- stint/ledger.whole -/
def h19 : HFn :=
  ⟨5, [(.cell 2 (some 19))],
    (.seq (.region [
      ⟨(some 1), (.op (.box (.tmp 0))), none⟩,
      ⟨(some 2), (.op (.box (.cst (.agg [(.int .i64 0), (.int .i64 0), (.int .i64 0), (.int .i64 0), (.int .i64 0), (.int .i64 0), (.int .i64 0), (.int .i64 0), (.int .i64 0), (.int .i64 0), (.int .i64 0), (.int .i64 0), (.int .i64 0), (.int .i64 0), (.int .i64 0), (.int .i64 0), (.int .i64 0), (.str []), .nilSlice])))), none⟩] [])
    (.seq (.region [
      ⟨(some 3), (.op (.load (some 15) (.tmp 1))), none⟩,
      ⟨(some 4), (.op (.build [(.int .i64 0), (.int .i64 0), (.int .i64 0), (.int .i64 0), (.int .i64 0), (.int .i64 0), (.int .i64 0), (.int .i64 0), (.int .i64 0), (.int .i64 0), (.int .i64 0), (.int .i64 0), (.int .i64 0), (.int .i64 0), (.int .i64 0), (.int .i64 0), (.int .i64 0), (.str []), .nilSlice] [(0, 1, (.cst (.int .i64 2))), (4, 15, (.tmp 3))])), none⟩,
      ⟨none, (.op (.store 19 (.tmp 2) (.tmp 4))), none⟩] [])
    .ret))⟩
theorem c19 : cFn Try.prog [] Try.f19 = some h19 := by kernel_rfl
/-- stint/record.Size -/
def h20 : HFn :=
  ⟨29, [(.tmp 2)],
    (.seq (.region [
      ⟨(some 1), (.op (.box (.tmp 0))), none⟩,
      ⟨(some 2), (.op (.mv (.cst (.int .i64 0)))), none⟩] [])
    (.seq (.seq (.region [
      ⟨(some 4), (.op (.load (some 19) (.tmp 1))), none⟩,
      ⟨(some 5), (.call (.cst (.func (.func 18) [] [])) [(.tmp 4)]), none⟩,
      ⟨(some 6), (.op (.bin .neq (some .int) (.tmp 5) (.cst (.int .i64 0)))), none⟩] [])
    (.cond (.tmp 6)
      (.seq (.region [
        ⟨(some 2), (.op (.mv (.cst (.int .i64 0)))), none⟩] [])
      .ret)
      .skip))
    (.seq (.region [
      ⟨(some 7), (.op (.faddr 0 (.tmp 1))), none⟩,
      ⟨(some 8), (.op (.load none (.tmp 7))), none⟩,
      ⟨(some 9), (.call (.cst (.func (.func 29) [] [])) [(.tmp 8)]), none⟩,
      ⟨(some 10), (.op (.len .slice (.tmp 9))), none⟩,
      ⟨(some 11), (.op (.bin .mul none (.cst (.int .i64 8)) (.tmp 10))), none⟩,
      ⟨(some 12), (.op (.bin .add none (.cst (.int .i64 9)) (.tmp 11))), none⟩,
      ⟨(some 3), (.op (.mv (.tmp 12))), none⟩] [])
    (.seq (.seq (.region [
      ⟨(some 13), (.op (.faddr 0 (.tmp 1))), none⟩,
      ⟨(some 14), (.op (.load none (.tmp 13))), none⟩,
      ⟨(some 15), (.op (.bin .eql (some .int) (.tmp 14) (.cst (.int .i64 2)))), none⟩] [])
    (.cond (.tmp 15)
      (.region [
        ⟨(some 16), (.op (.mv (.tmp 3))), none⟩,
        ⟨(some 17), (.op (.faddr 4 (.tmp 1))), none⟩,
        ⟨(some 18), (.op (.faddr 13 (.tmp 17))), none⟩,
        ⟨(some 19), (.op (.load none (.tmp 18))), none⟩,
        ⟨(some 20), (.op (.len .str (.tmp 19))), none⟩,
        ⟨(some 21), (.op (.bin .add none (.cst (.int .i64 1)) (.tmp 20))), none⟩,
        ⟨(some 22), (.op (.faddr 4 (.tmp 1))), none⟩,
        ⟨(some 23), (.op (.faddr 14 (.tmp 22))), none⟩,
        ⟨(some 24), (.op (.load none (.tmp 23))), none⟩,
        ⟨(some 25), (.op (.len .slice (.tmp 24))), none⟩,
        ⟨(some 26), (.op (.bin .add none (.tmp 21) (.tmp 25))), none⟩,
        ⟨(some 27), (.op (.bin .add none (.tmp 16) (.tmp 26))), none⟩,
        ⟨(some 3), (.op (.mv (.tmp 27))), none⟩] [])
      .skip))
    (.seq (.region [
      ⟨(some 28), (.op (.mv (.tmp 3))), none⟩,
      ⟨(some 2), (.op (.mv (.tmp 28))), none⟩] [])
    .ret)))))⟩
theorem c20 : cFn Try.prog [] Try.f20 = some h20 := by kernel_rfl
/-- (*stint/ledger.Ledger).extra -/
def h21 : HFn :=
  ⟨23, [(.tmp 2)],
    (.seq (.region [
      ⟨(some 2), (.op (.mv (.cst (.int .i64 0)))), none⟩] [])
    (.seq (.seq (.region [
      ⟨(some 4), (.op (.mv (.tmp 0))), none⟩,
      ⟨(some 5), (.call (.cst (.func (.func 24) [] [])) [(.tmp 4)]), none⟩,
      ⟨(some 3), (.op (.mv (.tmp 5))), none⟩] [])
    (.seq (.draw [
      ⟨(some 6), (.op (.mv (.tmp 3))), none⟩,
      ⟨(some 7), (.op (.nilc (.tmp 6))), none⟩,
      ⟨(some 8), (.op (.faddr 1 (.tmp 7))), none⟩,
      ⟨(some 9), (.op (.load none (.tmp 8))), none⟩,
      ⟨(some 10), (.op (.mv (.tmp 0))), none⟩,
      ⟨(some 11), (.op (.nilc (.tmp 10))), none⟩,
      ⟨(some 12), (.op (.faddr 0 (.tmp 11))), none⟩,
      ⟨(some 13), (.op (.faddr 1 (.tmp 12))), none⟩,
      ⟨(some 14), (.op (.load none (.tmp 13))), none⟩,
      ⟨(some 15), (.op (.bin .geq none (.tmp 9) (.tmp 14))), none⟩,
      ⟨(some 16), (.op (.mv (.tmp 15))), none⟩,
      ⟨(some 17), (.op (.mv (.tmp 3))), (some (16, true))⟩,
      ⟨(some 18), (.op (.nilc (.tmp 17))), (some (16, true))⟩,
      ⟨(some 19), (.op (.faddr 0 (.tmp 18))), (some (16, true))⟩,
      ⟨(some 20), (.op (.load none (.tmp 19))), (some (16, true))⟩,
      ⟨(some 21), (.op (.bin .neq (some .int) (.tmp 20) (.cst (.int .i64 1099511627776)))), (some (16, true))⟩,
      ⟨(some 22), (.op (.pick (.tmp 16) (.tmp 21) (.cst (.bool false)))), none⟩] [0, 1, 2, 3, 4, 5, 6, 7, 8, 9, 10, 11, 12, 13, 14, 15, 16] [[], [], [], [], [], [], [], [], [], [], [], [], [], [], [], [], []] [])
    (.cond (.tmp 22)
      (.seq (.region [
        ⟨(some 2), (.op (.mv (.cst (.int .i64 25)))), none⟩] [])
      .ret)
      .skip)))
    (.seq (.region [
      ⟨(some 2), (.op (.mv (.cst (.int .i64 0)))), none⟩] [])
    .ret)))⟩
theorem c21 : cFn Try.prog [] Try.f21 = some h21 := by kernel_rfl
/-- bytes.Clone -/
def h22 : HFn :=
  ⟨8, [(.tmp 2)],
    (.seq (.region [
      ⟨(some 2), (.op (.mv (.cst .nilSlice))), none⟩] [])
    (.seq (.seq (.region [
      ⟨(some 3), (.op (.mv (.tmp 0))), none⟩,
      ⟨(some 4), (.op (.bin .eql (some .slice) (.tmp 3) (.cst .nilSlice))), none⟩] [])
    (.cond (.tmp 4)
      (.seq (.region [
        ⟨(some 2), (.op (.mv (.cst .nilSlice))), none⟩] [])
      .ret)
      .skip))
    (.seq (.region [
      ⟨(some 5), (.op (.bslice 1 0 [] [])), none⟩,
      ⟨(some 6), (.op (.mv (.tmp 0))), none⟩,
      ⟨(some 7), (.op (.append 1 1 (.tmp 5) (.tmp 6))), none⟩,
      ⟨(some 2), (.op (.mv (.tmp 7))), none⟩] [])
    .ret)))⟩
theorem c22 : cFn Try.prog [] Try.f22 = some h22 := by kernel_rfl
/-- (*stint/ledger.Ledger).write -/
def h23 : HFn :=
  ⟨27, [],
    (.seq (.region [
      ⟨(some 3), (.op (.box (.tmp 1))), none⟩] [])
    (.seq (.seq (.region [
      ⟨(some 4), (.op (.mv (.tmp 0))), none⟩,
      ⟨(some 5), (.call (.cst (.func (.func 21) [] [])) [(.tmp 4)]), none⟩,
      ⟨(some 6), (.op (.bin .gtr none (.tmp 5) (.cst (.int .i64 0)))), none⟩] [])
    (.cond (.tmp 6)
      (.region [
        ⟨(some 7), (.op (.mv (.tmp 0))), none⟩,
        ⟨(some 8), (.op (.mv (.tmp 0))), none⟩,
        ⟨(some 9), (.call (.cst (.func (.func 24) [] [])) [(.tmp 8)]), none⟩,
        ⟨(some 10), (.op (.nilc (.tmp 9))), none⟩,
        ⟨(some 11), (.op (.faddr 0 (.tmp 10))), none⟩,
        ⟨(some 12), (.op (.load none (.tmp 11))), none⟩,
        ⟨(some 13), (.op (.bin .add none (.tmp 12) (.cst (.int .i64 1)))), none⟩,
        ⟨(some 14), (.call (.cst (.func (.func 15) [] [])) [(.tmp 7), (.tmp 13)]), none⟩] [])
      .skip))
    (.seq (.region [
      ⟨(some 15), (.op (.mv (.tmp 0))), none⟩,
      ⟨(some 16), (.op (.load (some 19) (.tmp 3))), none⟩,
      ⟨(some 17), (.call (.cst (.func (.func 34) [] [])) [(.tmp 15), (.tmp 16)]), none⟩] [])
    (.seq (.region [
      ⟨(some 18), (.op (.mv (.tmp 0))), none⟩,
      ⟨(some 19), (.call (.cst (.func (.func 16) [] [])) [(.tmp 18)]), none⟩] [])
    (.region [
      ⟨(some 20), (.op (.mv (.tmp 0))), none⟩,
      ⟨(some 21), (.op (.nilc (.tmp 20))), none⟩,
      ⟨(some 22), (.op (.faddr 7 (.tmp 21))), none⟩,
      ⟨(some 23), (.op (.load none (.tmp 22))), none⟩,
      ⟨(some 24), (.op (.bin .add none (.tmp 23) (.cst (.int .i64 1)))), none⟩,
      ⟨(some 25), (.op (.nilc (.tmp 20))), none⟩,
      ⟨(some 26), (.op (.faddr 7 (.tmp 25))), none⟩,
      ⟨none, (.op (.store 1 (.tmp 26) (.tmp 24))), none⟩] [])))))⟩
theorem c23 : cFn Try.prog [] Try.f23 = some h23 := by kernel_rfl
/-- (*stint/ledger.Ledger).newest -/
def h24 : HFn :=
  ⟨14, [(.tmp 2)],
    (.seq (.region [
      ⟨(some 2), (.op (.mv (.cst .nilPtr))), none⟩] [])
    (.seq (.draw [
      ⟨(some 3), (.op (.mv (.tmp 0))), none⟩,
      ⟨(some 4), (.op (.nilc (.tmp 3))), none⟩,
      ⟨(some 5), (.op (.faddr 5 (.tmp 4))), none⟩,
      ⟨(some 6), (.op (.load none (.tmp 5))), none⟩,
      ⟨(some 7), (.op (.mv (.tmp 0))), none⟩,
      ⟨(some 8), (.op (.nilc (.tmp 7))), none⟩,
      ⟨(some 9), (.op (.faddr 5 (.tmp 8))), none⟩,
      ⟨(some 10), (.op (.load none (.tmp 9))), none⟩,
      ⟨(some 11), (.op (.len .slice (.tmp 10))), none⟩,
      ⟨(some 12), (.op (.bin .sub none (.tmp 11) (.cst (.int .i64 1)))), none⟩,
      ⟨(some 13), (.op (.idxS 2 (.tmp 6) (.tmp 12))), none⟩,
      ⟨(some 2), (.op (.mv (.tmp 13))), none⟩] [0, 1, 2, 3, 4, 5, 6, 7, 8, 9, 10, 11] [[], [], [], [], [], [], [], [], [], [], [], []] [])
    .ret))⟩
theorem c24 : cFn Try.prog [] Try.f24 = some h24 := by kernel_rfl
/-- (*stint/ledger.Ledger).behind -/
def h25 : HFn :=
  ⟨74, [(.tmp 2)],
    (.seq (.region [
      ⟨(some 2), (.op (.mv (.cst .nilSlice))), none⟩] [])
    (.seq (.region [
      ⟨(some 5), (.op (.mv (.tmp 0))), none⟩,
      ⟨(some 6), (.call (.cst (.func (.func 35) [] [])) [(.tmp 5)]), none⟩] [])
    (.seq (.seq (.region [
      ⟨(some 7), (.op (.mv (.tmp 0))), none⟩,
      ⟨(some 8), (.op (.nilc (.tmp 7))), none⟩,
      ⟨(some 9), (.op (.faddr 5 (.tmp 8))), none⟩,
      ⟨(some 10), (.op (.load none (.tmp 9))), none⟩,
      ⟨(some 11), (.op (.len .slice (.tmp 10))), none⟩,
      ⟨(some 12), (.op (.bin .gtr none (.tmp 11) (.cst (.int .i64 1)))), none⟩,
      ⟨(some 13), (.op (.mv (.tmp 12))), none⟩,
      ⟨(some 14), (.op (.mv (.tmp 0))), (some (13, true))⟩,
      ⟨(some 15), (.call (.cst (.func (.func 10) [] [])) [(.tmp 14)]), (some (13, true))⟩,
      ⟨(some 16), (.op (.mv (.tmp 0))), (some (13, true))⟩,
      ⟨(some 17), (.call (.cst (.func (.func 36) [] [])) [(.tmp 16)]), (some (13, true))⟩,
      ⟨(some 18), (.op (.bin .mul none (.cst (.int .i64 2)) (.tmp 17))), (some (13, true))⟩,
      ⟨(some 19), (.op (.bin .gtr none (.tmp 15) (.tmp 18))), (some (13, true))⟩,
      ⟨(some 20), (.op (.pick (.tmp 13) (.tmp 19) (.cst (.bool false)))), none⟩] [])
    (.cond (.tmp 20)
      (.seq (.tree [
        ⟨(some 22), (.op (.mv (.tmp 0))), none⟩,
        ⟨(some 23), (.op (.nilc (.tmp 22))), none⟩,
        ⟨(some 24), (.op (.faddr 3 (.tmp 23))), none⟩,
        ⟨(some 25), (.op (.load none (.tmp 24))), none⟩,
        ⟨(some 26), (.op (.mv (.tmp 0))), none⟩,
        ⟨(some 27), (.call (.cst (.func (.func 37) [] [])) [(.tmp 26)]), none⟩,
        ⟨(some 28), (.op (.lookup .int (.agg [(.int .i64 0), (.int .i64 0), (.int .i64 0), (.int .i64 0), (.int .i64 0), (.int .i64 0), (.int .i64 0), (.int .i64 0), (.int .i64 0), (.int .i64 0), (.int .i64 0), (.int .i64 0), (.int .i64 0), (.str []), .nilSlice, (.int .i64 0), (.int .i64 0)]) true (.tmp 25) (.tmp 27))), none⟩,
        ⟨(some 21), (.op (.mv (.tmp 28))), none⟩,
        ⟨(some 29), (.op (.ext 0 (.tmp 21))), none⟩,
        ⟨(some 30), (.op (.ext 1 (.tmp 21))), none⟩,
        ⟨(some 3), (.op (.box (.cst (.agg [(.int .i64 0), (.int .i64 0), (.int .i64 0), (.int .i64 0), (.int .i64 0), (.int .i64 0), (.int .i64 0), (.int .i64 0), (.int .i64 0), (.int .i64 0), (.int .i64 0), (.int .i64 0), (.int .i64 0), (.str []), .nilSlice, (.int .i64 0), (.int .i64 0)])))), none⟩,
        ⟨none, (.op (.store 17 (.tmp 3) (.tmp 29))), none⟩,
        ⟨(some 4), (.op (.mv (.tmp 30))), none⟩] [0, 1, 2, 3, 4, 5, 6, 7, 8, 9, 10, 11, 12] [[], [0], [1], [2], [], [4], [3, 5], [6], [7], [7], [], [10, 8, 5, 0, 1, 2, 3, 4, 5, 6, 7, 8, 10], [9, 11, 0, 1, 2, 3, 4, 5, 6, 7, 8, 9, 10, 11]] [[], [], [], [], [], [], [], [], [], [], [], [6, 3], []] [])
      (.seq (.draw [
        ⟨(some 31), (.op (.mv (.tmp 4))), none⟩,
        ⟨(some 32), (.op (.mv (.tmp 31))), none⟩,
        ⟨(some 33), (.op (.faddr 16 (.tmp 3))), (some (32, true))⟩,
        ⟨(some 34), (.op (.load none (.tmp 33))), (some (32, true))⟩,
        ⟨(some 35), (.op (.mv (.tmp 0))), (some (32, true))⟩,
        ⟨(some 36), (.call (.cst (.func (.func 21) [] [])) [(.tmp 35)]), (some (32, true))⟩,
        ⟨(some 37), (.op (.bin .add none (.tmp 34) (.tmp 36))), (some (32, true))⟩,
        ⟨(some 38), (.op (.mv (.tmp 0))), (some (32, true))⟩,
        ⟨(some 39), (.call (.cst (.func (.func 12) [] [])) [(.tmp 38)]), (some (32, true))⟩,
        ⟨(some 40), (.op (.bin .leq none (.tmp 37) (.tmp 39))), (some (32, true))⟩,
        ⟨(some 41), (.op (.pick (.tmp 32) (.tmp 40) (.cst (.bool false)))), none⟩] [0, 1, 2, 3, 4, 7, 5, 6, 8, 9, 10] [[], [], [], [], [], [], [], [], [], [], []] [])
      (.cond (.tmp 41)
        (.seq (.region [
          ⟨(some 42), (.op (.mv (.tmp 0))), none⟩,
          ⟨(some 43), (.op (.faddr 0 (.tmp 3))), none⟩,
          ⟨(some 44), (.op (.load (some 15) (.tmp 43))), none⟩,
          ⟨(some 45), (.call (.cst (.func (.func 19) [] [])) [(.tmp 44)]), none⟩,
          ⟨(some 46), (.call (.cst (.func (.func 23) [] [])) [(.tmp 42), (.tmp 45)]), none⟩] [])
        (.seq (.region [
          ⟨(some 47), (.op (.mv (.tmp 0))), none⟩,
          ⟨(some 48), (.call (.cst (.func (.func 24) [] [])) [(.tmp 47)]), none⟩,
          ⟨(some 49), (.op (.nilc (.tmp 48))), none⟩,
          ⟨(some 50), (.op (.faddr 0 (.tmp 49))), none⟩,
          ⟨(some 51), (.op (.load none (.tmp 50))), none⟩,
          ⟨(some 52), (.op (.faddr 15 (.tmp 3))), none⟩,
          ⟨none, (.op (.store 1 (.tmp 52) (.tmp 51))), none⟩] [])
        (.seq (.draw [
          ⟨(some 53), (.op (.mv (.tmp 0))), none⟩,
          ⟨(some 54), (.op (.nilc (.tmp 53))), none⟩,
          ⟨(some 55), (.op (.faddr 3 (.tmp 54))), none⟩,
          ⟨(some 56), (.op (.load none (.tmp 55))), none⟩,
          ⟨(some 57), (.op (.faddr 0 (.tmp 3))), none⟩,
          ⟨(some 58), (.op (.faddr 0 (.tmp 57))), none⟩,
          ⟨(some 59), (.op (.load none (.tmp 58))), none⟩,
          ⟨(some 60), (.op (.load (some 17) (.tmp 3))), none⟩,
          ⟨none, (.op (.mapUpd .int (.tmp 56) (.tmp 59) (.tmp 60))), none⟩] [0, 1, 2, 3, 4, 5, 6, 7, 8] [[], [], [], [], [], [], [], [], [3, 6, 7]] [])
        (.seq (.region [
          ⟨(some 61), (.op (.mv (.tmp 0))), none⟩,
          ⟨(some 62), (.op (.nilc (.tmp 61))), none⟩,
          ⟨(some 63), (.op (.faddr 6 (.tmp 62))), none⟩,
          ⟨(some 64), (.op (.load none (.tmp 63))), none⟩,
          ⟨(some 65), (.op (.bin .add none (.tmp 64) (.cst (.int .i64 1)))), none⟩,
          ⟨(some 66), (.op (.nilc (.tmp 61))), none⟩,
          ⟨(some 67), (.op (.faddr 6 (.tmp 66))), none⟩,
          ⟨none, (.op (.store 1 (.tmp 67) (.tmp 65))), none⟩] [])
        (.region [
          ⟨(some 68), (.op (.mv (.tmp 0))), none⟩,
          ⟨(some 69), (.call (.cst (.func (.func 35) [] [])) [(.tmp 68)]), none⟩] [])))))
        .skip)))
      .skip))
    (.seq (.region [
      ⟨(some 70), (.op (.mv (.tmp 0))), none⟩,
      ⟨(some 71), (.call (.cst (.func (.func 38) [] [])) [(.tmp 70)]), none⟩] [])
    (.seq (.region [
      ⟨(some 72), (.op (.mv (.tmp 0))), none⟩,
      ⟨(some 73), (.call (.cst (.func (.func 17) [] [])) [(.tmp 72)]), none⟩,
      ⟨(some 2), (.op (.mv (.tmp 73))), none⟩] [])
    .ret)))))⟩
theorem c25 : cFn Try.prog [] Try.f25 = some h25 := by kernel_rfl
/-- (stint/ledger.kept).held -/
def h26 : HFn :=
  ⟨7, [(.tmp 2)],
    (.seq (.region [
      ⟨(some 1), (.op (.box (.tmp 0))), none⟩,
      ⟨(some 2), (.op (.mv (.cst (.int .i64 0)))), none⟩] [])
    (.seq (.seq (.region [
      ⟨(some 3), (.op (.faddr 0 (.tmp 1))), none⟩,
      ⟨(some 4), (.op (.faddr 5 (.tmp 3))), none⟩,
      ⟨(some 5), (.op (.load none (.tmp 4))), none⟩,
      ⟨(some 6), (.op (.bin .eql (some .int) (.tmp 5) (.cst (.int .i64 4)))), none⟩] [])
    (.cond (.tmp 6)
      (.seq (.region [
        ⟨(some 2), (.op (.mv (.cst (.int .i64 42)))), none⟩] [])
      .ret)
      .skip))
    (.seq (.region [
      ⟨(some 2), (.op (.mv (.cst (.int .i64 164)))), none⟩] [])
    .ret)))⟩
theorem c26 : cFn Try.prog [] Try.f26 = some h26 := by kernel_rfl
/-- stint/record.within -/
def h27 : HFn :=
  ⟨15, [(.tmp 6)],
    (.seq (.region [
      ⟨(some 6), (.op (.mv (.cst (.bool false)))), none⟩] [])
    (.seq (.region [
      ⟨(some 7), (.op (.mv (.tmp 0))), none⟩,
      ⟨(some 8), (.op (.mv (.tmp 1))), none⟩,
      ⟨(some 9), (.op (.bin .geq none (.tmp 7) (.tmp 8))), none⟩,
      ⟨(some 10), (.op (.mv (.tmp 9))), none⟩,
      ⟨(some 11), (.op (.mv (.tmp 0))), (some (10, true))⟩,
      ⟨(some 12), (.op (.mv (.tmp 2))), (some (10, true))⟩,
      ⟨(some 13), (.op (.bin .leq none (.tmp 11) (.tmp 12))), (some (10, true))⟩,
      ⟨(some 14), (.op (.pick (.tmp 10) (.tmp 13) (.cst (.bool false)))), none⟩,
      ⟨(some 6), (.op (.mv (.tmp 14))), none⟩] [])
    .ret))⟩
theorem c27 : cFn Try.prog [] Try.f27 = some h27 := by kernel_rfl
/-- (*stint/ledger.Ledger).head -/
def h28 : HFn :=
  ⟨14, [],
    (.draw [
      ⟨(some 2), (.op (.mv (.tmp 0))), none⟩,
      ⟨(some 3), (.op (.mv (.tmp 0))), none⟩,
      ⟨(some 4), (.call (.cst (.func (.func 24) [] [])) [(.tmp 3)]), none⟩,
      ⟨(some 5), (.op (.nilc (.tmp 4))), none⟩,
      ⟨(some 6), (.op (.faddr 0 (.tmp 5))), none⟩,
      ⟨(some 7), (.op (.load none (.tmp 6))), none⟩,
      ⟨(some 8), (.op (.mv (.tmp 0))), none⟩,
      ⟨(some 9), (.op (.nilc (.tmp 8))), none⟩,
      ⟨(some 10), (.op (.faddr 4 (.tmp 9))), none⟩,
      ⟨(some 11), (.op (.load none (.tmp 10))), none⟩,
      ⟨(some 12), (.op (.build [(.int .i64 0), (.int .i64 0), (.int .i64 0), (.int .i64 0), (.int .i64 0), (.int .i64 0), (.int .i64 0), (.int .i64 0), (.int .i64 0), (.int .i64 0), (.int .i64 0), (.int .i64 0), (.int .i64 0), (.int .i64 0), (.int .i64 0), (.int .i64 0), (.int .i64 0), (.str []), .nilSlice] [(0, 1, (.cst (.int .i64 1))), (1, 1, (.tmp 7)), (2, 1, (.tmp 11))])), none⟩,
      ⟨(some 13), (.call (.cst (.func (.func 34) [] [])) [(.tmp 2), (.tmp 12)]), none⟩] [0, 1, 6, 7, 8, 9, 2, 3, 4, 5, 10, 11] [[], [], [], [], [], [], [], [], [], [], [], [5, 9]] [])⟩
theorem c28 : cFn Try.prog [] Try.f28 = some h28 := by kernel_rfl
/-- stint/record.of -/
def h29 : HFn :=
  ⟨16, [(.tmp 2)],
    (.seq (.region [
      ⟨(some 2), (.op (.mv (.cst .nilSlice))), none⟩] [])
    (.seq (.seq (.region [
      ⟨(some 3), (.op (.mv (.tmp 0))), none⟩] [])
    (.block 0
      (.seq (.region [
        ⟨(some 5), (.op (.bin .eql (some .int) (.tmp 3) (.cst (.int .i64 1)))), none⟩,
        ⟨(some 4), (.op (.mv (.tmp 5))), none⟩] [])
      (.cond (.tmp 4)
        (.seq (.region [
          ⟨(some 6), (.op (.bslice 1 2 [(.int .i64 0), (.int .i64 0)] [(0, 1, (.cst (.int .i64 13))), (1, 1, (.cst (.int .i64 14)))])), none⟩,
          ⟨(some 2), (.op (.mv (.tmp 6))), none⟩] [])
        .ret)
        (.seq (.region [
          ⟨(some 8), (.op (.bin .eql (some .int) (.tmp 3) (.cst (.int .i64 2)))), none⟩,
          ⟨(some 7), (.op (.mv (.tmp 8))), none⟩] [])
        (.cond (.tmp 7)
          (.seq (.region [
            ⟨(some 9), (.op (.bslice 1 13 [(.int .i64 0), (.int .i64 0), (.int .i64 0), (.int .i64 0), (.int .i64 0), (.int .i64 0), (.int .i64 0), (.int .i64 0), (.int .i64 0), (.int .i64 0), (.int .i64 0), (.int .i64 0), (.int .i64 0)] [(0, 1, (.cst (.int .i64 0))), (1, 1, (.cst (.int .i64 1))), (2, 1, (.cst (.int .i64 2))), (3, 1, (.cst (.int .i64 3))), (4, 1, (.cst (.int .i64 4))), (5, 1, (.cst (.int .i64 5))), (6, 1, (.cst (.int .i64 6))), (7, 1, (.cst (.int .i64 7))), (8, 1, (.cst (.int .i64 8))), (9, 1, (.cst (.int .i64 9))), (10, 1, (.cst (.int .i64 10))), (11, 1, (.cst (.int .i64 11))), (12, 1, (.cst (.int .i64 12)))])), none⟩,
            ⟨(some 2), (.op (.mv (.tmp 9))), none⟩] [])
          .ret)
          (.seq (.region [
            ⟨(some 11), (.op (.bin .eql (some .int) (.tmp 3) (.cst (.int .i64 3)))), none⟩,
            ⟨(some 10), (.op (.mv (.tmp 11))), none⟩] [])
          (.cond (.tmp 10)
            (.seq (.region [
              ⟨(some 12), (.op (.bslice 1 11 [(.int .i64 0), (.int .i64 0), (.int .i64 0), (.int .i64 0), (.int .i64 0), (.int .i64 0), (.int .i64 0), (.int .i64 0), (.int .i64 0), (.int .i64 0), (.int .i64 0)] [(0, 1, (.cst (.int .i64 0))), (1, 1, (.cst (.int .i64 1))), (2, 1, (.cst (.int .i64 2))), (3, 1, (.cst (.int .i64 5))), (4, 1, (.cst (.int .i64 6))), (5, 1, (.cst (.int .i64 7))), (6, 1, (.cst (.int .i64 8))), (7, 1, (.cst (.int .i64 9))), (8, 1, (.cst (.int .i64 10))), (9, 1, (.cst (.int .i64 11))), (10, 1, (.cst (.int .i64 12)))])), none⟩,
              ⟨(some 2), (.op (.mv (.tmp 12))), none⟩] [])
            .ret)
            (.seq (.region [
              ⟨(some 14), (.op (.bin .eql (some .int) (.tmp 3) (.cst (.int .i64 4)))), none⟩,
              ⟨(some 13), (.op (.mv (.tmp 14))), none⟩] [])
            (.cond (.tmp 13)
              (.seq (.region [
                ⟨(some 15), (.op (.bslice 1 1 [(.int .i64 0)] [(0, 1, (.cst (.int .i64 15)))])), none⟩,
                ⟨(some 2), (.op (.mv (.tmp 15))), none⟩] [])
              .ret)
              .skip))))))))))
    (.seq (.region [
      ⟨(some 2), (.op (.mv (.cst .nilSlice))), none⟩] [])
    .ret)))⟩
theorem c29 : cFn Try.prog [] Try.f29 = some h29 := by kernel_rfl
/-- stint/record.numbersOf -/
def h30 : HFn :=
  ⟨43, [(.cell 2 (some 16))],
    (.seq (.region [
      ⟨(some 1), (.op (.box (.tmp 0))), none⟩,
      ⟨(some 2), (.op (.box (.cst (.agg [(.int .i64 0), (.int .i64 0), (.int .i64 0), (.int .i64 0), (.int .i64 0), (.int .i64 0), (.int .i64 0), (.int .i64 0), (.int .i64 0), (.int .i64 0), (.int .i64 0), (.int .i64 0), (.int .i64 0), (.int .i64 0), (.int .i64 0), (.int .i64 0)])))), none⟩] [])
    (.seq (.tree [
      ⟨(some 5), (.op (.faddr 4 (.tmp 1))), none⟩,
      ⟨(some 6), (.op (.load (some 15) (.tmp 5))), none⟩,
      ⟨(some 7), (.op (.faddr 4 (.tmp 1))), none⟩,
      ⟨(some 8), (.op (.faddr 8 (.tmp 7))), none⟩,
      ⟨(some 9), (.op (.load (some 5) (.tmp 8))), none⟩,
      ⟨(some 3), (.op (.box (.cst (.agg [(.int .i64 0), (.int .i64 0), (.int .i64 0), (.int .i64 0), (.int .i64 0), (.int .i64 0), (.int .i64 0), (.int .i64 0), (.int .i64 0), (.int .i64 0), (.int .i64 0), (.int .i64 0), (.int .i64 0), (.str []), .nilSlice])))), none⟩,
      ⟨(some 4), (.op (.box (.cst (.agg [(.int .i64 0), (.int .i64 0), (.int .i64 0), (.int .i64 0), (.int .i64 0)])))), none⟩,
      ⟨none, (.op (.store 15 (.tmp 3) (.tmp 6))), none⟩,
      ⟨none, (.op (.store 5 (.tmp 4) (.tmp 9))), none⟩] [0, 1, 2, 3, 4, 5, 6, 7, 8] [[], [0], [], [2], [3], [], [], [5, 1, 0, 1, 5, 6], [6, 4, 7, 0, 1, 2, 3, 4, 5, 6, 7]] [[], [], [], [], [], [], [], [1], [4, 1]] [])
    (.seq (.region [
      ⟨(some 10), (.op (.faddr 0 (.tmp 3))), none⟩,
      ⟨(some 11), (.op (.load none (.tmp 10))), none⟩,
      ⟨(some 12), (.op (.faddr 1 (.tmp 3))), none⟩,
      ⟨(some 13), (.op (.load none (.tmp 12))), none⟩,
      ⟨(some 14), (.op (.faddr 2 (.tmp 3))), none⟩,
      ⟨(some 15), (.op (.load none (.tmp 14))), none⟩,
      ⟨(some 16), (.op (.faddr 3 (.tmp 3))), none⟩,
      ⟨(some 17), (.op (.load none (.tmp 16))), none⟩,
      ⟨(some 18), (.op (.faddr 4 (.tmp 3))), none⟩,
      ⟨(some 19), (.op (.load none (.tmp 18))), none⟩,
      ⟨(some 20), (.op (.faddr 5 (.tmp 3))), none⟩,
      ⟨(some 21), (.op (.load none (.tmp 20))), none⟩,
      ⟨(some 22), (.op (.faddr 6 (.tmp 3))), none⟩,
      ⟨(some 23), (.op (.load none (.tmp 22))), none⟩,
      ⟨(some 24), (.op (.faddr 7 (.tmp 3))), none⟩,
      ⟨(some 25), (.op (.load none (.tmp 24))), none⟩,
      ⟨(some 26), (.op (.faddr 0 (.tmp 4))), none⟩,
      ⟨(some 27), (.op (.load none (.tmp 26))), none⟩,
      ⟨(some 28), (.op (.faddr 1 (.tmp 4))), none⟩,
      ⟨(some 29), (.op (.load none (.tmp 28))), none⟩,
      ⟨(some 30), (.op (.faddr 2 (.tmp 4))), none⟩,
      ⟨(some 31), (.op (.load none (.tmp 30))), none⟩,
      ⟨(some 32), (.op (.faddr 3 (.tmp 4))), none⟩,
      ⟨(some 33), (.op (.load none (.tmp 32))), none⟩,
      ⟨(some 34), (.op (.faddr 4 (.tmp 4))), none⟩,
      ⟨(some 35), (.op (.load none (.tmp 34))), none⟩,
      ⟨(some 36), (.op (.faddr 1 (.tmp 1))), none⟩,
      ⟨(some 37), (.op (.load none (.tmp 36))), none⟩,
      ⟨(some 38), (.op (.faddr 2 (.tmp 1))), none⟩,
      ⟨(some 39), (.op (.load none (.tmp 38))), none⟩,
      ⟨(some 40), (.op (.faddr 3 (.tmp 1))), none⟩,
      ⟨(some 41), (.op (.load none (.tmp 40))), none⟩,
      ⟨(some 42), (.op (.build [(.int .i64 0), (.int .i64 0), (.int .i64 0), (.int .i64 0), (.int .i64 0), (.int .i64 0), (.int .i64 0), (.int .i64 0), (.int .i64 0), (.int .i64 0), (.int .i64 0), (.int .i64 0), (.int .i64 0), (.int .i64 0), (.int .i64 0), (.int .i64 0)] [(0, 1, (.tmp 11)), (1, 1, (.tmp 13)), (2, 1, (.tmp 15)), (3, 1, (.tmp 17)), (4, 1, (.tmp 19)), (5, 1, (.tmp 21)), (6, 1, (.tmp 23)), (7, 1, (.tmp 25)), (8, 1, (.tmp 27)), (9, 1, (.tmp 29)), (10, 1, (.tmp 31)), (11, 1, (.tmp 33)), (12, 1, (.tmp 35)), (13, 1, (.tmp 37)), (14, 1, (.tmp 39)), (15, 1, (.tmp 41))])), none⟩,
      ⟨none, (.op (.store 16 (.tmp 2) (.tmp 42))), none⟩] [])
    .ret)))⟩
theorem c30 : cFn Try.prog [] Try.f30 = some h30 := by kernel_rfl
/-- stint/names.Valid -/
def h31 : HFn :=
  ⟨28, [(.tmp 2)],
    (.seq (.region [
      ⟨(some 2), (.op (.mv (.cst (.bool false)))), none⟩] [])
    (.seq (.seq (.region [
      ⟨(some 4), (.op (.mv (.tmp 0))), none⟩,
      ⟨(some 5), (.op (.len .str (.tmp 4))), none⟩,
      ⟨(some 6), (.op (.bin .lss none (.tmp 5) (.cst (.int .i64 1)))), none⟩,
      ⟨(some 7), (.op (.mv (.tmp 6))), none⟩,
      ⟨(some 8), (.op (.mv (.tmp 0))), (some (7, false))⟩,
      ⟨(some 9), (.op (.len .str (.tmp 8))), (some (7, false))⟩,
      ⟨(some 10), (.op (.bin .gtr none (.tmp 9) (.cst (.int .i64 200)))), (some (7, false))⟩,
      ⟨(some 11), (.op (.pick (.tmp 7) (.cst (.bool true)) (.tmp 10))), none⟩,
      ⟨(some 12), (.op (.mv (.tmp 11))), none⟩,
      ⟨(some 13), (.op (.mv (.tmp 0))), (some (12, false))⟩,
      ⟨(some 14), (.op (.idxStr (.tmp 13) (.cst (.int .i64 0)))), (some (12, false))⟩,
      ⟨(some 15), (.op (.bin .eql (some .int) (.tmp 14) (.cst (.int .u8 45)))), (some (12, false))⟩,
      ⟨(some 16), (.op (.pick (.tmp 12) (.cst (.bool true)) (.tmp 15))), none⟩] [])
    (.cond (.tmp 16)
      (.seq (.region [
        ⟨(some 2), (.op (.mv (.cst (.bool false)))), none⟩] [])
      .ret)
      .skip))
    (.seq (.seq (.region [
      ⟨(some 17), (.op (.mv (.tmp 0))), none⟩,
      ⟨(some 18), (.op (.len .str (.tmp 17))), none⟩,
      ⟨(some 19), (.op (.mv (.cst (.int .i64 0)))), none⟩] [])
    (.block 0
      (.loop
        (.seq (.region [
          ⟨(some 20), (.op (.bin .lss none (.tmp 19) (.tmp 18))), none⟩] [])
        (.seq (.cond (.tmp 20)
          .skip
          (.exit 0))
        (.seq (.block 1
          (.seq (.region [
            ⟨(some 21), (.op (.mv (.tmp 19))), none⟩,
            ⟨(some 3), (.op (.mv (.tmp 21))), none⟩] [])
          (.seq (.region [
            ⟨(some 22), (.op (.mv (.tmp 0))), none⟩,
            ⟨(some 23), (.op (.mv (.tmp 3))), none⟩,
            ⟨(some 24), (.op (.idxStr (.tmp 22) (.tmp 23))), none⟩,
            ⟨(some 25), (.call (.cst (.func (.func 39) [] [])) [(.tmp 24)]), none⟩,
            ⟨(some 26), (.op (.un .not (.tmp 25))), none⟩] [])
          (.cond (.tmp 26)
            (.seq (.region [
              ⟨(some 2), (.op (.mv (.cst (.bool false)))), none⟩] [])
            .ret)
            .skip))))
        (.region [
          ⟨(some 27), (.op (.bin .add none (.tmp 19) (.cst (.int .i64 1)))), none⟩,
          ⟨(some 19), (.op (.mv (.tmp 27))), none⟩] [])))))))
    (.seq (.region [
      ⟨(some 2), (.op (.mv (.cst (.bool true)))), none⟩] [])
    .ret))))⟩
theorem c31 : cFn Try.prog [] Try.f31 = some h31 := by kernel_rfl
/-- (stint/record.numbers).only -/
def h32 : HFn :=
  ⟨21, [(.cell 4 (some 16))],
    (.seq (.region [
      ⟨(some 2), (.op (.box (.tmp 0))), none⟩,
      ⟨(some 4), (.op (.box (.cst (.agg [(.int .i64 0), (.int .i64 0), (.int .i64 0), (.int .i64 0), (.int .i64 0), (.int .i64 0), (.int .i64 0), (.int .i64 0), (.int .i64 0), (.int .i64 0), (.int .i64 0), (.int .i64 0), (.int .i64 0), (.int .i64 0), (.int .i64 0), (.int .i64 0)])))), none⟩] [])
    (.seq (.region [
      ⟨(some 5), (.op (.box (.cst (.agg [(.int .i64 0), (.int .i64 0), (.int .i64 0), (.int .i64 0), (.int .i64 0), (.int .i64 0), (.int .i64 0), (.int .i64 0), (.int .i64 0), (.int .i64 0), (.int .i64 0), (.int .i64 0), (.int .i64 0), (.int .i64 0), (.int .i64 0), (.int .i64 0)])))), none⟩] [])
    (.seq (.seq (.region [
      ⟨(some 8), (.op (.mv (.tmp 1))), none⟩,
      ⟨(some 9), (.op (.len .slice (.tmp 8))), none⟩,
      ⟨(some 10), (.op (.mv (.cst (.int .i64 0)))), none⟩] [])
    (.block 0
      (.loop
        (.seq (.region [
          ⟨(some 11), (.op (.bin .lss none (.tmp 10) (.tmp 9))), none⟩] [])
        (.seq (.cond (.tmp 11)
          .skip
          (.exit 0))
        (.seq (.block 1
          (.seq (.region [
            ⟨(some 12), (.op (.idxS 1 (.tmp 8) (.tmp 10))), none⟩,
            ⟨(some 13), (.op (.load none (.tmp 12))), none⟩,
            ⟨(some 7), (.op (.mv (.tmp 13))), none⟩] [])
          (.region [
            ⟨(some 14), (.op (.mv (.tmp 7))), none⟩,
            ⟨(some 15), (.op (.mv (.tmp 7))), none⟩,
            ⟨(some 16), (.op (.idxA 16 1 (.tmp 2) (.tmp 15))), none⟩,
            ⟨(some 17), (.op (.load none (.tmp 16))), none⟩,
            ⟨(some 18), (.op (.idxA 16 1 (.tmp 5) (.tmp 14))), none⟩,
            ⟨none, (.op (.store 1 (.tmp 18) (.tmp 17))), none⟩] [])))
        (.region [
          ⟨(some 19), (.op (.bin .add none (.tmp 10) (.cst (.int .i64 1)))), none⟩,
          ⟨(some 10), (.op (.mv (.tmp 19))), none⟩] [])))))))
    (.seq (.region [
      ⟨(some 20), (.op (.load (some 16) (.tmp 5))), none⟩,
      ⟨none, (.op (.store 16 (.tmp 4) (.tmp 20))), none⟩] [])
    .ret))))⟩
theorem c32 : cFn Try.prog [] Try.f32 = some h32 := by kernel_rfl
/-- (stint/record.numbers).may -/
def h33 : HFn :=
  ⟨37, [(.tmp 4)],
    (.seq (.region [
      ⟨(some 2), (.op (.box (.tmp 0))), none⟩,
      ⟨(some 4), (.op (.mv (.cst (.bool false)))), none⟩] [])
    (.seq (.seq (.region [
      ⟨(some 5), (.op (.mv (.tmp 1))), none⟩] [])
    (.block 0
      (.seq (.region [
        ⟨(some 7), (.op (.bin .eql (some .int) (.tmp 5) (.cst (.int .i64 1)))), none⟩,
        ⟨(some 6), (.op (.mv (.tmp 7))), none⟩] [])
      (.cond (.tmp 6)
        (.seq (.region [
          ⟨(some 8), (.op (.idxA 16 1 (.tmp 2) (.cst (.int .i64 13)))), none⟩,
          ⟨(some 9), (.op (.load none (.tmp 8))), none⟩,
          ⟨(some 10), (.call (.cst (.func (.func 27) [] [])) [(.tmp 9), (.cst (.int .i64 1)), (.cst (.int .i64 1099511627776))]), none⟩,
          ⟨(some 11), (.op (.mv (.tmp 10))), none⟩,
          ⟨(some 12), (.op (.idxA 16 1 (.tmp 2) (.cst (.int .i64 14)))), (some (11, true))⟩,
          ⟨(some 13), (.op (.load none (.tmp 12))), (some (11, true))⟩,
          ⟨(some 14), (.call (.cst (.func (.func 27) [] [])) [(.tmp 13), (.cst (.int .i64 1)), (.cst (.int .i64 1099511627777))]), (some (11, true))⟩,
          ⟨(some 15), (.op (.pick (.tmp 11) (.tmp 14) (.cst (.bool false)))), none⟩,
          ⟨(some 4), (.op (.mv (.tmp 15))), none⟩] [])
        .ret)
        (.seq (.region [
          ⟨(some 17), (.op (.bin .eql (some .int) (.tmp 5) (.cst (.int .i64 2)))), none⟩,
          ⟨(some 16), (.op (.mv (.tmp 17))), none⟩] [])
        (.cond (.tmp 16)
          (.seq (.region [
            ⟨(some 18), (.op (.load (some 16) (.tmp 2))), none⟩,
            ⟨(some 19), (.call (.cst (.func (.func 40) [] [])) [(.tmp 18)]), none⟩,
            ⟨(some 20), (.op (.mv (.tmp 19))), none⟩,
            ⟨(some 21), (.op (.idxA 16 1 (.tmp 2) (.cst (.int .i64 3)))), (some (20, true))⟩,
            ⟨(some 22), (.op (.load none (.tmp 21))), (some (20, true))⟩,
            ⟨(some 23), (.call (.cst (.func (.func 27) [] [])) [(.tmp 22), (.cst (.int .i64 1)), (.cst (.int .i64 4294967295))]), (some (20, true))⟩,
            ⟨(some 24), (.op (.pick (.tmp 20) (.tmp 23) (.cst (.bool false)))), none⟩,
            ⟨(some 25), (.op (.mv (.tmp 24))), none⟩,
            ⟨(some 26), (.op (.idxA 16 1 (.tmp 2) (.cst (.int .i64 4)))), (some (25, true))⟩,
            ⟨(some 27), (.op (.load none (.tmp 26))), (some (25, true))⟩,
            ⟨(some 28), (.call (.cst (.func (.func 27) [] [])) [(.tmp 27), (.cst (.int .i64 0)), (.cst (.int .i64 1099511627776))]), (some (25, true))⟩,
            ⟨(some 29), (.op (.pick (.tmp 25) (.tmp 28) (.cst (.bool false)))), none⟩,
            ⟨(some 4), (.op (.mv (.tmp 29))), none⟩] [])
          .ret)
          (.seq (.region [
            ⟨(some 31), (.op (.bin .eql (some .int) (.tmp 5) (.cst (.int .i64 3)))), none⟩,
            ⟨(some 30), (.op (.mv (.tmp 31))), none⟩] [])
          (.cond (.tmp 30)
            (.seq (.region [
              ⟨(some 32), (.op (.load (some 16) (.tmp 2))), none⟩,
              ⟨(some 33), (.call (.cst (.func (.func 40) [] [])) [(.tmp 32)]), none⟩,
              ⟨(some 4), (.op (.mv (.tmp 33))), none⟩] [])
            .ret)
            .skip))))))))
    (.seq (.region [
      ⟨(some 34), (.op (.idxA 16 1 (.tmp 2) (.cst (.int .i64 15)))), none⟩,
      ⟨(some 35), (.op (.load none (.tmp 34))), none⟩,
      ⟨(some 36), (.call (.cst (.func (.func 27) [] [])) [(.tmp 35), (.cst (.int .i64 1)), (.cst (.int .i64 1099511627776))]), none⟩,
      ⟨(some 4), (.op (.mv (.tmp 36))), none⟩] [])
    .ret)))⟩
theorem c33 : cFn Try.prog [] Try.f33 = some h33 := by kernel_rfl
/-- (*stint/ledger.Ledger).lay -/
def h34 : HFn :=
  ⟨53, [],
    (.seq (.region [
      ⟨(some 3), (.op (.box (.tmp 1))), none⟩] [])
    (.seq (.region [
      ⟨(some 9), (.op (.mv (.tmp 0))), none⟩,
      ⟨(some 10), (.call (.cst (.func (.func 24) [] [])) [(.tmp 9)]), none⟩,
      ⟨(some 4), (.op (.mv (.tmp 10))), none⟩] [])
    (.seq (.region [
      ⟨(some 12), (.op (.load (some 19) (.tmp 3))), none⟩,
      ⟨(some 13), (.call (.cst (.func (.func 41) [] [])) [(.tmp 12)]), none⟩,
      ⟨(some 11), (.op (.mv (.tmp 13))), none⟩,
      ⟨(some 14), (.op (.ext 0 (.tmp 11))), none⟩,
      ⟨(some 15), (.op (.ext 1 (.tmp 11))), none⟩,
      ⟨(some 5), (.op (.mv (.tmp 14))), none⟩,
      ⟨(some 6), (.op (.mv (.tmp 15))), none⟩] [])
    (.seq (.draw [
      ⟨(some 17), (.op (.mv (.tmp 4))), none⟩,
      ⟨(some 18), (.op (.nilc (.tmp 17))), none⟩,
      ⟨(some 19), (.op (.faddr 0 (.tmp 18))), none⟩,
      ⟨(some 20), (.op (.load none (.tmp 19))), none⟩,
      ⟨(some 21), (.op (.mv (.tmp 4))), none⟩,
      ⟨(some 22), (.op (.nilc (.tmp 21))), none⟩,
      ⟨(some 23), (.op (.faddr 1 (.tmp 22))), none⟩,
      ⟨(some 24), (.op (.load none (.tmp 23))), none⟩,
      ⟨(some 25), (.op (.mv (.tmp 5))), none⟩,
      ⟨(some 26), (.call (.cst (.func (.func 42) [] [])) [(.tmp 20), (.tmp 24), (.tmp 25)]), none⟩,
      ⟨(some 16), (.op (.mv (.tmp 26))), none⟩,
      ⟨(some 27), (.op (.ext 0 (.tmp 16))), none⟩,
      ⟨(some 28), (.op (.ext 1 (.tmp 16))), none⟩,
      ⟨(some 7), (.op (.mv (.tmp 27))), none⟩,
      ⟨(some 8), (.op (.mv (.tmp 28))), none⟩] [0, 1, 2, 3, 4, 5, 6, 7, 8, 9, 10, 11, 12, 13, 14] [[], [], [], [], [], [], [], [], [], [3, 7], [], [], [], [], []] [])
    (.seq (.draw [
      ⟨(some 29), (.op (.mv (.tmp 0))), none⟩,
      ⟨(some 30), (.op (.mv (.tmp 0))), none⟩,
      ⟨(some 31), (.op (.nilc (.tmp 30))), none⟩,
      ⟨(some 32), (.op (.faddr 8 (.tmp 31))), none⟩,
      ⟨(some 33), (.op (.load none (.tmp 32))), none⟩,
      ⟨(some 34), (.op (.mv (.tmp 4))), none⟩,
      ⟨(some 35), (.op (.nilc (.tmp 34))), none⟩,
      ⟨(some 36), (.op (.faddr 0 (.tmp 35))), none⟩,
      ⟨(some 37), (.op (.load none (.tmp 36))), none⟩,
      ⟨(some 38), (.op (.mv (.tmp 7))), none⟩,
      ⟨(some 39), (.op (.build [(.int .i64 0), (.int .i64 0), .nilSlice, (.int .i64 0)] [(0, 1, (.cst (.int .i64 2))), (1, 1, (.tmp 37)), (2, 1, (.tmp 38))])), none⟩,
      ⟨(some 40), (.op (.bslice 4 1 [(.int .i64 0), (.int .i64 0), .nilSlice, (.int .i64 0)] [(0, 4, (.tmp 39))])), none⟩,
      ⟨(some 41), (.op (.append 4 48 (.tmp 33) (.tmp 40))), none⟩,
      ⟨(some 42), (.op (.nilc (.tmp 29))), none⟩,
      ⟨(some 43), (.op (.faddr 8 (.tmp 42))), none⟩,
      ⟨none, (.op (.store 1 (.tmp 43) (.tmp 41))), none⟩] [0, 1, 2, 3, 4, 5, 6, 7, 8, 9, 10, 11, 12, 13, 14, 15] [[], [], [], [], [], [], [], [], [], [], [], [8], [4, 8], [], [], [4, 8]] [])
    (.region [
      ⟨(some 44), (.op (.mv (.tmp 4))), none⟩,
      ⟨(some 45), (.op (.nilc (.tmp 44))), none⟩,
      ⟨(some 46), (.op (.faddr 1 (.tmp 45))), none⟩,
      ⟨(some 47), (.op (.load none (.tmp 46))), none⟩,
      ⟨(some 48), (.op (.mv (.tmp 7))), none⟩,
      ⟨(some 49), (.op (.len .slice (.tmp 48))), none⟩,
      ⟨(some 50), (.op (.bin .add none (.tmp 47) (.tmp 49))), none⟩,
      ⟨(some 51), (.op (.nilc (.tmp 44))), none⟩,
      ⟨(some 52), (.op (.faddr 1 (.tmp 51))), none⟩,
      ⟨none, (.op (.store 1 (.tmp 52) (.tmp 50))), none⟩] []))))))⟩
theorem c34 : cFn Try.prog [] Try.f34 = some h34 := by kernel_rfl
/-- (*stint/ledger.Ledger).letGo -/
def h35 : HFn :=
  ⟨46, [],
    (.block 0
      (.loop
        (.seq (.seq (.region [
          ⟨(some 2), (.op (.mv (.tmp 0))), none⟩,
          ⟨(some 3), (.op (.nilc (.tmp 2))), none⟩,
          ⟨(some 4), (.op (.faddr 5 (.tmp 3))), none⟩,
          ⟨(some 5), (.op (.load none (.tmp 4))), none⟩,
          ⟨(some 6), (.op (.len .slice (.tmp 5))), none⟩,
          ⟨(some 7), (.op (.bin .gtr none (.tmp 6) (.cst (.int .i64 1)))), none⟩,
          ⟨(some 8), (.op (.mv (.tmp 7))), none⟩,
          ⟨(some 9), (.op (.mv (.tmp 0))), (some (8, true))⟩,
          ⟨(some 10), (.op (.mv (.tmp 0))), (some (8, true))⟩,
          ⟨(some 11), (.op (.nilc (.tmp 10))), (some (8, true))⟩,
          ⟨(some 12), (.op (.faddr 5 (.tmp 11))), (some (8, true))⟩,
          ⟨(some 13), (.op (.load none (.tmp 12))), (some (8, true))⟩,
          ⟨(some 14), (.op (.idxS 2 (.tmp 13) (.cst (.int .i64 0)))), (some (8, true))⟩,
          ⟨(some 15), (.op (.faddr 0 (.tmp 14))), (some (8, true))⟩,
          ⟨(some 16), (.op (.load none (.tmp 15))), (some (8, true))⟩,
          ⟨(some 17), (.call (.cst (.func (.func 43) [] [])) [(.tmp 9), (.tmp 16)]), (some (8, true))⟩,
          ⟨(some 18), (.op (.un .not (.tmp 17))), (some (8, true))⟩,
          ⟨(some 19), (.op (.pick (.tmp 8) (.tmp 18) (.cst (.bool false)))), none⟩] [])
        (.cond (.tmp 19)
          .skip
          (.exit 0)))
        (.block 1
          (.seq (.draw [
            ⟨(some 20), (.op (.mv (.tmp 0))), none⟩,
            ⟨(some 21), (.op (.mv (.tmp 0))), none⟩,
            ⟨(some 22), (.op (.nilc (.tmp 21))), none⟩,
            ⟨(some 23), (.op (.faddr 8 (.tmp 22))), none⟩,
            ⟨(some 24), (.op (.load none (.tmp 23))), none⟩,
            ⟨(some 25), (.op (.mv (.tmp 0))), none⟩,
            ⟨(some 26), (.op (.nilc (.tmp 25))), none⟩,
            ⟨(some 27), (.op (.faddr 5 (.tmp 26))), none⟩,
            ⟨(some 28), (.op (.load none (.tmp 27))), none⟩,
            ⟨(some 29), (.op (.idxS 2 (.tmp 28) (.cst (.int .i64 0)))), none⟩,
            ⟨(some 30), (.op (.faddr 0 (.tmp 29))), none⟩,
            ⟨(some 31), (.op (.load none (.tmp 30))), none⟩,
            ⟨(some 32), (.op (.build [(.int .i64 0), (.int .i64 0), .nilSlice, (.int .i64 0)] [(0, 1, (.cst (.int .i64 5))), (1, 1, (.tmp 31))])), none⟩,
            ⟨(some 33), (.op (.bslice 4 1 [(.int .i64 0), (.int .i64 0), .nilSlice, (.int .i64 0)] [(0, 4, (.tmp 32))])), none⟩,
            ⟨(some 34), (.op (.append 4 48 (.tmp 24) (.tmp 33))), none⟩,
            ⟨(some 35), (.op (.nilc (.tmp 20))), none⟩,
            ⟨(some 36), (.op (.faddr 8 (.tmp 35))), none⟩,
            ⟨none, (.op (.store 1 (.tmp 36) (.tmp 34))), none⟩] [0, 1, 2, 3, 4, 5, 6, 7, 8, 9, 10, 11, 12, 13, 14, 15, 16, 17] [[], [], [], [], [], [], [], [], [], [], [], [], [], [11, 9, 8], [4, 11, 9, 8], [], [], [4, 8, 9, 11]] [])
          (.region [
            ⟨(some 37), (.op (.mv (.tmp 0))), none⟩,
            ⟨(some 38), (.op (.mv (.tmp 0))), none⟩,
            ⟨(some 39), (.op (.nilc (.tmp 38))), none⟩,
            ⟨(some 40), (.op (.faddr 5 (.tmp 39))), none⟩,
            ⟨(some 41), (.op (.load none (.tmp 40))), none⟩,
            ⟨(some 42), (.op (.sliceSl 2 (.tmp 41) (some (.cst (.int .i64 1))) none none)), none⟩,
            ⟨(some 43), (.call (.cst (.func (.func 44) [] [])) [(.tmp 42)]), none⟩,
            ⟨(some 44), (.op (.nilc (.tmp 37))), none⟩,
            ⟨(some 45), (.op (.faddr 5 (.tmp 44))), none⟩,
            ⟨none, (.op (.store 1 (.tmp 45) (.tmp 43))), none⟩] []))))))⟩
theorem c35 : cFn Try.prog [] Try.f35 = some h35 := by kernel_rfl
/-- (*stint/ledger.Ledger).wholes -/
def h36 : HFn :=
  ⟨20, [(.tmp 2)],
    (.seq (.region [
      ⟨(some 2), (.op (.mv (.cst (.int .i64 0)))), none⟩] [])
    (.seq (.region [
      ⟨(some 3), (.op (.mv (.cst (.int .i64 0)))), none⟩] [])
    (.seq (.seq (.region [
      ⟨(some 6), (.op (.mv (.tmp 0))), none⟩,
      ⟨(some 7), (.op (.nilc (.tmp 6))), none⟩,
      ⟨(some 8), (.op (.faddr 3 (.tmp 7))), none⟩,
      ⟨(some 9), (.op (.load none (.tmp 8))), none⟩,
      ⟨(some 10), (.op (.rangeMap (.tmp 9))), none⟩] [])
    (.block 0
      (.loop
        (.seq (.region [
          ⟨(some 11), (.next (.tmp 10)), none⟩,
          ⟨(some 12), (.op (.ext 0 (.tmp 11))), none⟩] [])
        (.seq (.cond (.tmp 12)
          .skip
          (.exit 0))
        (.block 1
          (.seq (.region [
            ⟨(some 13), (.op (.entry (.tmp 10))), none⟩,
            ⟨(some 14), (.op (.ext 1 (.tmp 13))), none⟩,
            ⟨(some 5), (.op (.box (.cst (.agg [(.int .i64 0), (.int .i64 0), (.int .i64 0), (.int .i64 0), (.int .i64 0), (.int .i64 0), (.int .i64 0), (.int .i64 0), (.int .i64 0), (.int .i64 0), (.int .i64 0), (.int .i64 0), (.int .i64 0), (.str []), .nilSlice, (.int .i64 0), (.int .i64 0)])))), none⟩,
            ⟨none, (.op (.store 17 (.tmp 5) (.tmp 14))), none⟩] [])
          (.region [
            ⟨(some 15), (.op (.mv (.tmp 3))), none⟩,
            ⟨(some 16), (.op (.faddr 16 (.tmp 5))), none⟩,
            ⟨(some 17), (.op (.load none (.tmp 16))), none⟩,
            ⟨(some 18), (.op (.bin .add none (.tmp 15) (.tmp 17))), none⟩,
            ⟨(some 3), (.op (.mv (.tmp 18))), none⟩] []))))))))
    (.seq (.region [
      ⟨(some 19), (.op (.mv (.tmp 3))), none⟩,
      ⟨(some 2), (.op (.mv (.tmp 19))), none⟩] [])
    .ret))))⟩
theorem c36 : cFn Try.prog [] Try.f36 = some h36 := by kernel_rfl
/-- (*stint/ledger.Ledger).least -/
def h37 : HFn :=
  ⟨37, [(.tmp 2)],
    (.seq (.region [
      ⟨(some 2), (.op (.mv (.cst (.int .i64 0)))), none⟩] [])
    (.seq (.region [
      ⟨(some 3), (.op (.mv (.cst (.int .i64 0)))), none⟩] [])
    (.seq (.seq (.region [
      ⟨(some 6), (.op (.mv (.tmp 0))), none⟩,
      ⟨(some 7), (.op (.nilc (.tmp 6))), none⟩,
      ⟨(some 8), (.op (.faddr 3 (.tmp 7))), none⟩,
      ⟨(some 9), (.op (.load none (.tmp 8))), none⟩,
      ⟨(some 10), (.op (.rangeMap (.tmp 9))), none⟩] [])
    (.block 0
      (.loop
        (.seq (.region [
          ⟨(some 11), (.next (.tmp 10)), none⟩,
          ⟨(some 12), (.op (.ext 0 (.tmp 11))), none⟩] [])
        (.seq (.cond (.tmp 12)
          .skip
          (.exit 0))
        (.block 1
          (.seq (.region [
            ⟨(some 13), (.op (.entry (.tmp 10))), none⟩,
            ⟨(some 14), (.op (.ext 0 (.tmp 13))), none⟩,
            ⟨(some 15), (.op (.ext 1 (.tmp 13))), none⟩,
            ⟨(some 5), (.op (.box (.cst (.agg [(.int .i64 0), (.int .i64 0), (.int .i64 0), (.int .i64 0), (.int .i64 0), (.int .i64 0), (.int .i64 0), (.int .i64 0), (.int .i64 0), (.int .i64 0), (.int .i64 0), (.int .i64 0), (.int .i64 0), (.str []), .nilSlice, (.int .i64 0), (.int .i64 0)])))), none⟩,
            ⟨(some 4), (.op (.mv (.tmp 14))), none⟩,
            ⟨none, (.op (.store 17 (.tmp 5) (.tmp 15))), none⟩] [])
          (.seq (.draw [
            ⟨(some 16), (.op (.faddr 15 (.tmp 5))), none⟩,
            ⟨(some 17), (.op (.load none (.tmp 16))), none⟩,
            ⟨(some 18), (.op (.mv (.tmp 0))), none⟩,
            ⟨(some 19), (.op (.nilc (.tmp 18))), none⟩,
            ⟨(some 20), (.op (.faddr 5 (.tmp 19))), none⟩,
            ⟨(some 21), (.op (.load none (.tmp 20))), none⟩,
            ⟨(some 22), (.op (.idxS 2 (.tmp 21) (.cst (.int .i64 0)))), none⟩,
            ⟨(some 23), (.op (.faddr 0 (.tmp 22))), none⟩,
            ⟨(some 24), (.op (.load none (.tmp 23))), none⟩,
            ⟨(some 25), (.op (.bin .eql (some .int) (.tmp 17) (.tmp 24))), none⟩,
            ⟨(some 26), (.op (.mv (.tmp 25))), none⟩,
            ⟨(some 27), (.op (.mv (.tmp 3))), (some (26, true))⟩,
            ⟨(some 28), (.op (.bin .eql (some .int) (.tmp 27) (.cst (.int .i64 0)))), (some (26, true))⟩,
            ⟨(some 29), (.op (.mv (.tmp 28))), (some (26, true))⟩,
            ⟨(some 30), (.op (.mv (.tmp 4))), (some (29, false))⟩,
            ⟨(some 31), (.op (.mv (.tmp 3))), (some (29, false))⟩,
            ⟨(some 32), (.op (.bin .lss none (.tmp 30) (.tmp 31))), (some (29, false))⟩,
            ⟨(some 33), (.op (.pick (.tmp 29) (.cst (.bool true)) (.tmp 32))), (some (26, true))⟩,
            ⟨(some 34), (.op (.pick (.tmp 26) (.tmp 33) (.cst (.bool false)))), none⟩] [0, 1, 2, 3, 4, 5, 6, 7, 8, 9, 10, 11, 12, 13, 14, 15, 16, 17, 18] [[], [], [], [], [], [], [], [], [], [], [], [], [], [], [], [], [], [], []] [])
          (.cond (.tmp 34)
            (.region [
              ⟨(some 35), (.op (.mv (.tmp 4))), none⟩,
              ⟨(some 3), (.op (.mv (.tmp 35))), none⟩] [])
            .skip)))))))))
    (.seq (.region [
      ⟨(some 36), (.op (.mv (.tmp 3))), none⟩,
      ⟨(some 2), (.op (.mv (.tmp 36))), none⟩] [])
    .ret))))⟩
theorem c37 : cFn Try.prog [] Try.f37 = some h37 := by kernel_rfl
/-- (*stint/ledger.Ledger).fresh -/
def h38 : HFn :=
  ⟨36, [],
    (.seq (.region [
      ⟨(some 3), (.op (.mv (.tmp 0))), none⟩,
      ⟨(some 4), (.call (.cst (.func (.func 24) [] [])) [(.tmp 3)]), none⟩,
      ⟨(some 2), (.op (.mv (.tmp 4))), none⟩] [])
    (.seq (.region [
      ⟨(some 5), (.op (.mv (.tmp 0))), none⟩,
      ⟨(some 6), (.op (.nilc (.tmp 5))), none⟩,
      ⟨(some 7), (.op (.faddr 3 (.tmp 6))), none⟩,
      ⟨(some 8), (.op (.load none (.tmp 7))), none⟩,
      ⟨(some 9), (.op (.len .map (.tmp 8))), none⟩,
      ⟨(some 10), (.op (.bin .eql (some .int) (.tmp 9) (.cst (.int .i64 0)))), none⟩,
      ⟨(some 11), (.op (.mv (.tmp 10))), none⟩,
      ⟨(some 12), (.op (.mv (.tmp 2))), (some (11, true))⟩,
      ⟨(some 13), (.op (.nilc (.tmp 12))), (some (11, true))⟩,
      ⟨(some 14), (.op (.faddr 1 (.tmp 13))), (some (11, true))⟩,
      ⟨(some 15), (.op (.load none (.tmp 14))), (some (11, true))⟩,
      ⟨(some 16), (.op (.bin .gtr none (.tmp 15) (.cst (.int .i64 25)))), (some (11, true))⟩,
      ⟨(some 17), (.op (.pick (.tmp 11) (.tmp 16) (.cst (.bool false)))), none⟩,
      ⟨(some 18), (.op (.mv (.tmp 17))), none⟩,
      ⟨(some 19), (.op (.mv (.tmp 2))), (some (18, true))⟩,
      ⟨(some 20), (.op (.nilc (.tmp 19))), (some (18, true))⟩,
      ⟨(some 21), (.op (.faddr 0 (.tmp 20))), (some (18, true))⟩,
      ⟨(some 22), (.op (.load none (.tmp 21))), (some (18, true))⟩,
      ⟨(some 23), (.op (.bin .neq (some .int) (.tmp 22) (.cst (.int .i64 1099511627776)))), (some (18, true))⟩,
      ⟨(some 24), (.op (.pick (.tmp 18) (.tmp 23) (.cst (.bool false)))), none⟩] [])
    (.cond (.tmp 24)
      (.seq (.region [
        ⟨(some 25), (.op (.mv (.tmp 0))), none⟩,
        ⟨(some 26), (.op (.mv (.tmp 2))), none⟩,
        ⟨(some 27), (.op (.nilc (.tmp 26))), none⟩,
        ⟨(some 28), (.op (.faddr 0 (.tmp 27))), none⟩,
        ⟨(some 29), (.op (.load none (.tmp 28))), none⟩,
        ⟨(some 30), (.op (.bin .add none (.tmp 29) (.cst (.int .i64 1)))), none⟩,
        ⟨(some 31), (.call (.cst (.func (.func 15) [] [])) [(.tmp 25), (.tmp 30)]), none⟩] [])
      (.seq (.region [
        ⟨(some 32), (.op (.mv (.tmp 0))), none⟩,
        ⟨(some 33), (.call (.cst (.func (.func 16) [] [])) [(.tmp 32)]), none⟩] [])
      (.region [
        ⟨(some 34), (.op (.mv (.tmp 0))), none⟩,
        ⟨(some 35), (.call (.cst (.func (.func 35) [] [])) [(.tmp 34)]), none⟩] [])))
      .skip)))⟩
theorem c38 : cFn Try.prog [] Try.f38 = some h38 := by kernel_rfl
/-- stint/names.may -/
def h39 : HFn :=
  ⟨25, [(.tmp 2)],
    (.seq (.region [
      ⟨(some 2), (.op (.mv (.cst (.bool false)))), none⟩] [])
    (.seq (.block 0
      (.seq (.seq (.region [
        ⟨(some 4), (.op (.mv (.tmp 0))), none⟩,
        ⟨(some 5), (.op (.bin .geq none (.tmp 4) (.cst (.int .u8 97)))), none⟩,
        ⟨(some 6), (.op (.mv (.tmp 5))), none⟩,
        ⟨(some 7), (.op (.mv (.tmp 0))), (some (6, true))⟩,
        ⟨(some 8), (.op (.bin .leq none (.tmp 7) (.cst (.int .u8 122)))), (some (6, true))⟩,
        ⟨(some 9), (.op (.pick (.tmp 6) (.tmp 8) (.cst (.bool false)))), none⟩,
        ⟨(some 3), (.op (.mv (.tmp 9))), none⟩] [])
      (.cond (.tmp 3)
        .skip
        (.seq (.region [
          ⟨(some 10), (.op (.mv (.tmp 0))), none⟩,
          ⟨(some 11), (.op (.bin .geq none (.tmp 10) (.cst (.int .u8 65)))), none⟩,
          ⟨(some 12), (.op (.mv (.tmp 11))), none⟩,
          ⟨(some 13), (.op (.mv (.tmp 0))), (some (12, true))⟩,
          ⟨(some 14), (.op (.bin .leq none (.tmp 13) (.cst (.int .u8 90)))), (some (12, true))⟩,
          ⟨(some 15), (.op (.pick (.tmp 12) (.tmp 14) (.cst (.bool false)))), none⟩,
          ⟨(some 3), (.op (.mv (.tmp 15))), none⟩] [])
        (.cond (.tmp 3)
          .skip
          (.region [
            ⟨(some 16), (.op (.mv (.tmp 0))), none⟩,
            ⟨(some 17), (.op (.bin .geq none (.tmp 16) (.cst (.int .u8 48)))), none⟩,
            ⟨(some 18), (.op (.mv (.tmp 17))), none⟩,
            ⟨(some 19), (.op (.mv (.tmp 0))), (some (18, true))⟩,
            ⟨(some 20), (.op (.bin .leq none (.tmp 19) (.cst (.int .u8 57)))), (some (18, true))⟩,
            ⟨(some 21), (.op (.pick (.tmp 18) (.tmp 20) (.cst (.bool false)))), none⟩,
            ⟨(some 3), (.op (.mv (.tmp 21))), none⟩] [])))))
      (.cond (.tmp 3)
        (.seq (.region [
          ⟨(some 2), (.op (.mv (.cst (.bool true)))), none⟩] [])
        .ret)
        .skip)))
    (.seq (.region [
      ⟨(some 22), (.op (.mv (.tmp 0))), none⟩,
      ⟨(some 23), (.call (.cst (.func (.func 45) [] [])) [(.cst (.str [45, 43, 47, 59, 46, 36, 95, 40, 41])), (.tmp 22)]), none⟩,
      ⟨(some 24), (.op (.bin .geq none (.tmp 23) (.cst (.int .i64 0)))), none⟩,
      ⟨(some 2), (.op (.mv (.tmp 24))), none⟩] [])
    .ret)))⟩
theorem c39 : cFn Try.prog [] Try.f39 = some h39 := by kernel_rfl
/-- (stint/record.numbers).job -/
def h40 : HFn :=
  ⟨56, [(.tmp 2)],
    (.seq (.region [
      ⟨(some 1), (.op (.box (.tmp 0))), none⟩,
      ⟨(some 2), (.op (.mv (.cst (.bool false)))), none⟩] [])
    (.seq (.region [
      ⟨(some 7), (.op (.idxA 16 1 (.tmp 1) (.cst (.int .i64 6)))), none⟩,
      ⟨(some 8), (.op (.load none (.tmp 7))), none⟩,
      ⟨(some 9), (.call (.cst (.func (.func 27) [] [])) [(.tmp 8), (.cst (.int .i64 0)), (.cst (.int .i64 0))]), none⟩,
      ⟨(some 3), (.op (.mv (.tmp 9))), none⟩] [])
    (.seq (.region [
      ⟨(some 10), (.op (.idxA 16 1 (.tmp 1) (.cst (.int .i64 7)))), none⟩,
      ⟨(some 11), (.op (.load none (.tmp 10))), none⟩,
      ⟨(some 12), (.call (.cst (.func (.func 27) [] [])) [(.tmp 11), (.cst (.int .i64 0)), (.cst (.int .i64 0))]), none⟩,
      ⟨(some 4), (.op (.mv (.tmp 12))), none⟩] [])
    (.seq (.seq (.region [
      ⟨(some 13), (.op (.idxA 16 1 (.tmp 1) (.cst (.int .i64 5)))), none⟩,
      ⟨(some 14), (.op (.load none (.tmp 13))), none⟩] [])
    (.block 0
      (.seq (.region [
        ⟨(some 16), (.op (.bin .eql (some .int) (.tmp 14) (.cst (.int .i64 1)))), none⟩,
        ⟨(some 15), (.op (.mv (.tmp 16))), none⟩] [])
      (.cond (.tmp 15)
        .skip
        (.seq (.region [
          ⟨(some 18), (.op (.bin .eql (some .int) (.tmp 14) (.cst (.int .i64 2)))), none⟩,
          ⟨(some 17), (.op (.mv (.tmp 18))), none⟩] [])
        (.cond (.tmp 17)
          (.region [
            ⟨(some 19), (.op (.idxA 16 1 (.tmp 1) (.cst (.int .i64 6)))), none⟩,
            ⟨(some 20), (.op (.load none (.tmp 19))), none⟩,
            ⟨(some 21), (.call (.cst (.func (.func 27) [] [])) [(.tmp 20), (.cst (.int .i64 1)), (.cst (.int .i64 1103806595071))]), none⟩,
            ⟨(some 3), (.op (.mv (.tmp 21))), none⟩] [])
          (.seq (.region [
            ⟨(some 23), (.op (.bin .eql (some .int) (.tmp 14) (.cst (.int .i64 4)))), none⟩,
            ⟨(some 22), (.op (.mv (.tmp 23))), none⟩] [])
          (.cond (.tmp 22)
            (.region [
              ⟨(some 24), (.op (.idxA 16 1 (.tmp 1) (.cst (.int .i64 7)))), none⟩,
              ⟨(some 25), (.op (.load none (.tmp 24))), none⟩,
              ⟨(some 26), (.call (.cst (.func (.func 27) [] [])) [(.tmp 25), (.cst (.int .i64 1)), (.cst (.int .i64 4611686018427387903))]), none⟩,
              ⟨(some 4), (.op (.mv (.tmp 26))), none⟩] [])
            (.seq (.region [
              ⟨(some 2), (.op (.mv (.cst (.bool false)))), none⟩] [])
            .ret)))))))))
    (.seq (.seq (.region [
      ⟨(some 27), (.op (.sliceArr 16 1 (.tmp 1) (some (.cst (.int .i64 8))) (some (.cst (.int .i64 13))) none)), none⟩,
      ⟨(some 28), (.op (.len .slice (.tmp 27))), none⟩,
      ⟨(some 29), (.op (.mv (.cst (.int .i64 0)))), none⟩] [])
    (.block 1
      (.loop
        (.seq (.region [
          ⟨(some 30), (.op (.bin .lss none (.tmp 29) (.tmp 28))), none⟩] [])
        (.seq (.cond (.tmp 30)
          .skip
          (.exit 1))
        (.seq (.block 2
          (.seq (.region [
            ⟨(some 31), (.op (.idxS 1 (.tmp 27) (.tmp 29))), none⟩,
            ⟨(some 32), (.op (.load none (.tmp 31))), none⟩,
            ⟨(some 6), (.op (.mv (.tmp 32))), none⟩] [])
          (.seq (.region [
            ⟨(some 33), (.op (.mv (.tmp 6))), none⟩,
            ⟨(some 34), (.call (.cst (.func (.func 27) [] [])) [(.tmp 33), (.cst (.int .i64 0)), (.cst (.int .i64 4611686018427387903))]), none⟩,
            ⟨(some 35), (.op (.un .not (.tmp 34))), none⟩] [])
          (.cond (.tmp 35)
            (.seq (.region [
              ⟨(some 2), (.op (.mv (.cst (.bool false)))), none⟩] [])
            .ret)
            .skip))))
        (.region [
          ⟨(some 36), (.op (.bin .add none (.tmp 29) (.cst (.int .i64 1)))), none⟩,
          ⟨(some 29), (.op (.mv (.tmp 36))), none⟩] [])))))))
    (.seq (.region [
      ⟨(some 37), (.op (.mv (.tmp 3))), none⟩,
      ⟨(some 38), (.op (.mv (.tmp 37))), none⟩,
      ⟨(some 39), (.op (.mv (.tmp 4))), (some (38, true))⟩,
      ⟨(some 40), (.op (.pick (.tmp 38) (.tmp 39) (.cst (.bool false)))), none⟩,
      ⟨(some 41), (.op (.mv (.tmp 40))), none⟩,
      ⟨(some 42), (.op (.idxA 16 1 (.tmp 1) (.cst (.int .i64 0)))), (some (41, true))⟩,
      ⟨(some 43), (.op (.load none (.tmp 42))), (some (41, true))⟩,
      ⟨(some 44), (.call (.cst (.func (.func 27) [] [])) [(.tmp 43), (.cst (.int .i64 1)), (.cst (.int .i64 1099511627776))]), (some (41, true))⟩,
      ⟨(some 45), (.op (.pick (.tmp 41) (.tmp 44) (.cst (.bool false)))), none⟩,
      ⟨(some 46), (.op (.mv (.tmp 45))), none⟩,
      ⟨(some 47), (.op (.idxA 16 1 (.tmp 1) (.cst (.int .i64 1)))), (some (46, true))⟩,
      ⟨(some 48), (.op (.load none (.tmp 47))), (some (46, true))⟩,
      ⟨(some 49), (.call (.cst (.func (.func 27) [] [])) [(.tmp 48), (.cst (.int .i64 0)), (.cst (.int .i64 4294967295))]), (some (46, true))⟩,
      ⟨(some 50), (.op (.pick (.tmp 46) (.tmp 49) (.cst (.bool false)))), none⟩,
      ⟨(some 51), (.op (.mv (.tmp 50))), none⟩,
      ⟨(some 52), (.op (.idxA 16 1 (.tmp 1) (.cst (.int .i64 2)))), (some (51, true))⟩,
      ⟨(some 53), (.op (.load none (.tmp 52))), (some (51, true))⟩,
      ⟨(some 54), (.call (.cst (.func (.func 27) [] [])) [(.tmp 53), (.cst (.int .i64 0)), (.cst (.int .i64 4294967295))]), (some (51, true))⟩,
      ⟨(some 55), (.op (.pick (.tmp 51) (.tmp 54) (.cst (.bool false)))), none⟩,
      ⟨(some 2), (.op (.mv (.tmp 55))), none⟩] [])
    .ret))))))⟩
theorem c40 : cFn Try.prog [] Try.f40 = some h40 := by kernel_rfl
/-- stint/record.Put -/
def h41 : HFn :=
  ⟨57, [(.tmp 2), (.tmp 3)],
    (.seq (.region [
      ⟨(some 1), (.op (.box (.tmp 0))), none⟩,
      ⟨(some 2), (.op (.mv (.cst .nilSlice))), none⟩,
      ⟨(some 3), (.op (.mv (.cst (.int .i64 0)))), none⟩] [])
    (.seq (.seq (.region [
      ⟨(some 9), (.op (.load (some 19) (.tmp 1))), none⟩,
      ⟨(some 10), (.call (.cst (.func (.func 18) [] [])) [(.tmp 9)]), none⟩,
      ⟨(some 4), (.op (.mv (.tmp 10))), none⟩] [])
    (.seq (.region [
      ⟨(some 11), (.op (.mv (.tmp 4))), none⟩,
      ⟨(some 12), (.op (.bin .neq (some .int) (.tmp 11) (.cst (.int .i64 0)))), none⟩] [])
    (.cond (.tmp 12)
      (.seq (.region [
        ⟨(some 13), (.op (.mv (.tmp 4))), none⟩,
        ⟨(some 2), (.op (.mv (.cst .nilSlice))), none⟩,
        ⟨(some 3), (.op (.mv (.tmp 13))), none⟩] [])
      .ret)
      .skip)))
    (.seq (.region [
      ⟨(some 14), (.op (.load (some 19) (.tmp 1))), none⟩,
      ⟨(some 15), (.call (.cst (.func (.func 30) [] [])) [(.tmp 14)]), none⟩,
      ⟨(some 5), (.op (.box (.cst (.agg [(.int .i64 0), (.int .i64 0), (.int .i64 0), (.int .i64 0), (.int .i64 0), (.int .i64 0), (.int .i64 0), (.int .i64 0), (.int .i64 0), (.int .i64 0), (.int .i64 0), (.int .i64 0), (.int .i64 0), (.int .i64 0), (.int .i64 0), (.int .i64 0)])))), none⟩,
      ⟨none, (.op (.store 16 (.tmp 5) (.tmp 15))), none⟩] [])
    (.seq (.region [
      ⟨(some 16), (.op (.faddr 0 (.tmp 1))), none⟩,
      ⟨(some 17), (.op (.load none (.tmp 16))), none⟩,
      ⟨(some 18), (.op (.cInt .u8 (.tmp 17))), none⟩,
      ⟨(some 19), (.op (.bslice 1 1 [(.int .u8 0)] [(0, 1, (.tmp 18))])), none⟩,
      ⟨(some 6), (.op (.mv (.tmp 19))), none⟩] [])
    (.seq (.seq (.region [
      ⟨(some 20), (.op (.faddr 0 (.tmp 1))), none⟩,
      ⟨(some 21), (.op (.load none (.tmp 20))), none⟩,
      ⟨(some 22), (.call (.cst (.func (.func 29) [] [])) [(.tmp 21)]), none⟩,
      ⟨(some 23), (.op (.len .slice (.tmp 22))), none⟩,
      ⟨(some 24), (.op (.mv (.cst (.int .i64 0)))), none⟩] [])
    (.block 0
      (.loop
        (.seq (.region [
          ⟨(some 25), (.op (.bin .lss none (.tmp 24) (.tmp 23))), none⟩] [])
        (.seq (.cond (.tmp 25)
          .skip
          (.exit 0))
        (.seq (.block 1
          (.seq (.region [
            ⟨(some 26), (.op (.idxS 1 (.tmp 22) (.tmp 24))), none⟩,
            ⟨(some 27), (.op (.load none (.tmp 26))), none⟩,
            ⟨(some 8), (.op (.mv (.tmp 27))), none⟩] [])
          (.region [
            ⟨(some 28), (.op (.mv (.tmp 6))), none⟩,
            ⟨(some 29), (.op (.mv (.tmp 8))), none⟩,
            ⟨(some 30), (.op (.idxA 16 1 (.tmp 5) (.tmp 29))), none⟩,
            ⟨(some 31), (.op (.load none (.tmp 30))), none⟩,
            ⟨(some 32), (.call (.cst (.func (.func 46) [] [])) [(.tmp 31)]), none⟩,
            ⟨(some 33), (.op (.append 1 1 (.tmp 28) (.tmp 32))), none⟩,
            ⟨(some 6), (.op (.mv (.tmp 33))), none⟩] [])))
        (.region [
          ⟨(some 34), (.op (.bin .add none (.tmp 24) (.cst (.int .i64 1)))), none⟩,
          ⟨(some 24), (.op (.mv (.tmp 34))), none⟩] [])))))))
    (.seq (.seq (.region [
      ⟨(some 35), (.op (.faddr 0 (.tmp 1))), none⟩,
      ⟨(some 36), (.op (.load none (.tmp 35))), none⟩,
      ⟨(some 37), (.op (.bin .eql (some .int) (.tmp 36) (.cst (.int .i64 2)))), none⟩] [])
    (.cond (.tmp 37)
      (.seq (.region [
        ⟨(some 38), (.op (.mv (.tmp 6))), none⟩,
        ⟨(some 39), (.op (.faddr 4 (.tmp 1))), none⟩,
        ⟨(some 40), (.op (.faddr 13 (.tmp 39))), none⟩,
        ⟨(some 41), (.op (.load none (.tmp 40))), none⟩,
        ⟨(some 42), (.op (.len .str (.tmp 41))), none⟩,
        ⟨(some 43), (.op (.cInt .u8 (.tmp 42))), none⟩,
        ⟨(some 44), (.op (.bslice 1 1 [(.int .u8 0)] [(0, 1, (.tmp 43))])), none⟩,
        ⟨(some 45), (.op (.append 1 1 (.tmp 38) (.tmp 44))), none⟩,
        ⟨(some 6), (.op (.mv (.tmp 45))), none⟩] [])
      (.seq (.region [
        ⟨(some 46), (.op (.mv (.tmp 6))), none⟩,
        ⟨(some 47), (.op (.faddr 4 (.tmp 1))), none⟩,
        ⟨(some 48), (.op (.faddr 13 (.tmp 47))), none⟩,
        ⟨(some 49), (.op (.load none (.tmp 48))), none⟩,
        ⟨(some 50), (.op (.append 1 1 (.tmp 46) (.tmp 49))), none⟩,
        ⟨(some 6), (.op (.mv (.tmp 50))), none⟩] [])
      (.region [
        ⟨(some 51), (.op (.mv (.tmp 6))), none⟩,
        ⟨(some 52), (.op (.faddr 4 (.tmp 1))), none⟩,
        ⟨(some 53), (.op (.faddr 14 (.tmp 52))), none⟩,
        ⟨(some 54), (.op (.load none (.tmp 53))), none⟩,
        ⟨(some 55), (.op (.append 1 1 (.tmp 51) (.tmp 54))), none⟩,
        ⟨(some 6), (.op (.mv (.tmp 55))), none⟩] [])))
      .skip))
    (.seq (.region [
      ⟨(some 56), (.op (.mv (.tmp 6))), none⟩,
      ⟨(some 2), (.op (.mv (.tmp 56))), none⟩,
      ⟨(some 3), (.op (.mv (.cst (.int .i64 0)))), none⟩] [])
    .ret)))))))⟩
theorem c41 : cFn Try.prog [] Try.f41 = some h41 := by kernel_rfl
/-- stint/frame.Make -/
def h42 : HFn :=
  ⟨40, [(.tmp 6), (.tmp 7)],
    (.seq (.region [
      ⟨(some 6), (.op (.mv (.cst .nilSlice))), none⟩,
      ⟨(some 7), (.op (.mv (.cst (.int .i64 0)))), none⟩] [])
    (.seq (.block 0
      (.seq (.region [
        ⟨(some 10), (.op (.mv (.tmp 0))), none⟩,
        ⟨(some 11), (.call (.cst (.func (.func 47) [] [])) [(.tmp 10)]), none⟩,
        ⟨(some 12), (.op (.un .not (.tmp 11))), none⟩,
        ⟨(some 13), (.op (.mv (.tmp 12))), none⟩,
        ⟨(some 14), (.op (.mv (.tmp 1))), (some (13, false))⟩,
        ⟨(some 15), (.call (.cst (.func (.func 47) [] [])) [(.tmp 14)]), (some (13, false))⟩,
        ⟨(some 16), (.op (.un .not (.tmp 15))), (some (13, false))⟩,
        ⟨(some 17), (.op (.pick (.tmp 13) (.cst (.bool true)) (.tmp 16))), none⟩,
        ⟨(some 9), (.op (.mv (.tmp 17))), none⟩] [])
      (.cond (.tmp 9)
        (.seq (.region [
          ⟨(some 6), (.op (.mv (.cst .nilSlice))), none⟩,
          ⟨(some 7), (.op (.mv (.cst (.int .i64 24)))), none⟩] [])
        .ret)
        (.seq (.region [
          ⟨(some 19), (.op (.mv (.tmp 2))), none⟩,
          ⟨(some 20), (.op (.len .slice (.tmp 19))), none⟩,
          ⟨(some 21), (.op (.bin .eql (some .int) (.tmp 20) (.cst (.int .i64 0)))), none⟩,
          ⟨(some 22), (.op (.mv (.tmp 21))), none⟩,
          ⟨(some 23), (.op (.mv (.tmp 2))), (some (22, false))⟩,
          ⟨(some 24), (.op (.len .slice (.tmp 23))), (some (22, false))⟩,
          ⟨(some 25), (.op (.bin .gtr none (.tmp 24) (.cst (.int .i64 66000)))), (some (22, false))⟩,
          ⟨(some 26), (.op (.pick (.tmp 22) (.cst (.bool true)) (.tmp 25))), none⟩,
          ⟨(some 18), (.op (.mv (.tmp 26))), none⟩] [])
        (.cond (.tmp 18)
          (.seq (.region [
            ⟨(some 6), (.op (.mv (.cst .nilSlice))), none⟩,
            ⟨(some 7), (.op (.mv (.cst (.int .i64 22)))), none⟩] [])
          .ret)
          .skip)))))
    (.seq (.region [
      ⟨(some 27), (.op (.mv (.tmp 2))), none⟩,
      ⟨(some 28), (.op (.len .slice (.tmp 27))), none⟩,
      ⟨(some 29), (.call (.cst (.func (.func 48) [] [])) [(.tmp 28), (.cst (.int .i64 4))]), none⟩,
      ⟨(some 8), (.op (.mv (.tmp 29))), none⟩] [])
    (.seq (.region [
      ⟨(some 30), (.op (.mv (.tmp 8))), none⟩,
      ⟨(some 31), (.op (.mv (.tmp 0))), none⟩,
      ⟨(some 32), (.op (.mv (.tmp 1))), none⟩,
      ⟨(some 33), (.op (.mv (.tmp 2))), none⟩,
      ⟨(some 34), (.call (.cst (.func (.func 49) [] [])) [(.tmp 31), (.tmp 32), (.tmp 33)]), none⟩,
      ⟨(some 35), (.call (.cst (.func (.func 48) [] [])) [(.tmp 34), (.cst (.int .i64 4))]), none⟩,
      ⟨(some 36), (.op (.append 1 1 (.tmp 30) (.tmp 35))), none⟩,
      ⟨(some 8), (.op (.mv (.tmp 36))), none⟩] [])
    (.seq (.region [
      ⟨(some 37), (.op (.mv (.tmp 8))), none⟩,
      ⟨(some 38), (.op (.mv (.tmp 2))), none⟩,
      ⟨(some 39), (.op (.append 1 1 (.tmp 37) (.tmp 38))), none⟩,
      ⟨(some 6), (.op (.mv (.tmp 39))), none⟩,
      ⟨(some 7), (.op (.mv (.cst (.int .i64 0)))), none⟩] [])
    .ret)))))⟩
theorem c42 : cFn Try.prog [] Try.f42 = some h42 := by kernel_rfl
/-- (*stint/ledger.Ledger).needed -/
def h43 : HFn :=
  ⟨20, [(.tmp 4)],
    (.seq (.region [
      ⟨(some 4), (.op (.mv (.cst (.bool false)))), none⟩] [])
    (.seq (.seq (.region [
      ⟨(some 7), (.op (.mv (.tmp 0))), none⟩,
      ⟨(some 8), (.op (.nilc (.tmp 7))), none⟩,
      ⟨(some 9), (.op (.faddr 3 (.tmp 8))), none⟩,
      ⟨(some 10), (.op (.load none (.tmp 9))), none⟩,
      ⟨(some 11), (.op (.rangeMap (.tmp 10))), none⟩] [])
    (.block 0
      (.loop
        (.seq (.region [
          ⟨(some 12), (.next (.tmp 11)), none⟩,
          ⟨(some 13), (.op (.ext 0 (.tmp 12))), none⟩] [])
        (.seq (.cond (.tmp 13)
          .skip
          (.exit 0))
        (.block 1
          (.seq (.region [
            ⟨(some 14), (.op (.entry (.tmp 11))), none⟩,
            ⟨(some 15), (.op (.ext 1 (.tmp 14))), none⟩,
            ⟨(some 6), (.op (.box (.cst (.agg [(.int .i64 0), (.int .i64 0), (.int .i64 0), (.int .i64 0), (.int .i64 0), (.int .i64 0), (.int .i64 0), (.int .i64 0), (.int .i64 0), (.int .i64 0), (.int .i64 0), (.int .i64 0), (.int .i64 0), (.str []), .nilSlice, (.int .i64 0), (.int .i64 0)])))), none⟩,
            ⟨none, (.op (.store 17 (.tmp 6) (.tmp 15))), none⟩] [])
          (.seq (.region [
            ⟨(some 16), (.op (.faddr 15 (.tmp 6))), none⟩,
            ⟨(some 17), (.op (.load none (.tmp 16))), none⟩,
            ⟨(some 18), (.op (.mv (.tmp 1))), none⟩,
            ⟨(some 19), (.op (.bin .eql (some .int) (.tmp 17) (.tmp 18))), none⟩] [])
          (.cond (.tmp 19)
            (.seq (.region [
              ⟨(some 4), (.op (.mv (.cst (.bool true)))), none⟩] [])
            .ret)
            .skip)))))))))
    (.seq (.region [
      ⟨(some 4), (.op (.mv (.cst (.bool false)))), none⟩] [])
    .ret)))⟩
theorem c43 : cFn Try.prog [] Try.f43 = some h43 := by kernel_rfl
/-- slices.Clone[[]stint/ledger.paper,stint/ledger.paper] -/
def h44 : HFn :=
  ⟨8, [(.tmp 2)],
    (.seq (.region [
      ⟨(some 2), (.op (.mv (.cst .nilSlice))), none⟩] [])
    (.seq (.seq (.region [
      ⟨(some 3), (.op (.mv (.tmp 0))), none⟩,
      ⟨(some 4), (.op (.bin .eql (some .slice) (.tmp 3) (.cst .nilSlice))), none⟩] [])
    (.cond (.tmp 4)
      (.seq (.region [
        ⟨(some 2), (.op (.mv (.cst .nilSlice))), none⟩] [])
      .ret)
      .skip))
    (.seq (.region [
      ⟨(some 5), (.op (.bslice 2 0 [] [])), none⟩,
      ⟨(some 6), (.op (.mv (.tmp 0))), none⟩,
      ⟨(some 7), (.op (.append 2 16 (.tmp 5) (.tmp 6))), none⟩,
      ⟨(some 2), (.op (.mv (.tmp 7))), none⟩] [])
    .ret)))⟩
theorem c44 : cFn Try.prog [] Try.f44 = some h44 := by kernel_rfl
/-- strings.IndexByte -/
def h45 : HFn :=
  ⟨8, [(.tmp 4)],
    (.seq (.region [
      ⟨(some 4), (.op (.mv (.cst (.int .i64 0)))), none⟩] [])
    (.seq (.region [
      ⟨(some 5), (.op (.mv (.tmp 0))), none⟩,
      ⟨(some 6), (.op (.mv (.tmp 1))), none⟩,
      ⟨(some 7), (.call (.cst (.func (.func 50) [] [])) [(.tmp 5), (.tmp 6)]), none⟩,
      ⟨(some 4), (.op (.mv (.tmp 7))), none⟩] [])
    .ret))⟩
theorem c45 : cFn Try.prog [] Try.f45 = some h45 := by kernel_rfl
/-- stint/record.low -/
def h46 : HFn :=
  ⟨15, [(.tmp 2)],
    (.seq (.region [
      ⟨(some 2), (.op (.mv (.cst .nilSlice))), none⟩] [])
    (.seq (.region [
      ⟨(some 3), (.op (.mv (.cst .nilSlice))), none⟩] [])
    (.seq (.seq (.region [
      ⟨(some 4), (.op (.mv (.cst (.int .i64 0)))), none⟩] [])
    (.block 0
      (.loop
        (.seq (.region [
          ⟨(some 5), (.op (.bin .lss none (.tmp 4) (.cst (.int .i64 8)))), none⟩] [])
        (.seq (.cond (.tmp 5)
          .skip
          (.exit 0))
        (.seq (.block 1
          (.seq (.region [
            ⟨(some 6), (.op (.mv (.tmp 3))), none⟩,
            ⟨(some 7), (.op (.mv (.tmp 0))), none⟩,
            ⟨(some 8), (.op (.cInt .u8 (.tmp 7))), none⟩,
            ⟨(some 9), (.op (.bslice 1 1 [(.int .u8 0)] [(0, 1, (.tmp 8))])), none⟩,
            ⟨(some 10), (.op (.append 1 1 (.tmp 6) (.tmp 9))), none⟩,
            ⟨(some 3), (.op (.mv (.tmp 10))), none⟩] [])
          (.region [
            ⟨(some 11), (.op (.mv (.tmp 0))), none⟩,
            ⟨(some 12), (.op (.bin .shr none (.tmp 11) (.cst (.int .u64 8)))), none⟩,
            ⟨(some 0), (.op (.mv (.tmp 12))), none⟩] [])))
        (.region [
          ⟨(some 13), (.op (.bin .add none (.tmp 4) (.cst (.int .i64 1)))), none⟩,
          ⟨(some 4), (.op (.mv (.tmp 13))), none⟩] [])))))))
    (.seq (.region [
      ⟨(some 14), (.op (.mv (.tmp 3))), none⟩,
      ⟨(some 2), (.op (.mv (.tmp 14))), none⟩] [])
    .ret))))⟩
theorem c46 : cFn Try.prog [] Try.f46 = some h46 := by kernel_rfl
/-- stint/frame.placed -/
def h47 : HFn :=
  ⟨9, [(.tmp 2)],
    (.seq (.region [
      ⟨(some 2), (.op (.mv (.cst (.bool false)))), none⟩] [])
    (.seq (.region [
      ⟨(some 3), (.op (.mv (.tmp 0))), none⟩,
      ⟨(some 4), (.op (.bin .geq none (.tmp 3) (.cst (.int .i64 0)))), none⟩,
      ⟨(some 5), (.op (.mv (.tmp 4))), none⟩,
      ⟨(some 6), (.op (.mv (.tmp 0))), (some (5, true))⟩,
      ⟨(some 7), (.op (.bin .leq none (.tmp 6) (.cst (.int .i64 4611686018427387903)))), (some (5, true))⟩,
      ⟨(some 8), (.op (.pick (.tmp 5) (.tmp 7) (.cst (.bool false)))), none⟩,
      ⟨(some 2), (.op (.mv (.tmp 8))), none⟩] [])
    .ret))⟩
theorem c47 : cFn Try.prog [] Try.f47 = some h47 := by kernel_rfl
/-- stint/frame.laid -/
def h48 : HFn :=
  ⟨24, [(.tmp 4)],
    (.seq (.region [
      ⟨(some 4), (.op (.mv (.cst .nilSlice))), none⟩] [])
    (.seq (.region [
      ⟨(some 7), (.op (.mv (.tmp 1))), none⟩,
      ⟨(some 8), (.op (.mkSlice 1 1 [(.int .u8 0)] (.tmp 7) (.tmp 7))), none⟩,
      ⟨(some 5), (.op (.mv (.tmp 8))), none⟩] [])
    (.seq (.seq (.region [
      ⟨(some 9), (.op (.mv (.tmp 5))), none⟩,
      ⟨(some 10), (.op (.len .slice (.tmp 9))), none⟩,
      ⟨(some 11), (.op (.mv (.cst (.int .i64 0)))), none⟩] [])
    (.block 0
      (.loop
        (.seq (.region [
          ⟨(some 12), (.op (.bin .lss none (.tmp 11) (.tmp 10))), none⟩] [])
        (.seq (.cond (.tmp 12)
          .skip
          (.exit 0))
        (.seq (.block 1
          (.seq (.region [
            ⟨(some 13), (.op (.mv (.tmp 11))), none⟩,
            ⟨(some 6), (.op (.mv (.tmp 13))), none⟩] [])
          (.region [
            ⟨(some 14), (.op (.mv (.tmp 5))), none⟩,
            ⟨(some 15), (.op (.mv (.tmp 6))), none⟩,
            ⟨(some 16), (.op (.mv (.tmp 0))), none⟩,
            ⟨(some 17), (.op (.mv (.tmp 6))), none⟩,
            ⟨(some 18), (.op (.bin .mul none (.cst (.int .i64 8)) (.tmp 17))), none⟩,
            ⟨(some 19), (.op (.bin .shr none (.tmp 16) (.tmp 18))), none⟩,
            ⟨(some 20), (.op (.cInt .u8 (.tmp 19))), none⟩,
            ⟨(some 21), (.op (.idxS 1 (.tmp 14) (.tmp 15))), none⟩,
            ⟨none, (.op (.store 1 (.tmp 21) (.tmp 20))), none⟩] [])))
        (.region [
          ⟨(some 22), (.op (.bin .add none (.tmp 11) (.cst (.int .i64 1)))), none⟩,
          ⟨(some 11), (.op (.mv (.tmp 22))), none⟩] [])))))))
    (.seq (.region [
      ⟨(some 23), (.op (.mv (.tmp 5))), none⟩,
      ⟨(some 4), (.op (.mv (.tmp 23))), none⟩] [])
    .ret))))⟩
theorem c48 : cFn Try.prog [] Try.f48 = some h48 := by kernel_rfl
/-- stint/frame.sum -/
def h49 : HFn :=
  ⟨22, [(.tmp 6)],
    (.seq (.region [
      ⟨(some 6), (.op (.mv (.cst (.int .i64 0)))), none⟩] [])
    (.seq (.region [
      ⟨(some 9), (.call (.cst (.func (.func 51) [] [])) []), none⟩,
      ⟨(some 7), (.op (.box (.cst (.agg [(.int .u32 0), (.int .u32 0), (.int .u32 0), (.int .u32 0), (.int .u32 0), (.int .u32 0), (.int .u32 0), (.int .u32 0), (.int .u32 0), (.int .u32 0), (.int .u32 0), (.int .u32 0), (.int .u32 0), (.int .u32 0), (.int .u32 0), (.int .u32 0)])))), none⟩,
      ⟨none, (.op (.store 16 (.tmp 7) (.tmp 9))), none⟩] [])
    (.seq (.region [
      ⟨(some 10), (.op (.mv (.tmp 0))), none⟩,
      ⟨(some 11), (.call (.cst (.func (.func 48) [] [])) [(.tmp 10), (.cst (.int .i64 8))]), none⟩,
      ⟨(some 12), (.call (.cst (.func (.func 52) [] [])) [(.cst (.int .u32 4294967295)), (.tmp 7), (.tmp 11)]), none⟩,
      ⟨(some 8), (.op (.mv (.tmp 12))), none⟩] [])
    (.seq (.region [
      ⟨(some 13), (.op (.mv (.tmp 8))), none⟩,
      ⟨(some 14), (.op (.mv (.tmp 1))), none⟩,
      ⟨(some 15), (.call (.cst (.func (.func 48) [] [])) [(.tmp 14), (.cst (.int .i64 8))]), none⟩,
      ⟨(some 16), (.call (.cst (.func (.func 52) [] [])) [(.tmp 13), (.tmp 7), (.tmp 15)]), none⟩,
      ⟨(some 8), (.op (.mv (.tmp 16))), none⟩] [])
    (.seq (.region [
      ⟨(some 17), (.op (.mv (.tmp 8))), none⟩,
      ⟨(some 18), (.op (.mv (.tmp 2))), none⟩,
      ⟨(some 19), (.call (.cst (.func (.func 52) [] [])) [(.tmp 17), (.tmp 7), (.tmp 18)]), none⟩,
      ⟨(some 20), (.op (.un .xor (.tmp 19))), none⟩,
      ⟨(some 21), (.op (.cInt .i64 (.tmp 20))), none⟩,
      ⟨(some 6), (.op (.mv (.tmp 21))), none⟩] [])
    .ret)))))⟩
theorem c49 : cFn Try.prog [] Try.f49 = some h49 := by kernel_rfl
/-- internal/stringslite.IndexByte -/
def h50 : HFn :=
  ⟨8, [(.tmp 4)],
    (.seq (.region [
      ⟨(some 4), (.op (.mv (.cst (.int .i64 0)))), none⟩] [])
    (.seq (.region [
      ⟨(some 5), (.op (.mv (.tmp 0))), none⟩,
      ⟨(some 6), (.op (.mv (.tmp 1))), none⟩,
      ⟨(some 7), (.call (.cst (.func (.func 53) [] [])) [(.tmp 5), (.tmp 6)]), none⟩,
      ⟨(some 4), (.op (.mv (.tmp 7))), none⟩] [])
    .ret))⟩
theorem c50 : cFn Try.prog [] Try.f50 = some h50 := by kernel_rfl
/-- stint/frame.table -/
def h51 : HFn :=
  ⟨2, [(.cell 0 (some 16))],
    (.seq (.region [
      ⟨(some 0), (.op (.box (.cst (.agg [(.int .u32 0), (.int .u32 0), (.int .u32 0), (.int .u32 0), (.int .u32 0), (.int .u32 0), (.int .u32 0), (.int .u32 0), (.int .u32 0), (.int .u32 0), (.int .u32 0), (.int .u32 0), (.int .u32 0), (.int .u32 0), (.int .u32 0), (.int .u32 0)])))), none⟩] [])
    (.seq (.region [
      ⟨(some 1), (.op (.build [(.int .u32 0), (.int .u32 0), (.int .u32 0), (.int .u32 0), (.int .u32 0), (.int .u32 0), (.int .u32 0), (.int .u32 0), (.int .u32 0), (.int .u32 0), (.int .u32 0), (.int .u32 0), (.int .u32 0), (.int .u32 0), (.int .u32 0), (.int .u32 0)] [(0, 1, (.cst (.int .u32 0))), (1, 1, (.cst (.int .u32 498536548))), (2, 1, (.cst (.int .u32 997073096))), (3, 1, (.cst (.int .u32 651767980))), (4, 1, (.cst (.int .u32 1994146192))), (5, 1, (.cst (.int .u32 1802195444))), (6, 1, (.cst (.int .u32 1303535960))), (7, 1, (.cst (.int .u32 1342533948))), (8, 1, (.cst (.int .u32 3988292384))), (9, 1, (.cst (.int .u32 4027552580))), (10, 1, (.cst (.int .u32 3604390888))), (11, 1, (.cst (.int .u32 3412177804))), (12, 1, (.cst (.int .u32 2607071920))), (13, 1, (.cst (.int .u32 2262029012))), (14, 1, (.cst (.int .u32 2685067896))), (15, 1, (.cst (.int .u32 3183342108)))])), none⟩,
      ⟨none, (.op (.store 16 (.tmp 0) (.tmp 1))), none⟩] [])
    .ret))⟩
theorem c51 : cFn Try.prog [] Try.f51 = some h51 := by kernel_rfl
/-- stint/frame.over -/
def h52 : HFn :=
  ⟨39, [(.tmp 6)],
    (.seq (.region [
      ⟨(some 6), (.op (.mv (.cst (.int .u32 0)))), none⟩] [])
    (.seq (.seq (.region [
      ⟨(some 9), (.op (.mv (.tmp 2))), none⟩,
      ⟨(some 10), (.op (.len .slice (.tmp 9))), none⟩,
      ⟨(some 11), (.op (.mv (.cst (.int .i64 0)))), none⟩] [])
    (.block 0
      (.loop
        (.seq (.region [
          ⟨(some 12), (.op (.bin .lss none (.tmp 11) (.tmp 10))), none⟩] [])
        (.seq (.cond (.tmp 12)
          .skip
          (.exit 0))
        (.seq (.block 1
          (.seq (.region [
            ⟨(some 13), (.op (.idxS 1 (.tmp 9) (.tmp 11))), none⟩,
            ⟨(some 14), (.op (.load none (.tmp 13))), none⟩,
            ⟨(some 8), (.op (.mv (.tmp 14))), none⟩] [])
          (.seq (.region [
            ⟨(some 15), (.op (.mv (.tmp 0))), none⟩,
            ⟨(some 16), (.op (.mv (.tmp 8))), none⟩,
            ⟨(some 17), (.op (.cInt .u32 (.tmp 16))), none⟩,
            ⟨(some 18), (.op (.bin .xor none (.tmp 15) (.tmp 17))), none⟩,
            ⟨(some 0), (.op (.mv (.tmp 18))), none⟩] [])
          (.seq (.region [
            ⟨(some 19), (.op (.mv (.tmp 0))), none⟩,
            ⟨(some 20), (.op (.bin .shr none (.tmp 19) (.cst (.int .u64 4)))), none⟩,
            ⟨(some 21), (.op (.mv (.tmp 1))), none⟩,
            ⟨(some 22), (.op (.mv (.tmp 0))), none⟩,
            ⟨(some 23), (.op (.bin .and none (.tmp 22) (.cst (.int .u32 15)))), none⟩,
            ⟨(some 24), (.op (.nilc (.tmp 21))), none⟩,
            ⟨(some 25), (.op (.idxA 16 1 (.tmp 24) (.tmp 23))), none⟩,
            ⟨(some 26), (.op (.load none (.tmp 25))), none⟩,
            ⟨(some 27), (.op (.bin .xor none (.tmp 20) (.tmp 26))), none⟩,
            ⟨(some 0), (.op (.mv (.tmp 27))), none⟩] [])
          (.region [
            ⟨(some 28), (.op (.mv (.tmp 0))), none⟩,
            ⟨(some 29), (.op (.bin .shr none (.tmp 28) (.cst (.int .u64 4)))), none⟩,
            ⟨(some 30), (.op (.mv (.tmp 1))), none⟩,
            ⟨(some 31), (.op (.mv (.tmp 0))), none⟩,
            ⟨(some 32), (.op (.bin .and none (.tmp 31) (.cst (.int .u32 15)))), none⟩,
            ⟨(some 33), (.op (.nilc (.tmp 30))), none⟩,
            ⟨(some 34), (.op (.idxA 16 1 (.tmp 33) (.tmp 32))), none⟩,
            ⟨(some 35), (.op (.load none (.tmp 34))), none⟩,
            ⟨(some 36), (.op (.bin .xor none (.tmp 29) (.tmp 35))), none⟩,
            ⟨(some 0), (.op (.mv (.tmp 36))), none⟩] [])))))
        (.region [
          ⟨(some 37), (.op (.bin .add none (.tmp 11) (.cst (.int .i64 1)))), none⟩,
          ⟨(some 11), (.op (.mv (.tmp 37))), none⟩] [])))))))
    (.seq (.region [
      ⟨(some 38), (.op (.mv (.tmp 0))), none⟩,
      ⟨(some 6), (.op (.mv (.tmp 38))), none⟩] [])
    .ret)))⟩
theorem c52 : cFn Try.prog [] Try.f52 = some h52 := by kernel_rfl
def F : FuncId → Option HFn
  | 3 => some h3
  | 4 => some h4
  | 5 => some h5
  | 6 => some h6
  | 7 => some h7
  | 8 => some h8
  | 9 => some h9
  | 10 => some h10
  | 11 => some h11
  | 12 => some h12
  | 13 => some h13
  | 14 => some h14
  | 15 => some h15
  | 16 => some h16
  | 17 => some h17
  | 18 => some h18
  | 19 => some h19
  | 20 => some h20
  | 21 => some h21
  | 22 => some h22
  | 23 => some h23
  | 24 => some h24
  | 25 => some h25
  | 26 => some h26
  | 27 => some h27
  | 28 => some h28
  | 29 => some h29
  | 30 => some h30
  | 31 => some h31
  | 32 => some h32
  | 33 => some h33
  | 34 => some h34
  | 35 => some h35
  | 36 => some h36
  | 37 => some h37
  | 38 => some h38
  | 39 => some h39
  | 40 => some h40
  | 41 => some h41
  | 42 => some h42
  | 43 => some h43
  | 44 => some h44
  | 45 => some h45
  | 46 => some h46
  | 47 => some h47
  | 48 => some h48
  | 49 => some h49
  | 50 => some h50
  | 51 => some h51
  | 52 => some h52
  | _ => none
theorem F_ok : FOk Try.prog F := by
  intro f hf h
  unfold F at h
  split at h
  · simp at h; subst h; exact ⟨_, [], Try.func3, c3⟩
  · simp at h; subst h; exact ⟨_, [], Try.func4, c4⟩
  · simp at h; subst h; exact ⟨_, [], Try.func5, c5⟩
  · simp at h; subst h; exact ⟨_, [], Try.func6, c6⟩
  · simp at h; subst h; exact ⟨_, [], Try.func7, c7⟩
  · simp at h; subst h; exact ⟨_, [], Try.func8, c8⟩
  · simp at h; subst h; exact ⟨_, [], Try.func9, c9⟩
  · simp at h; subst h; exact ⟨_, [], Try.func10, c10⟩
  · simp at h; subst h; exact ⟨_, [], Try.func11, c11⟩
  · simp at h; subst h; exact ⟨_, [], Try.func12, c12⟩
  · simp at h; subst h; exact ⟨_, [], Try.func13, c13⟩
  · simp at h; subst h; exact ⟨_, [], Try.func14, c14⟩
  · simp at h; subst h; exact ⟨_, [], Try.func15, c15⟩
  · simp at h; subst h; exact ⟨_, [], Try.func16, c16⟩
  · simp at h; subst h; exact ⟨_, [], Try.func17, c17⟩
  · simp at h; subst h; exact ⟨_, [], Try.func18, c18⟩
  · simp at h; subst h; exact ⟨_, [], Try.func19, c19⟩
  · simp at h; subst h; exact ⟨_, [], Try.func20, c20⟩
  · simp at h; subst h; exact ⟨_, [], Try.func21, c21⟩
  · simp at h; subst h; exact ⟨_, [], Try.func22, c22⟩
  · simp at h; subst h; exact ⟨_, [], Try.func23, c23⟩
  · simp at h; subst h; exact ⟨_, [], Try.func24, c24⟩
  · simp at h; subst h; exact ⟨_, [], Try.func25, c25⟩
  · simp at h; subst h; exact ⟨_, [], Try.func26, c26⟩
  · simp at h; subst h; exact ⟨_, [], Try.func27, c27⟩
  · simp at h; subst h; exact ⟨_, [], Try.func28, c28⟩
  · simp at h; subst h; exact ⟨_, [], Try.func29, c29⟩
  · simp at h; subst h; exact ⟨_, [], Try.func30, c30⟩
  · simp at h; subst h; exact ⟨_, [], Try.func31, c31⟩
  · simp at h; subst h; exact ⟨_, [], Try.func32, c32⟩
  · simp at h; subst h; exact ⟨_, [], Try.func33, c33⟩
  · simp at h; subst h; exact ⟨_, [], Try.func34, c34⟩
  · simp at h; subst h; exact ⟨_, [], Try.func35, c35⟩
  · simp at h; subst h; exact ⟨_, [], Try.func36, c36⟩
  · simp at h; subst h; exact ⟨_, [], Try.func37, c37⟩
  · simp at h; subst h; exact ⟨_, [], Try.func38, c38⟩
  · simp at h; subst h; exact ⟨_, [], Try.func39, c39⟩
  · simp at h; subst h; exact ⟨_, [], Try.func40, c40⟩
  · simp at h; subst h; exact ⟨_, [], Try.func41, c41⟩
  · simp at h; subst h; exact ⟨_, [], Try.func42, c42⟩
  · simp at h; subst h; exact ⟨_, [], Try.func43, c43⟩
  · simp at h; subst h; exact ⟨_, [], Try.func44, c44⟩
  · simp at h; subst h; exact ⟨_, [], Try.func45, c45⟩
  · simp at h; subst h; exact ⟨_, [], Try.func46, c46⟩
  · simp at h; subst h; exact ⟨_, [], Try.func47, c47⟩
  · simp at h; subst h; exact ⟨_, [], Try.func48, c48⟩
  · simp at h; subst h; exact ⟨_, [], Try.func49, c49⟩
  · simp at h; subst h; exact ⟨_, [], Try.func50, c50⟩
  · simp at h; subst h; exact ⟨_, [], Try.func51, c51⟩
  · simp at h; subst h; exact ⟨_, [], Try.func52, c52⟩
  · simp at h
end Go.Proofs.Ytnpbfoniglifgaa
