import Derived.Test.YthokgpjlndmaaaaGreatDoorHLRound
import Derived.Test.YthokgpjlndmaaaaGreatDoorProg
import Derived.KernelRfl
/- The functions, turned (written by program, each checked by the kernel). -/
namespace Go.Proofs.YthokgpjlndmaaaaGreatDoor
open Go Go.HL
/-- stint/stintlaw21.JudgeNames -/
def h4 : HFn :=
  ⟨48, [(.tmp 0)],
    (.seq (.region [
      ⟨(some 0), (.op (.mv (.cst (.bool false)))), none⟩] [])
    (.seq (.region [
      ⟨(some 1), (.call (.cst (.func (.func 6) [] [])) []), none⟩,
      ⟨(some 2), (.op (.mv (.tmp 1))), none⟩,
      ⟨(some 3), (.op (.pick (.tmp 2) (.cst (.bool true)) (.cst (.bool false)))), none⟩,
      ⟨(some 4), (.op (.mv (.tmp 3))), none⟩,
      ⟨(some 5), (.op (.pick (.tmp 4) (.cst (.bool true)) (.cst (.bool false)))), none⟩,
      ⟨(some 6), (.op (.mv (.tmp 5))), none⟩,
      ⟨(some 7), (.op (.pick (.tmp 6) (.cst (.bool true)) (.cst (.bool false)))), none⟩,
      ⟨(some 8), (.op (.mv (.tmp 7))), none⟩,
      ⟨(some 9), (.op (.pick (.tmp 8) (.cst (.bool true)) (.cst (.bool false)))), none⟩,
      ⟨(some 10), (.op (.mv (.tmp 9))), none⟩,
      ⟨(some 11), (.op (.pick (.tmp 10) (.cst (.bool true)) (.cst (.bool false)))), none⟩,
      ⟨(some 12), (.op (.mv (.tmp 11))), none⟩,
      ⟨(some 13), (.op (.pick (.tmp 12) (.cst (.bool true)) (.cst (.bool false)))), none⟩,
      ⟨(some 14), (.op (.mv (.tmp 13))), none⟩,
      ⟨(some 15), (.op (.pick (.tmp 14) (.cst (.bool true)) (.cst (.bool false)))), none⟩,
      ⟨(some 16), (.op (.mv (.tmp 15))), none⟩,
      ⟨(some 17), (.op (.pick (.tmp 16) (.cst (.bool true)) (.cst (.bool false)))), none⟩,
      ⟨(some 18), (.op (.mv (.tmp 17))), none⟩,
      ⟨(some 19), (.op (.pick (.tmp 18) (.cst (.bool true)) (.cst (.bool false)))), none⟩,
      ⟨(some 20), (.op (.mv (.tmp 19))), none⟩,
      ⟨(some 21), (.op (.pick (.tmp 20) (.cst (.bool true)) (.cst (.bool false)))), none⟩,
      ⟨(some 22), (.op (.mv (.tmp 21))), none⟩,
      ⟨(some 23), (.op (.pick (.tmp 22) (.cst (.bool true)) (.cst (.bool false)))), none⟩,
      ⟨(some 24), (.op (.mv (.tmp 23))), none⟩,
      ⟨(some 25), (.op (.pick (.tmp 24) (.cst (.bool true)) (.cst (.bool false)))), none⟩,
      ⟨(some 26), (.op (.mv (.tmp 25))), none⟩,
      ⟨(some 27), (.op (.pick (.tmp 26) (.cst (.bool true)) (.cst (.bool false)))), none⟩,
      ⟨(some 28), (.op (.mv (.tmp 27))), none⟩,
      ⟨(some 29), (.op (.pick (.tmp 28) (.cst (.bool true)) (.cst (.bool false)))), none⟩,
      ⟨(some 30), (.op (.mv (.tmp 29))), none⟩,
      ⟨(some 31), (.op (.pick (.tmp 30) (.cst (.bool true)) (.cst (.bool false)))), none⟩,
      ⟨(some 32), (.op (.mv (.tmp 31))), none⟩,
      ⟨(some 33), (.op (.pick (.tmp 32) (.cst (.bool true)) (.cst (.bool false)))), none⟩,
      ⟨(some 34), (.op (.mv (.tmp 33))), none⟩,
      ⟨(some 35), (.op (.pick (.tmp 34) (.cst (.bool true)) (.cst (.bool false)))), none⟩,
      ⟨(some 36), (.op (.mv (.tmp 35))), none⟩,
      ⟨(some 37), (.op (.pick (.tmp 36) (.cst (.bool true)) (.cst (.bool false)))), none⟩,
      ⟨(some 38), (.op (.mv (.tmp 37))), none⟩,
      ⟨(some 39), (.op (.pick (.tmp 38) (.cst (.bool true)) (.cst (.bool false)))), none⟩,
      ⟨(some 40), (.op (.mv (.tmp 39))), none⟩,
      ⟨(some 41), (.op (.pick (.tmp 40) (.cst (.bool true)) (.cst (.bool false)))), none⟩,
      ⟨(some 42), (.op (.mv (.tmp 41))), none⟩,
      ⟨(some 43), (.op (.pick (.tmp 42) (.cst (.bool true)) (.cst (.bool false)))), none⟩,
      ⟨(some 44), (.op (.mv (.tmp 43))), none⟩,
      ⟨(some 45), (.op (.pick (.tmp 44) (.cst (.bool true)) (.cst (.bool false)))), none⟩,
      ⟨(some 46), (.op (.mv (.tmp 45))), none⟩,
      ⟨(some 47), (.op (.pick (.tmp 46) (.cst (.bool true)) (.cst (.bool false)))), none⟩,
      ⟨(some 0), (.op (.mv (.tmp 47))), none⟩] [])
    .ret))⟩
theorem c4 : cFn Tryz.prog [] Tryz.f4 = some h4 := by kernel_rfl
/-- stint/stintlaw21.shown -/
def h6 : HFn :=
  ⟨73, [(.tmp 0)],
    (.seq (.region [
      ⟨(some 0), (.op (.mv (.cst (.bool false)))), none⟩] [])
    (.seq (.region [
      ⟨(some 9), (.op (.build [(.int .i64 0), (.int .i64 0), .nilSlice, (.int .i64 0), (.int .i64 0)] [(0, 1, (.cst (.int .i64 1))), (1, 1, (.cst (.int .i64 1)))])), none⟩,
      ⟨(some 10), (.op (.bslice 1 16 [(.int .u8 0), (.int .u8 0), (.int .u8 0), (.int .u8 0), (.int .u8 0), (.int .u8 0), (.int .u8 0), (.int .u8 0), (.int .u8 0), (.int .u8 0), (.int .u8 0), (.int .u8 0), (.int .u8 0), (.int .u8 0), (.int .u8 0), (.int .u8 0)] [(0, 1, (.cst (.int .u8 112))), (1, 1, (.cst (.int .u8 117))), (2, 1, (.cst (.int .u8 116))), (3, 1, (.cst (.int .u8 32))), (4, 1, (.cst (.int .u8 53))), (5, 1, (.cst (.int .u8 32))), (6, 1, (.cst (.int .u8 48))), (7, 1, (.cst (.int .u8 32))), (8, 1, (.cst (.int .u8 57))), (9, 1, (.cst (.int .u8 32))), (10, 1, (.cst (.int .u8 49))), (11, 1, (.cst (.int .u8 13))), (12, 1, (.cst (.int .u8 10))), (13, 1, (.cst (.int .u8 97))), (14, 1, (.cst (.int .u8 13))), (15, 1, (.cst (.int .u8 10)))])), none⟩,
      ⟨(some 11), (.op (.mark (.tmp 10))), none⟩,
      ⟨(some 12), (.op (.build [(.int .i64 0), (.int .i64 0), .nilSlice, (.int .i64 0), (.int .i64 0)] [(0, 1, (.cst (.int .i64 2))), (1, 1, (.cst (.int .i64 1))), (2, 1, (.tmp 11))])), none⟩,
      ⟨(some 13), (.op (.build [(.int .i64 0), (.int .i64 0), .nilSlice, (.int .i64 0), (.int .i64 0)] [(0, 1, (.cst (.int .i64 10))), (1, 1, (.cst (.int .i64 1)))])), none⟩,
      ⟨(some 14), (.op (.bslice 1 12 [(.int .u8 0), (.int .u8 0), (.int .u8 0), (.int .u8 0), (.int .u8 0), (.int .u8 0), (.int .u8 0), (.int .u8 0), (.int .u8 0), (.int .u8 0), (.int .u8 0), (.int .u8 0)] [(0, 1, (.cst (.int .u8 73))), (1, 1, (.cst (.int .u8 78))), (2, 1, (.cst (.int .u8 83))), (3, 1, (.cst (.int .u8 69))), (4, 1, (.cst (.int .u8 82))), (5, 1, (.cst (.int .u8 84))), (6, 1, (.cst (.int .u8 69))), (7, 1, (.cst (.int .u8 68))), (8, 1, (.cst (.int .u8 32))), (9, 1, (.cst (.int .u8 49))), (10, 1, (.cst (.int .u8 13))), (11, 1, (.cst (.int .u8 10)))])), none⟩,
      ⟨(some 15), (.op (.mark (.tmp 14))), none⟩,
      ⟨(some 16), (.op (.build [(.int .i64 0), (.int .i64 0), .nilSlice, (.int .i64 0), (.int .i64 0)] [(0, 1, (.cst (.int .i64 3))), (1, 1, (.cst (.int .i64 1))), (2, 1, (.tmp 15))])), none⟩,
      ⟨(some 17), (.op (.bslice 5 4 [(.int .i64 0), (.int .i64 0), .nilSlice, (.int .i64 0), (.int .i64 0), (.int .i64 0), (.int .i64 0), .nilSlice, (.int .i64 0), (.int .i64 0), (.int .i64 0), (.int .i64 0), .nilSlice, (.int .i64 0), (.int .i64 0), (.int .i64 0), (.int .i64 0), .nilSlice, (.int .i64 0), (.int .i64 0)] [(0, 5, (.tmp 9)), (5, 5, (.tmp 12)), (10, 5, (.tmp 13)), (15, 5, (.tmp 16))])), none⟩,
      ⟨(some 1), (.op (.mv (.tmp 17))), none⟩] [])
    (.seq (.region [
      ⟨(some 19), (.call (.cst (.func (.func 10) [] [])) []), none⟩,
      ⟨(some 20), (.op (.mv (.tmp 1))), none⟩,
      ⟨(some 21), (.call (.cst (.func (.func 8) [] [])) [(.tmp 19), (.tmp 20)]), none⟩,
      ⟨(some 18), (.op (.mv (.tmp 21))), none⟩,
      ⟨(some 22), (.op (.ext 0 (.tmp 18))), none⟩,
      ⟨(some 23), (.op (.ext 1 (.tmp 18))), none⟩,
      ⟨(some 2), (.op (.mv (.tmp 22))), none⟩,
      ⟨(some 3), (.op (.mv (.tmp 23))), none⟩] [])
    (.seq (.tree [
      ⟨(some 25), (.call (.cst (.func (.func 10) [] [])) []), none⟩,
      ⟨(some 26), (.op (.mv (.tmp 1))), none⟩,
      ⟨(some 27), (.op (.mv (.tmp 1))), none⟩,
      ⟨(some 28), (.op (.idxS 5 (.tmp 27) (.cst (.int .i64 3)))), none⟩,
      ⟨(some 29), (.op (.load (some 5) (.tmp 28))), none⟩,
      ⟨(some 30), (.op (.bslice 5 1 [(.int .i64 0), (.int .i64 0), .nilSlice, (.int .i64 0), (.int .i64 0)] [(0, 5, (.tmp 29))])), none⟩,
      ⟨(some 31), (.op (.append 5 56 (.tmp 26) (.tmp 30))), none⟩,
      ⟨(some 32), (.call (.cst (.func (.func 8) [] [])) [(.tmp 25), (.tmp 31)]), none⟩,
      ⟨(some 24), (.op (.mv (.tmp 32))), none⟩,
      ⟨(some 33), (.op (.ext 0 (.tmp 24))), none⟩,
      ⟨(some 34), (.op (.ext 1 (.tmp 24))), none⟩,
      ⟨(some 4), (.op (.mv (.tmp 33))), none⟩,
      ⟨(some 5), (.op (.mv (.tmp 34))), none⟩] [1, 2, 3, 4, 0, 5, 6, 7, 8, 9, 10, 11, 12] [[], [], [], [2], [3], [4], [1, 5, 0], [0, 6, 6], [7], [8], [8], [9, 7, 0, 1, 2, 3, 4, 5, 6, 7, 8, 9], [10, 11, 0, 1, 2, 3, 4, 5, 6, 7, 8, 9, 10, 11]] [[], [], [], [], [], [4, 3], [4, 3], [4, 3], [], [], [], [], []] [])
    (.seq (.region [
      ⟨(some 36), (.call (.cst (.func (.func 10) [] [])) []), none⟩,
      ⟨(some 37), (.op (.mv (.tmp 1))), none⟩,
      ⟨(some 38), (.call (.cst (.func (.func 11) [] [])) [(.tmp 36), (.tmp 37)]), none⟩,
      ⟨(some 35), (.op (.mv (.tmp 38))), none⟩,
      ⟨(some 39), (.op (.ext 0 (.tmp 35))), none⟩,
      ⟨(some 40), (.op (.ext 1 (.tmp 35))), none⟩,
      ⟨(some 41), (.op (.ext 2 (.tmp 35))), none⟩,
      ⟨(some 6), (.op (.box (.cst (.agg [(.int .i64 0), (.int .i64 0), (.int .i64 0)])))), none⟩,
      ⟨none, (.op (.store 3 (.tmp 6) (.tmp 39))), none⟩,
      ⟨(some 7), (.op (.mv (.tmp 40))), none⟩,
      ⟨(some 8), (.op (.mv (.tmp 41))), none⟩] [])
    (.seq (.region [
      ⟨(some 42), (.op (.mv (.tmp 3))), none⟩,
      ⟨(some 43), (.op (.bin .eql (some .int) (.tmp 42) (.cst (.int .i64 0)))), none⟩,
      ⟨(some 44), (.op (.mv (.tmp 43))), none⟩,
      ⟨(some 45), (.op (.mv (.tmp 5))), (some (44, true))⟩,
      ⟨(some 46), (.op (.bin .eql (some .int) (.tmp 45) (.cst (.int .i64 0)))), (some (44, true))⟩,
      ⟨(some 47), (.op (.pick (.tmp 44) (.tmp 46) (.cst (.bool false)))), none⟩,
      ⟨(some 48), (.op (.mv (.tmp 47))), none⟩,
      ⟨(some 49), (.op (.mv (.tmp 8))), (some (48, true))⟩,
      ⟨(some 50), (.op (.bin .eql (some .int) (.tmp 49) (.cst (.int .i64 0)))), (some (48, true))⟩,
      ⟨(some 51), (.op (.pick (.tmp 48) (.tmp 50) (.cst (.bool false)))), none⟩,
      ⟨(some 52), (.op (.mv (.tmp 51))), none⟩,
      ⟨(some 53), (.op (.mv (.tmp 7))), (some (52, true))⟩,
      ⟨(some 54), (.op (.un .not (.tmp 53))), (some (52, true))⟩,
      ⟨(some 55), (.op (.pick (.tmp 52) (.tmp 54) (.cst (.bool false)))), none⟩,
      ⟨(some 56), (.op (.mv (.tmp 55))), none⟩,
      ⟨(some 57), (.op (.mv (.tmp 2))), (some (56, true))⟩,
      ⟨(some 58), (.op (.len .slice (.tmp 57))), (some (56, true))⟩,
      ⟨(some 59), (.op (.bin .eql (some .int) (.tmp 58) (.cst (.int .i64 0)))), (some (56, true))⟩,
      ⟨(some 60), (.op (.pick (.tmp 56) (.tmp 59) (.cst (.bool false)))), none⟩,
      ⟨(some 61), (.op (.mv (.tmp 60))), none⟩,
      ⟨(some 62), (.op (.mv (.tmp 4))), (some (61, true))⟩,
      ⟨(some 63), (.op (.len .slice (.tmp 62))), (some (61, true))⟩,
      ⟨(some 64), (.op (.bin .eql (some .int) (.tmp 63) (.cst (.int .i64 1)))), (some (61, true))⟩,
      ⟨(some 65), (.op (.pick (.tmp 61) (.tmp 64) (.cst (.bool false)))), none⟩,
      ⟨(some 66), (.op (.mv (.tmp 65))), none⟩,
      ⟨(some 67), (.op (.mv (.tmp 4))), (some (66, true))⟩,
      ⟨(some 68), (.op (.idxS 3 (.tmp 67) (.cst (.int .i64 0)))), (some (66, true))⟩,
      ⟨(some 69), (.op (.load (some 3) (.tmp 68))), (some (66, true))⟩,
      ⟨(some 70), (.op (.build [(.int .i64 0), (.int .i64 0), (.int .i64 0)] [(0, 1, (.cst (.int .i64 4))), (1, 1, (.cst (.int .i64 2)))])), (some (66, true))⟩,
      ⟨(some 71), (.op (.bin .eql (some (.struct [(0, none, .int), (1, none, .int), (2, none, .int)])) (.tmp 69) (.tmp 70))), (some (66, true))⟩,
      ⟨(some 72), (.op (.pick (.tmp 66) (.tmp 71) (.cst (.bool false)))), none⟩,
      ⟨(some 0), (.op (.mv (.tmp 72))), none⟩] [])
    .ret))))))⟩
theorem c6 : cFn Tryz.prog [] Tryz.f6 = some h6 := by kernel_rfl
/-- stint/judge.All -/
def h8 : HFn :=
  ⟨88, [(.tmp 4), (.tmp 5)],
    (.seq (.region [
      ⟨(some 2), (.op (.box (.tmp 0))), none⟩,
      ⟨(some 4), (.op (.mv (.cst .nilSlice))), none⟩,
      ⟨(some 5), (.op (.mv (.cst (.int .i64 0)))), none⟩] [])
    (.seq (.seq (.region [
      ⟨(some 14), (.op (.load (some 3) (.tmp 2))), none⟩,
      ⟨(some 15), (.call (.cst (.func (.func 12) [] [])) [(.tmp 14)]), none⟩,
      ⟨(some 6), (.op (.mv (.tmp 15))), none⟩] [])
    (.seq (.region [
      ⟨(some 16), (.op (.mv (.tmp 6))), none⟩,
      ⟨(some 17), (.op (.bin .neq (some .int) (.tmp 16) (.cst (.int .i64 0)))), none⟩] [])
    (.cond (.tmp 17)
      (.seq (.region [
        ⟨(some 18), (.op (.mv (.tmp 6))), none⟩,
        ⟨(some 4), (.op (.mv (.cst .nilSlice))), none⟩,
        ⟨(some 5), (.op (.mv (.tmp 18))), none⟩] [])
      .ret)
      .skip)))
    (.seq (.seq (.region [
      ⟨(some 19), (.op (.mv (.tmp 1))), none⟩,
      ⟨(some 20), (.op (.len .slice (.tmp 19))), none⟩,
      ⟨(some 21), (.op (.bin .gtr none (.tmp 20) (.cst (.int .i64 65536)))), none⟩] [])
    (.cond (.tmp 21)
      (.seq (.region [
        ⟨(some 4), (.op (.mv (.cst .nilSlice))), none⟩,
        ⟨(some 5), (.op (.mv (.cst (.int .i64 210)))), none⟩] [])
      .ret)
      .skip))
    (.seq (.seq (.region [
      ⟨(some 22), (.op (.mv (.tmp 1))), none⟩,
      ⟨(some 23), (.op (.len .slice (.tmp 22))), none⟩,
      ⟨(some 24), (.op (.mv (.cst (.int .i64 0)))), none⟩] [])
    (.block 0
      (.loop
        (.seq (.region [
          ⟨(some 25), (.op (.bin .lss none (.tmp 24) (.tmp 23))), none⟩] [])
        (.seq (.cond (.tmp 25)
          .skip
          (.exit 0))
        (.seq (.block 1
          (.seq (.region [
            ⟨(some 26), (.op (.idxS 5 (.tmp 22) (.tmp 24))), none⟩,
            ⟨(some 27), (.op (.load (some 5) (.tmp 26))), none⟩,
            ⟨(some 8), (.op (.box (.cst (.agg [(.int .i64 0), (.int .i64 0), .nilSlice, (.int .i64 0), (.int .i64 0)])))), none⟩,
            ⟨none, (.op (.store 5 (.tmp 8) (.tmp 27))), none⟩] [])
          (.seq (.region [
            ⟨(some 28), (.op (.load (some 5) (.tmp 8))), none⟩,
            ⟨(some 29), (.call (.cst (.func (.func 13) [] [])) [(.tmp 28)]), none⟩,
            ⟨(some 30), (.op (.un .not (.tmp 29))), none⟩] [])
          (.cond (.tmp 30)
            (.seq (.region [
              ⟨(some 4), (.op (.mv (.cst .nilSlice))), none⟩,
              ⟨(some 5), (.op (.mv (.cst (.int .i64 210)))), none⟩] [])
            .ret)
            .skip))))
        (.region [
          ⟨(some 31), (.op (.bin .add none (.tmp 24) (.cst (.int .i64 1)))), none⟩,
          ⟨(some 24), (.op (.mv (.tmp 31))), none⟩] [])))))))
    (.seq (.region [
      ⟨(some 32), (.op (.load (some 3) (.tmp 2))), none⟩,
      ⟨(some 33), (.op .mkMap), none⟩,
      ⟨(some 34), (.op .mkMap), none⟩,
      ⟨(some 35), (.op .mkMap), none⟩,
      ⟨(some 36), (.op .mkMap), none⟩,
      ⟨(some 37), (.op (.build [(.int .i64 0), (.int .i64 0), (.int .i64 0), (.int .i64 0), (.bool false), .nilMap, .nilMap, .nilMap, .nilMap, .nilSlice, (.int .i64 0), .nilSlice, (.int .i64 0), .nilPtr, .nilPtr, .nilPtr, .nilPtr, .nilPtr, .nilPtr, .nilPtr, .nilPtr, .nilPtr, .nilPtr, .nilPtr] [(0, 3, (.tmp 32)), (5, 1, (.tmp 33)), (6, 1, (.tmp 34)), (7, 1, (.tmp 35)), (8, 1, (.tmp 36))])), none⟩,
      ⟨(some 38), (.op (.box (.tmp 37))), none⟩,
      ⟨(some 9), (.op (.mv (.tmp 38))), none⟩] [])
    (.seq (.seq (.region [
      ⟨(some 39), (.op (.mv (.tmp 1))), none⟩,
      ⟨(some 40), (.op (.len .slice (.tmp 39))), none⟩,
      ⟨(some 41), (.op (.mv (.cst (.int .i64 0)))), none⟩] [])
    (.block 2
      (.loop
        (.seq (.region [
          ⟨(some 42), (.op (.bin .lss none (.tmp 41) (.tmp 40))), none⟩] [])
        (.seq (.cond (.tmp 42)
          .skip
          (.exit 2))
        (.seq (.block 3
          (.seq (.region [
            ⟨(some 43), (.op (.mv (.tmp 41))), none⟩,
            ⟨(some 44), (.op (.idxS 5 (.tmp 39) (.tmp 41))), none⟩,
            ⟨(some 45), (.op (.load (some 5) (.tmp 44))), none⟩,
            ⟨(some 11), (.op (.box (.cst (.agg [(.int .i64 0), (.int .i64 0), .nilSlice, (.int .i64 0), (.int .i64 0)])))), none⟩,
            ⟨(some 10), (.op (.mv (.tmp 43))), none⟩,
            ⟨none, (.op (.store 5 (.tmp 11) (.tmp 45))), none⟩] [])
          (.seq (.region [
            ⟨(some 46), (.op (.mv (.tmp 9))), none⟩,
            ⟨(some 47), (.op (.mv (.tmp 10))), none⟩,
            ⟨(some 48), (.op (.nilc (.tmp 46))), none⟩,
            ⟨(some 49), (.op (.faddr 12 (.tmp 48))), none⟩,
            ⟨none, (.op (.store 1 (.tmp 49) (.tmp 47))), none⟩] [])
          (.seq (.region [
            ⟨(some 50), (.op (.mv (.tmp 9))), none⟩,
            ⟨(some 51), (.op (.load (some 5) (.tmp 11))), none⟩,
            ⟨(some 52), (.call (.cst (.func (.func 14) [] [])) [(.tmp 50), (.tmp 51)]), none⟩] [])
          (.seq (.seq (.region [
            ⟨(some 53), (.op (.mv (.tmp 9))), none⟩,
            ⟨(some 54), (.op (.nilc (.tmp 53))), none⟩,
            ⟨(some 55), (.op (.faddr 13 (.tmp 54))), none⟩,
            ⟨(some 56), (.op (.load (some 11) (.tmp 55))), none⟩,
            ⟨(some 57), (.op (.mv (.cst (.int .i64 0)))), none⟩] [])
          (.block 4
            (.loop
              (.seq (.region [
                ⟨(some 58), (.op (.bin .lss none (.tmp 57) (.cst (.int .i64 11)))), none⟩] [])
              (.seq (.cond (.tmp 58)
                .skip
                (.exit 4))
              (.seq (.block 5
                (.seq (.region [
                  ⟨(some 59), (.op (.mv (.tmp 57))), none⟩,
                  ⟨(some 60), (.op (.idxV 11 1 none (.tmp 56) (.tmp 57))), none⟩,
                  ⟨(some 12), (.op (.mv (.tmp 59))), none⟩,
                  ⟨(some 13), (.op (.mv (.tmp 60))), none⟩] [])
                (.seq (.region [
                  ⟨(some 61), (.op (.mv (.tmp 13))), none⟩,
                  ⟨(some 62), (.op (.bin .neq (some .ptrN) (.tmp 61) (.cst .nilPtr))), none⟩] [])
                (.cond (.tmp 62)
                  (.draw [
                    ⟨(some 63), (.op (.mv (.tmp 9))), none⟩,
                    ⟨(some 64), (.op (.mv (.tmp 9))), none⟩,
                    ⟨(some 65), (.op (.nilc (.tmp 64))), none⟩,
                    ⟨(some 66), (.op (.faddr 11 (.tmp 65))), none⟩,
                    ⟨(some 67), (.op (.load none (.tmp 66))), none⟩,
                    ⟨(some 68), (.op (.mv (.tmp 10))), none⟩,
                    ⟨(some 69), (.op (.mv (.tmp 12))), none⟩,
                    ⟨(some 70), (.op (.mv (.tmp 13))), none⟩,
                    ⟨(some 71), (.op (.nilc (.tmp 70))), none⟩,
                    ⟨(some 72), (.op (.load none (.tmp 71))), none⟩,
                    ⟨(some 73), (.op (.build [(.int .i64 0), (.int .i64 0), (.int .i64 0)] [(0, 1, (.tmp 68)), (1, 1, (.tmp 69)), (2, 1, (.tmp 72))])), none⟩,
                    ⟨(some 74), (.op (.bslice 3 1 [(.int .i64 0), (.int .i64 0), (.int .i64 0)] [(0, 3, (.tmp 73))])), none⟩,
                    ⟨(some 75), (.op (.append 3 24 (.tmp 67) (.tmp 74))), none⟩,
                    ⟨(some 76), (.op (.nilc (.tmp 63))), none⟩,
                    ⟨(some 77), (.op (.faddr 11 (.tmp 76))), none⟩,
                    ⟨none, (.op (.store 1 (.tmp 77) (.tmp 75))), none⟩] [0, 1, 2, 3, 4, 5, 6, 7, 8, 9, 10, 11, 12, 13, 14, 15] [[], [], [], [], [], [], [], [], [], [], [], [9], [4, 9], [], [], [4, 9]] [])
                  .skip))))
              (.region [
                ⟨(some 78), (.op (.bin .add none (.tmp 57) (.cst (.int .i64 1)))), none⟩,
                ⟨(some 57), (.op (.mv (.tmp 78))), none⟩] [])))))))
          (.region [
            ⟨(some 79), (.op (.mv (.tmp 9))), none⟩,
            ⟨(some 80), (.op (.build [.nilPtr, .nilPtr, .nilPtr, .nilPtr, .nilPtr, .nilPtr, .nilPtr, .nilPtr, .nilPtr, .nilPtr, .nilPtr] [])), none⟩,
            ⟨(some 81), (.op (.nilc (.tmp 79))), none⟩,
            ⟨(some 82), (.op (.faddr 13 (.tmp 81))), none⟩,
            ⟨none, (.op (.store 11 (.tmp 82) (.tmp 80))), none⟩] []))))))
        (.region [
          ⟨(some 83), (.op (.bin .add none (.tmp 41) (.cst (.int .i64 1)))), none⟩,
          ⟨(some 41), (.op (.mv (.tmp 83))), none⟩] [])))))))
    (.seq (.region [
      ⟨(some 84), (.op (.mv (.tmp 9))), none⟩,
      ⟨(some 85), (.op (.nilc (.tmp 84))), none⟩,
      ⟨(some 86), (.op (.faddr 11 (.tmp 85))), none⟩,
      ⟨(some 87), (.op (.load none (.tmp 86))), none⟩,
      ⟨(some 4), (.op (.mv (.tmp 87))), none⟩,
      ⟨(some 5), (.op (.mv (.cst (.int .i64 0)))), none⟩] [])
    .ret)))))))⟩
theorem c8 : cFn Tryz.prog [] Tryz.f8 = some h8 := by kernel_rfl
/-- stint/stintlaw21.config -/
def h10 : HFn :=
  ⟨2, [(.cell 0 (some 3))],
    (.seq (.region [
      ⟨(some 0), (.op (.box (.cst (.agg [(.int .i64 0), (.int .i64 0), (.int .i64 0)])))), none⟩] [])
    (.seq (.region [
      ⟨(some 1), (.op (.build [(.int .i64 0), (.int .i64 0), (.int .i64 0)] [(0, 1, (.cst (.int .i64 100))), (1, 1, (.cst (.int .i64 256))), (2, 1, (.cst (.int .i64 4096)))])), none⟩,
      ⟨none, (.op (.store 3 (.tmp 0) (.tmp 1))), none⟩] [])
    .ret))⟩
theorem c10 : cFn Tryz.prog [] Tryz.f10 = some h10 := by kernel_rfl
/-- stint/judge.First -/
def h11 : HFn :=
  ⟨23, [(.cell 4 (some 3)), (.tmp 5), (.tmp 6)],
    (.seq (.region [
      ⟨(some 2), (.op (.box (.tmp 0))), none⟩,
      ⟨(some 4), (.op (.box (.cst (.agg [(.int .i64 0), (.int .i64 0), (.int .i64 0)])))), none⟩,
      ⟨(some 5), (.op (.mv (.cst (.bool false)))), none⟩,
      ⟨(some 6), (.op (.mv (.cst (.int .i64 0)))), none⟩] [])
    (.seq (.region [
      ⟨(some 10), (.op (.load (some 3) (.tmp 2))), none⟩,
      ⟨(some 11), (.op (.mv (.tmp 1))), none⟩,
      ⟨(some 12), (.call (.cst (.func (.func 8) [] [])) [(.tmp 10), (.tmp 11)]), none⟩,
      ⟨(some 9), (.op (.mv (.tmp 12))), none⟩,
      ⟨(some 13), (.op (.ext 0 (.tmp 9))), none⟩,
      ⟨(some 14), (.op (.ext 1 (.tmp 9))), none⟩,
      ⟨(some 7), (.op (.mv (.tmp 13))), none⟩,
      ⟨(some 8), (.op (.mv (.tmp 14))), none⟩] [])
    (.seq (.seq (.region [
      ⟨(some 15), (.op (.mv (.tmp 7))), none⟩,
      ⟨(some 16), (.op (.len .slice (.tmp 15))), none⟩,
      ⟨(some 17), (.op (.bin .eql (some .int) (.tmp 16) (.cst (.int .i64 0)))), none⟩] [])
    (.cond (.tmp 17)
      (.seq (.region [
        ⟨(some 18), (.op (.build [(.int .i64 0), (.int .i64 0), (.int .i64 0)] [])), none⟩,
        ⟨(some 19), (.op (.mv (.tmp 8))), none⟩,
        ⟨none, (.op (.store 3 (.tmp 4) (.tmp 18))), none⟩,
        ⟨(some 5), (.op (.mv (.cst (.bool false)))), none⟩,
        ⟨(some 6), (.op (.mv (.tmp 19))), none⟩] [])
      .ret)
      .skip))
    (.seq (.region [
      ⟨(some 20), (.op (.mv (.tmp 7))), none⟩,
      ⟨(some 21), (.op (.idxS 3 (.tmp 20) (.cst (.int .i64 0)))), none⟩,
      ⟨(some 22), (.op (.load (some 3) (.tmp 21))), none⟩,
      ⟨none, (.op (.store 3 (.tmp 4) (.tmp 22))), none⟩,
      ⟨(some 5), (.op (.mv (.cst (.bool true)))), none⟩,
      ⟨(some 6), (.op (.mv (.cst (.int .i64 0)))), none⟩] [])
    .ret))))⟩
theorem c11 : cFn Tryz.prog [] Tryz.f11 = some h11 := by kernel_rfl
/-- stint/record.CheckConfig -/
def h12 : HFn :=
  ⟨27, [(.tmp 2)],
    (.seq (.region [
      ⟨(some 1), (.op (.box (.tmp 0))), none⟩,
      ⟨(some 2), (.op (.mv (.cst (.int .i64 0)))), none⟩] [])
    (.seq (.region [
      ⟨(some 4), (.op (.faddr 0 (.tmp 1))), none⟩,
      ⟨(some 5), (.op (.load none (.tmp 4))), none⟩,
      ⟨(some 6), (.call (.cst (.func (.func 15) [] [])) [(.tmp 5), (.cst (.int .i64 1)), (.cst (.int .i64 65535))]), none⟩,
      ⟨(some 7), (.op (.mv (.tmp 6))), none⟩,
      ⟨(some 8), (.op (.faddr 1 (.tmp 1))), (some (7, true))⟩,
      ⟨(some 9), (.op (.load none (.tmp 8))), (some (7, true))⟩,
      ⟨(some 10), (.call (.cst (.func (.func 15) [] [])) [(.tmp 9), (.cst (.int .i64 128)), (.cst (.int .i64 1048576))]), (some (7, true))⟩,
      ⟨(some 11), (.op (.pick (.tmp 7) (.tmp 10) (.cst (.bool false)))), none⟩,
      ⟨(some 12), (.op (.mv (.tmp 11))), none⟩,
      ⟨(some 13), (.op (.faddr 2 (.tmp 1))), (some (12, true))⟩,
      ⟨(some 14), (.op (.load none (.tmp 13))), (some (12, true))⟩,
      ⟨(some 15), (.call (.cst (.func (.func 15) [] [])) [(.tmp 14), (.cst (.int .i64 1024)), (.cst (.int .i64 67108864))]), (some (12, true))⟩,
      ⟨(some 16), (.op (.pick (.tmp 12) (.tmp 15) (.cst (.bool false)))), none⟩,
      ⟨(some 17), (.op (.mv (.tmp 16))), none⟩,
      ⟨(some 18), (.op (.faddr 1 (.tmp 1))), (some (17, true))⟩,
      ⟨(some 19), (.op (.load none (.tmp 18))), (some (17, true))⟩,
      ⟨(some 20), (.op (.bin .mul none (.cst (.int .i64 4)) (.tmp 19))), (some (17, true))⟩,
      ⟨(some 21), (.op (.faddr 2 (.tmp 1))), (some (17, true))⟩,
      ⟨(some 22), (.op (.load none (.tmp 21))), (some (17, true))⟩,
      ⟨(some 23), (.op (.bin .leq none (.tmp 20) (.tmp 22))), (some (17, true))⟩,
      ⟨(some 24), (.op (.pick (.tmp 17) (.tmp 23) (.cst (.bool false)))), none⟩,
      ⟨(some 3), (.op (.mv (.tmp 24))), none⟩] [])
    (.seq (.seq (.region [
      ⟨(some 25), (.op (.mv (.tmp 3))), none⟩,
      ⟨(some 26), (.op (.un .not (.tmp 25))), none⟩] [])
    (.cond (.tmp 26)
      (.seq (.region [
        ⟨(some 2), (.op (.mv (.cst (.int .i64 103)))), none⟩] [])
      .ret)
      .skip))
    (.seq (.region [
      ⟨(some 2), (.op (.mv (.cst (.int .i64 0)))), none⟩] [])
    .ret))))⟩
theorem c12 : cFn Tryz.prog [] Tryz.f12 = some h12 := by kernel_rfl
/-- stint/judge.may -/
def h13 : HFn :=
  ⟨39, [(.tmp 2)],
    (.seq (.region [
      ⟨(some 1), (.op (.box (.tmp 0))), none⟩,
      ⟨(some 2), (.op (.mv (.cst (.bool false)))), none⟩] [])
    (.seq (.seq (.region [
      ⟨(some 3), (.op (.faddr 0 (.tmp 1))), none⟩,
      ⟨(some 4), (.op (.load none (.tmp 3))), none⟩] [])
    (.block 0
      (.seq (.seq (.region [
        ⟨(some 6), (.op (.bin .eql (some .int) (.tmp 4) (.cst (.int .i64 1)))), none⟩,
        ⟨(some 5), (.op (.mv (.tmp 6))), none⟩] [])
      (.cond (.tmp 5)
        .skip
        (.seq (.region [
          ⟨(some 7), (.op (.bin .eql (some .int) (.tmp 4) (.cst (.int .i64 2)))), none⟩,
          ⟨(some 5), (.op (.mv (.tmp 7))), none⟩] [])
        (.cond (.tmp 5)
          .skip
          (.seq (.region [
            ⟨(some 8), (.op (.bin .eql (some .int) (.tmp 4) (.cst (.int .i64 3)))), none⟩,
            ⟨(some 5), (.op (.mv (.tmp 8))), none⟩] [])
          (.cond (.tmp 5)
            .skip
            (.seq (.region [
              ⟨(some 9), (.op (.bin .eql (some .int) (.tmp 4) (.cst (.int .i64 4)))), none⟩,
              ⟨(some 5), (.op (.mv (.tmp 9))), none⟩] [])
            (.cond (.tmp 5)
              .skip
              (.region [
                ⟨(some 10), (.op (.bin .eql (some .int) (.tmp 4) (.cst (.int .i64 10)))), none⟩,
                ⟨(some 5), (.op (.mv (.tmp 10))), none⟩] [])))))))))
      (.cond (.tmp 5)
        (.seq (.region [
          ⟨(some 11), (.op (.faddr 1 (.tmp 1))), none⟩,
          ⟨(some 12), (.op (.load none (.tmp 11))), none⟩,
          ⟨(some 13), (.op (.bin .geq none (.tmp 12) (.cst (.int .i64 0)))), none⟩,
          ⟨(some 14), (.op (.mv (.tmp 13))), none⟩,
          ⟨(some 15), (.op (.faddr 1 (.tmp 1))), (some (14, true))⟩,
          ⟨(some 16), (.op (.load none (.tmp 15))), (some (14, true))⟩,
          ⟨(some 17), (.op (.bin .lss none (.tmp 16) (.cst (.int .i64 64)))), (some (14, true))⟩,
          ⟨(some 18), (.op (.pick (.tmp 14) (.tmp 17) (.cst (.bool false)))), none⟩,
          ⟨(some 2), (.op (.mv (.tmp 18))), none⟩] [])
        .ret)
        (.seq (.seq (.region [
          ⟨(some 20), (.op (.bin .eql (some .int) (.tmp 4) (.cst (.int .i64 5)))), none⟩,
          ⟨(some 19), (.op (.mv (.tmp 20))), none⟩] [])
        (.cond (.tmp 19)
          .skip
          (.seq (.region [
            ⟨(some 21), (.op (.bin .eql (some .int) (.tmp 4) (.cst (.int .i64 6)))), none⟩,
            ⟨(some 19), (.op (.mv (.tmp 21))), none⟩] [])
          (.cond (.tmp 19)
            .skip
            (.region [
              ⟨(some 22), (.op (.bin .eql (some .int) (.tmp 4) (.cst (.int .i64 7)))), none⟩,
              ⟨(some 19), (.op (.mv (.tmp 22))), none⟩] [])))))
        (.cond (.tmp 19)
          (.seq (.region [
            ⟨(some 23), (.op (.faddr 3 (.tmp 1))), none⟩,
            ⟨(some 24), (.op (.load none (.tmp 23))), none⟩,
            ⟨(some 25), (.op (.bin .geq none (.tmp 24) (.cst (.int .i64 0)))), none⟩,
            ⟨(some 26), (.op (.mv (.tmp 25))), none⟩,
            ⟨(some 27), (.op (.faddr 3 (.tmp 1))), (some (26, true))⟩,
            ⟨(some 28), (.op (.load none (.tmp 27))), (some (26, true))⟩,
            ⟨(some 29), (.op (.bin .leq none (.tmp 28) (.cst (.int .i64 1099511627776)))), (some (26, true))⟩,
            ⟨(some 30), (.op (.pick (.tmp 26) (.tmp 29) (.cst (.bool false)))), none⟩,
            ⟨(some 2), (.op (.mv (.tmp 30))), none⟩] [])
          .ret)
          .skip))))))
    (.seq (.region [
      ⟨(some 31), (.op (.faddr 0 (.tmp 1))), none⟩,
      ⟨(some 32), (.op (.load none (.tmp 31))), none⟩,
      ⟨(some 33), (.op (.bin .geq none (.tmp 32) (.cst (.int .i64 1)))), none⟩,
      ⟨(some 34), (.op (.mv (.tmp 33))), none⟩,
      ⟨(some 35), (.op (.faddr 0 (.tmp 1))), (some (34, true))⟩,
      ⟨(some 36), (.op (.load none (.tmp 35))), (some (34, true))⟩,
      ⟨(some 37), (.op (.bin .leq none (.tmp 36) (.cst (.int .i64 10)))), (some (34, true))⟩,
      ⟨(some 38), (.op (.pick (.tmp 34) (.tmp 37) (.cst (.bool false)))), none⟩,
      ⟨(some 2), (.op (.mv (.tmp 38))), none⟩] [])
    .ret)))⟩
theorem c13 : cFn Tryz.prog [] Tryz.f13 = some h13 := by kernel_rfl
/-- (*stint/judge.court).event -/
def h14 : HFn :=
  ⟨111, [],
    (.seq (.region [
      ⟨(some 3), (.op (.box (.tmp 1))), none⟩] [])
    (.seq (.seq (.region [
      ⟨(some 7), (.op (.faddr 0 (.tmp 3))), none⟩,
      ⟨(some 8), (.op (.load none (.tmp 7))), none⟩,
      ⟨(some 9), (.op (.bin .neq (some .int) (.tmp 8) (.cst (.int .i64 3)))), none⟩,
      ⟨(some 10), (.op (.mv (.tmp 9))), none⟩,
      ⟨(some 11), (.op (.faddr 0 (.tmp 3))), (some (10, true))⟩,
      ⟨(some 12), (.op (.load none (.tmp 11))), (some (10, true))⟩,
      ⟨(some 13), (.op (.bin .neq (some .int) (.tmp 12) (.cst (.int .i64 6)))), (some (10, true))⟩,
      ⟨(some 14), (.op (.pick (.tmp 10) (.tmp 13) (.cst (.bool false)))), none⟩] [])
    (.cond (.tmp 14)
      (.region [
        ⟨(some 15), (.op (.mv (.tmp 0))), none⟩,
        ⟨(some 16), (.call (.cst (.func (.func 16) [] [])) [(.tmp 15)]), none⟩] [])
      .skip))
    (.seq (.draw [
      ⟨(some 17), (.op (.mv (.tmp 0))), none⟩,
      ⟨(some 18), (.op (.nilc (.tmp 17))), none⟩,
      ⟨(some 19), (.op (.faddr 5 (.tmp 18))), none⟩,
      ⟨(some 20), (.op (.load none (.tmp 19))), none⟩,
      ⟨(some 21), (.op (.faddr 1 (.tmp 3))), none⟩,
      ⟨(some 22), (.op (.load none (.tmp 21))), none⟩,
      ⟨(some 23), (.op (.lookup .int .nilPtr false (.tmp 20) (.tmp 22))), none⟩,
      ⟨(some 4), (.op (.mv (.tmp 23))), none⟩] [0, 1, 2, 3, 4, 5, 6, 7] [[], [], [], [], [], [], [], []] [])
    (.seq (.region [
      ⟨(some 24), (.op (.faddr 0 (.tmp 3))), none⟩,
      ⟨(some 25), (.op (.load none (.tmp 24))), none⟩] [])
    (.block 0
      (.seq (.region [
        ⟨(some 27), (.op (.bin .eql (some .int) (.tmp 25) (.cst (.int .i64 1)))), none⟩,
        ⟨(some 26), (.op (.mv (.tmp 27))), none⟩] [])
      (.cond (.tmp 26)
        (.seq (.region [
          ⟨(some 28), (.op (.mv (.tmp 0))), none⟩,
          ⟨(some 29), (.op (.faddr 1 (.tmp 3))), none⟩,
          ⟨(some 30), (.op (.load none (.tmp 29))), none⟩,
          ⟨(some 31), (.call (.cst (.func (.func 17) [] [])) [(.tmp 28), (.tmp 30)]), none⟩] [])
        (.seq (.region [
          ⟨(some 33), (.op (.mv (.tmp 0))), none⟩,
          ⟨(some 34), (.op (.nilc (.tmp 33))), none⟩,
          ⟨(some 35), (.op (.faddr 0 (.tmp 34))), none⟩,
          ⟨(some 36), (.op (.faddr 0 (.tmp 35))), none⟩,
          ⟨(some 37), (.op (.load none (.tmp 36))), none⟩,
          ⟨(some 38), (.call (.cst (.func (.func 18) [] [])) [(.tmp 37)]), none⟩,
          ⟨(some 32), (.op (.mv (.tmp 38))), none⟩,
          ⟨(some 39), (.op (.ext 0 (.tmp 32))), none⟩,
          ⟨(some 40), (.op (.ext 1 (.tmp 32))), none⟩,
          ⟨(some 5), (.op (.mv (.tmp 39))), none⟩,
          ⟨(some 6), (.op (.mv (.tmp 40))), none⟩] [])
        (.tree [
          ⟨(some 41), (.op (.mv (.tmp 0))), none⟩,
          ⟨(some 42), (.op (.nilc (.tmp 41))), none⟩,
          ⟨(some 43), (.op (.faddr 5 (.tmp 42))), none⟩,
          ⟨(some 44), (.op (.load none (.tmp 43))), none⟩,
          ⟨(some 45), (.op (.faddr 1 (.tmp 3))), none⟩,
          ⟨(some 46), (.op (.load none (.tmp 45))), none⟩,
          ⟨(some 47), (.op (.mv (.tmp 5))), none⟩,
          ⟨(some 48), (.call (.cst (.func (.func 19) [] [])) []), none⟩,
          ⟨(some 49), (.op .mkMap), none⟩,
          ⟨(some 50), (.op (.build [] [])), none⟩,
          ⟨none, (.op (.mapUpd .str (.tmp 49) (.cst (.str [100, 101, 102, 97, 117, 108, 116])) (.tmp 50))), none⟩,
          ⟨(some 51), (.op (.mv (.tmp 49))), none⟩,
          ⟨(some 52), (.op (.build [.nilPtr, .nilPtr, (.str []), .nilMap, .nilPtr] [(0, 1, (.tmp 47)), (1, 1, (.tmp 48)), (2, 1, (.cst (.str [100, 101, 102, 97, 117, 108, 116]))), (3, 1, (.tmp 51))])), none⟩,
          ⟨(some 53), (.op (.box (.tmp 52))), none⟩,
          ⟨none, (.op (.mapUpd .int (.tmp 44) (.tmp 46) (.tmp 53))), none⟩] [0, 1, 2, 3, 4, 5, 6, 9, 7, 8, 10, 11, 12, 13, 14] [[], [0], [1], [2], [], [4], [], [], [], [], [8, 9], [8, 9, 10], [6, 7, 11], [12], [3, 5, 13, 7, 0, 1, 2, 3, 4, 5, 6, 7, 8, 9, 10, 11, 12, 13]] [[], [], [], [], [], [], [], [], [], [], [], [], [], [], [3, 5]] [])))
        (.seq (.region [
          ⟨(some 55), (.op (.bin .eql (some .int) (.tmp 25) (.cst (.int .i64 2)))), none⟩,
          ⟨(some 54), (.op (.mv (.tmp 55))), none⟩] [])
        (.cond (.tmp 54)
          (.seq (.region [
            ⟨(some 56), (.op (.mv (.tmp 4))), none⟩,
            ⟨(some 57), (.op (.bin .neq (some .ptrN) (.tmp 56) (.cst .nilPtr))), none⟩] [])
          (.cond (.tmp 57)
            (.draw [
              ⟨(some 58), (.op (.mv (.tmp 4))), none⟩,
              ⟨(some 59), (.op (.nilc (.tmp 58))), none⟩,
              ⟨(some 60), (.op (.faddr 0 (.tmp 59))), none⟩,
              ⟨(some 61), (.op (.load none (.tmp 60))), none⟩,
              ⟨(some 62), (.op (.faddr 2 (.tmp 3))), none⟩,
              ⟨(some 63), (.op (.load none (.tmp 62))), none⟩,
              ⟨(some 64), (.call (.cst (.func (.func 20) [] [])) [(.tmp 61), (.tmp 63)]), none⟩] [0, 1, 2, 3, 4, 5, 6] [[], [], [], [], [], [], [3, 5]] [])
            .skip))
          (.seq (.region [
            ⟨(some 66), (.op (.bin .eql (some .int) (.tmp 25) (.cst (.int .i64 3)))), none⟩,
            ⟨(some 65), (.op (.mv (.tmp 66))), none⟩] [])
          (.cond (.tmp 65)
            (.region [
              ⟨(some 67), (.op (.mv (.tmp 0))), none⟩,
              ⟨(some 68), (.op (.mv (.tmp 4))), none⟩,
              ⟨(some 69), (.op (.load (some 5) (.tmp 3))), none⟩,
              ⟨(some 70), (.call (.cst (.func (.func 21) [] [])) [(.tmp 67), (.tmp 68), (.tmp 69)]), none⟩] [])
            (.seq (.region [
              ⟨(some 72), (.op (.bin .eql (some .int) (.tmp 25) (.cst (.int .i64 4)))), none⟩,
              ⟨(some 71), (.op (.mv (.tmp 72))), none⟩] [])
            (.cond (.tmp 71)
              (.region [
                ⟨(some 73), (.op (.mv (.tmp 0))), none⟩,
                ⟨(some 74), (.op (.faddr 1 (.tmp 3))), none⟩,
                ⟨(some 75), (.op (.load none (.tmp 74))), none⟩,
                ⟨(some 76), (.call (.cst (.func (.func 17) [] [])) [(.tmp 73), (.tmp 75)]), none⟩] [])
              (.seq (.seq (.region [
                ⟨(some 78), (.op (.bin .eql (some .int) (.tmp 25) (.cst (.int .i64 5)))), none⟩,
                ⟨(some 77), (.op (.mv (.tmp 78))), none⟩] [])
              (.cond (.tmp 77)
                .skip
                (.region [
                  ⟨(some 79), (.op (.bin .eql (some .int) (.tmp 25) (.cst (.int .i64 7)))), none⟩,
                  ⟨(some 77), (.op (.mv (.tmp 79))), none⟩] [])))
              (.cond (.tmp 77)
                (.region [
                  ⟨(some 80), (.op (.mv (.tmp 0))), none⟩,
                  ⟨(some 81), (.op (.faddr 3 (.tmp 3))), none⟩,
                  ⟨(some 82), (.op (.load none (.tmp 81))), none⟩,
                  ⟨(some 83), (.op (.nilc (.tmp 80))), none⟩,
                  ⟨(some 84), (.op (.faddr 3 (.tmp 83))), none⟩,
                  ⟨none, (.op (.store 1 (.tmp 84) (.tmp 82))), none⟩] [])
                (.seq (.region [
                  ⟨(some 86), (.op (.bin .eql (some .int) (.tmp 25) (.cst (.int .i64 6)))), none⟩,
                  ⟨(some 85), (.op (.mv (.tmp 86))), none⟩] [])
                (.cond (.tmp 85)
                  (.seq (.region [
                    ⟨(some 87), (.op (.mv (.tmp 0))), none⟩,
                    ⟨(some 88), (.call (.cst (.func (.func 22) [] [])) [(.tmp 87)]), none⟩] [])
                  (.region [
                    ⟨(some 89), (.op (.mv (.tmp 0))), none⟩,
                    ⟨(some 90), (.op (.faddr 3 (.tmp 3))), none⟩,
                    ⟨(some 91), (.op (.load none (.tmp 90))), none⟩,
                    ⟨(some 92), (.op (.nilc (.tmp 89))), none⟩,
                    ⟨(some 93), (.op (.faddr 3 (.tmp 92))), none⟩,
                    ⟨none, (.op (.store 1 (.tmp 93) (.tmp 91))), none⟩] []))
                  (.seq (.region [
                    ⟨(some 95), (.op (.bin .eql (some .int) (.tmp 25) (.cst (.int .i64 9)))), none⟩,
                    ⟨(some 94), (.op (.mv (.tmp 95))), none⟩] [])
                  (.cond (.tmp 94)
                    (.region [
                      ⟨(some 96), (.op (.mv (.tmp 0))), none⟩,
                      ⟨(some 97), (.op (.nilc (.tmp 96))), none⟩,
                      ⟨(some 98), (.op (.faddr 4 (.tmp 97))), none⟩,
                      ⟨none, (.op (.store 1 (.tmp 98) (.cst (.bool true)))), none⟩] [])
                    (.seq (.region [
                      ⟨(some 100), (.op (.bin .eql (some .int) (.tmp 25) (.cst (.int .i64 10)))), none⟩,
                      ⟨(some 99), (.op (.mv (.tmp 100))), none⟩] [])
                    (.cond (.tmp 99)
                      (.seq (.region [
                        ⟨(some 101), (.op (.mv (.tmp 4))), none⟩,
                        ⟨(some 102), (.op (.bin .eql (some .ptrN) (.tmp 101) (.cst .nilPtr))), none⟩,
                        ⟨(some 103), (.op (.mv (.tmp 102))), none⟩,
                        ⟨(some 104), (.op (.mv (.tmp 0))), (some (103, false))⟩,
                        ⟨(some 105), (.op (.mv (.tmp 4))), (some (103, false))⟩,
                        ⟨(some 106), (.call (.cst (.func (.func 23) [] [])) [(.tmp 104), (.tmp 105)]), (some (103, false))⟩,
                        ⟨(some 107), (.op (.un .not (.tmp 106))), (some (103, false))⟩,
                        ⟨(some 108), (.op (.pick (.tmp 103) (.cst (.bool true)) (.tmp 107))), none⟩] [])
                      (.cond (.tmp 108)
                        (.region [
                          ⟨(some 109), (.op (.mv (.tmp 0))), none⟩,
                          ⟨(some 110), (.call (.cst (.func (.func 24) [] [])) [(.tmp 109), (.cst (.int .i64 2)), (.cst (.int .i64 0))]), none⟩] [])
                        .skip))
                      .skip)))))))))))))))))))))⟩
theorem c14 : cFn Tryz.prog [] Tryz.f14 = some h14 := by kernel_rfl
/-- stint/record.within -/
def h15 : HFn :=
  ⟨15, [(.tmp 6)],
    (.seq (.region [
      ⟨(some 6), (.op (.mv (.cst (.bool false)))), none⟩] [])
    (.seq (.region [
      ⟨(some 7), (.op (.mv (.tmp 0))), none⟩,
      ⟨(some 8), (.op (.mv (.tmp 1))), none⟩,
      ⟨(some 9), (.op (.bin .geq none (.tmp 7) (.tmp 8))), none⟩,
      ⟨(some 10), (.op (.mv (.tmp 9))), none⟩,
      ⟨(some 11), (.op (.mv (.tmp 0))), (some (10, true))⟩,
      ⟨(some 12), (.op (.mv (.tmp 2))), (some (10, true))⟩,
      ⟨(some 13), (.op (.bin .leq none (.tmp 11) (.tmp 12))), (some (10, true))⟩,
      ⟨(some 14), (.op (.pick (.tmp 10) (.tmp 13) (.cst (.bool false)))), none⟩,
      ⟨(some 6), (.op (.mv (.tmp 14))), none⟩] [])
    .ret))⟩
theorem c15 : cFn Tryz.prog [] Tryz.f15 = some h15 := by kernel_rfl
/-- (*stint/judge.court).late -/
def h16 : HFn :=
  ⟨57, [],
    (.seq (.region [
      ⟨(some 6), (.op (.mv (.tmp 0))), none⟩,
      ⟨(some 7), (.op (.nilc (.tmp 6))), none⟩,
      ⟨(some 8), (.op (.faddr 5 (.tmp 7))), none⟩,
      ⟨(some 9), (.op (.load none (.tmp 8))), none⟩,
      ⟨(some 10), (.op (.rangeMap (.tmp 9))), none⟩] [])
    (.block 0
      (.loop
        (.seq (.region [
          ⟨(some 11), (.next (.tmp 10)), none⟩,
          ⟨(some 12), (.op (.ext 0 (.tmp 11))), none⟩] [])
        (.seq (.cond (.tmp 12)
          .skip
          (.exit 0))
        (.block 1
          (.seq (.region [
            ⟨(some 13), (.op (.entry (.tmp 10))), none⟩,
            ⟨(some 14), (.op (.ext 1 (.tmp 13))), none⟩,
            ⟨(some 3), (.op (.mv (.tmp 14))), none⟩] [])
          (.seq (.region [
            ⟨(some 15), (.op (.mv (.tmp 3))), none⟩,
            ⟨(some 16), (.op (.nilc (.tmp 15))), none⟩,
            ⟨(some 17), (.op (.faddr 4 (.tmp 16))), none⟩,
            ⟨(some 18), (.op (.load none (.tmp 17))), none⟩,
            ⟨(some 4), (.op (.mv (.tmp 18))), none⟩] [])
          (.seq (.seq (.region [
            ⟨(some 19), (.op (.mv (.tmp 4))), none⟩,
            ⟨(some 20), (.op (.bin .eql (some .ptrN) (.tmp 19) (.cst .nilPtr))), none⟩] [])
          (.cond (.tmp 20)
            (.exit 1)
            .skip))
          (.seq (.region [
            ⟨(some 21), (.op (.mv (.tmp 4))), none⟩,
            ⟨(some 22), (.op (.nilc (.tmp 21))), none⟩,
            ⟨(some 23), (.op (.faddr 8 (.tmp 22))), none⟩,
            ⟨(some 24), (.op (.load none (.tmp 23))), none⟩,
            ⟨(some 25), (.op (.bin .eql (some .int) (.tmp 24) (.cst (.int .i64 0)))), none⟩,
            ⟨(some 26), (.op (.mv (.tmp 25))), none⟩,
            ⟨(some 27), (.op (.mv (.tmp 4))), (some (26, true))⟩,
            ⟨(some 28), (.op (.nilc (.tmp 27))), (some (26, true))⟩,
            ⟨(some 29), (.op (.faddr 0 (.tmp 28))), (some (26, true))⟩,
            ⟨(some 30), (.op (.faddr 0 (.tmp 29))), (some (26, true))⟩,
            ⟨(some 31), (.op (.load none (.tmp 30))), (some (26, true))⟩,
            ⟨(some 32), (.op (.bin .eql (some .int) (.tmp 31) (.cst (.int .i64 3)))), (some (26, true))⟩,
            ⟨(some 33), (.op (.mv (.tmp 32))), (some (26, true))⟩,
            ⟨(some 34), (.op (.mv (.tmp 4))), (some (33, false))⟩,
            ⟨(some 35), (.op (.nilc (.tmp 34))), (some (33, false))⟩,
            ⟨(some 36), (.op (.faddr 0 (.tmp 35))), (some (33, false))⟩,
            ⟨(some 37), (.op (.faddr 0 (.tmp 36))), (some (33, false))⟩,
            ⟨(some 38), (.op (.load none (.tmp 37))), (some (33, false))⟩,
            ⟨(some 39), (.op (.bin .eql (some .int) (.tmp 38) (.cst (.int .i64 4)))), (some (33, false))⟩,
            ⟨(some 40), (.op (.pick (.tmp 33) (.cst (.bool true)) (.tmp 39))), (some (26, true))⟩,
            ⟨(some 41), (.op (.pick (.tmp 26) (.tmp 40) (.cst (.bool false)))), none⟩,
            ⟨(some 5), (.op (.mv (.tmp 41))), none⟩] [])
          (.seq (.region [
            ⟨(some 42), (.op (.mv (.tmp 5))), none⟩,
            ⟨(some 43), (.op (.un .not (.tmp 42))), none⟩,
            ⟨(some 44), (.op (.mv (.tmp 43))), none⟩,
            ⟨(some 45), (.op (.mv (.tmp 0))), (some (44, false))⟩,
            ⟨(some 46), (.op (.mv (.tmp 4))), (some (44, false))⟩,
            ⟨(some 47), (.call (.cst (.func (.func 25) [] [])) [(.tmp 45), (.tmp 46)]), (some (44, false))⟩,
            ⟨(some 48), (.op (.pick (.tmp 44) (.cst (.bool true)) (.tmp 47))), none⟩,
            ⟨(some 49), (.op (.mv (.tmp 48))), none⟩,
            ⟨(some 50), (.op (.mv (.tmp 0))), (some (49, false))⟩,
            ⟨(some 51), (.op (.mv (.tmp 3))), (some (49, false))⟩,
            ⟨(some 52), (.call (.cst (.func (.func 26) [] [])) [(.tmp 50), (.tmp 51)]), (some (49, false))⟩,
            ⟨(some 53), (.op (.bin .neq (some .ptrN) (.tmp 52) (.cst .nilPtr))), (some (49, false))⟩,
            ⟨(some 54), (.op (.pick (.tmp 49) (.cst (.bool true)) (.tmp 53))), none⟩] [])
          (.cond (.tmp 54)
            (.region [
              ⟨(some 55), (.op (.mv (.tmp 0))), none⟩,
              ⟨(some 56), (.call (.cst (.func (.func 24) [] [])) [(.tmp 55), (.cst (.int .i64 7)), (.cst (.int .i64 0))]), none⟩] [])
            .skip))))))))))))⟩
theorem c16 : cFn Tryz.prog [] Tryz.f16 = some h16 := by kernel_rfl
/-- (*stint/judge.court).hung -/
def h17 : HFn :=
  ⟨42, [],
    (.seq (.seq (.region [
      ⟨(some 9), (.op (.mv (.tmp 0))), none⟩,
      ⟨(some 10), (.op (.nilc (.tmp 9))), none⟩,
      ⟨(some 11), (.op (.faddr 5 (.tmp 10))), none⟩,
      ⟨(some 12), (.op (.load none (.tmp 11))), none⟩,
      ⟨(some 13), (.op (.mv (.tmp 1))), none⟩,
      ⟨(some 14), (.op (.lookup .int .nilPtr true (.tmp 12) (.tmp 13))), none⟩,
      ⟨(some 8), (.op (.mv (.tmp 14))), none⟩,
      ⟨(some 15), (.op (.ext 0 (.tmp 8))), none⟩,
      ⟨(some 16), (.op (.ext 1 (.tmp 8))), none⟩,
      ⟨(some 4), (.op (.mv (.tmp 15))), none⟩,
      ⟨(some 5), (.op (.mv (.tmp 16))), none⟩] [])
    (.seq (.region [
      ⟨(some 17), (.op (.mv (.tmp 5))), none⟩,
      ⟨(some 18), (.op (.un .not (.tmp 17))), none⟩] [])
    (.cond (.tmp 18)
      .ret
      .skip)))
    (.seq (.region [
      ⟨(some 19), (.op (.mv (.tmp 0))), none⟩,
      ⟨(some 20), (.op (.nilc (.tmp 19))), none⟩,
      ⟨(some 21), (.op (.faddr 5 (.tmp 20))), none⟩,
      ⟨(some 22), (.op (.load none (.tmp 21))), none⟩,
      ⟨(some 23), (.op (.mv (.tmp 1))), none⟩,
      ⟨none, (.op (.del .int (.tmp 22) (.tmp 23))), none⟩] [])
    (.seq (.region [
      ⟨(some 24), (.op (.mv (.tmp 0))), none⟩,
      ⟨(some 25), (.op (.nilc (.tmp 24))), none⟩,
      ⟨(some 26), (.op (.faddr 6 (.tmp 25))), none⟩,
      ⟨(some 27), (.op (.load none (.tmp 26))), none⟩,
      ⟨(some 28), (.op (.rangeMap (.tmp 27))), none⟩] [])
    (.block 0
      (.loop
        (.seq (.region [
          ⟨(some 29), (.next (.tmp 28)), none⟩,
          ⟨(some 30), (.op (.ext 0 (.tmp 29))), none⟩] [])
        (.seq (.cond (.tmp 30)
          .skip
          (.exit 0))
        (.block 1
          (.seq (.region [
            ⟨(some 31), (.op (.entry (.tmp 28))), none⟩,
            ⟨(some 32), (.op (.ext 1 (.tmp 31))), none⟩,
            ⟨(some 7), (.op (.mv (.tmp 32))), none⟩] [])
          (.seq (.region [
            ⟨(some 33), (.op (.mv (.tmp 7))), none⟩,
            ⟨(some 34), (.op (.nilc (.tmp 33))), none⟩,
            ⟨(some 35), (.op (.faddr 9 (.tmp 34))), none⟩,
            ⟨(some 36), (.op (.load none (.tmp 35))), none⟩,
            ⟨(some 37), (.op (.mv (.tmp 1))), none⟩,
            ⟨(some 38), (.op (.bin .eql (some .int) (.tmp 36) (.tmp 37))), none⟩] [])
          (.cond (.tmp 38)
            (.region [
              ⟨(some 39), (.op (.mv (.tmp 7))), none⟩,
              ⟨(some 40), (.op (.nilc (.tmp 39))), none⟩,
              ⟨(some 41), (.op (.faddr 9 (.tmp 40))), none⟩,
              ⟨none, (.op (.store 1 (.tmp 41) (.cst (.int .i64 (-1))))), none⟩] [])
            .skip)))))))))))⟩
theorem c17 : cFn Tryz.prog [] Tryz.f17 = some h17 := by kernel_rfl
/-- stint/intake.New -/
def h18 : HFn :=
  ⟨13, [(.tmp 2), (.tmp 3)],
    (.seq (.region [
      ⟨(some 2), (.op (.mv (.cst .nilPtr))), none⟩,
      ⟨(some 3), (.op (.mv (.cst (.int .i64 0)))), none⟩] [])
    (.seq (.seq (.region [
      ⟨(some 4), (.op (.mv (.tmp 0))), none⟩,
      ⟨(some 5), (.op (.bin .lss none (.tmp 4) (.cst (.int .i64 1)))), none⟩,
      ⟨(some 6), (.op (.mv (.tmp 5))), none⟩,
      ⟨(some 7), (.op (.mv (.tmp 0))), (some (6, false))⟩,
      ⟨(some 8), (.op (.bin .gtr none (.tmp 7) (.cst (.int .i64 65535)))), (some (6, false))⟩,
      ⟨(some 9), (.op (.pick (.tmp 6) (.cst (.bool true)) (.tmp 8))), none⟩] [])
    (.cond (.tmp 9)
      (.seq (.region [
        ⟨(some 2), (.op (.mv (.cst .nilPtr))), none⟩,
        ⟨(some 3), (.op (.mv (.cst (.int .i64 60)))), none⟩] [])
      .ret)
      .skip))
    (.seq (.region [
      ⟨(some 10), (.op (.mv (.tmp 0))), none⟩,
      ⟨(some 11), (.op (.build [(.int .i64 0), (.int .i64 0), .nilSlice, (.int .i64 0), (.int .i64 0), (.bool false), (.bool false)] [(0, 1, (.tmp 10))])), none⟩,
      ⟨(some 12), (.op (.box (.tmp 11))), none⟩,
      ⟨(some 2), (.op (.mv (.tmp 12))), none⟩,
      ⟨(some 3), (.op (.mv (.cst (.int .i64 0)))), none⟩] [])
    .ret)))⟩
theorem c18 : cFn Tryz.prog [] Tryz.f18 = some h18 := by kernel_rfl
/-- stint/answers.New -/
def h19 : HFn :=
  ⟨3, [(.tmp 0)],
    (.seq (.region [
      ⟨(some 0), (.op (.mv (.cst .nilPtr))), none⟩] [])
    (.seq (.region [
      ⟨(some 1), (.op (.build [.nilSlice, .nilSlice, (.bool false)] [])), none⟩,
      ⟨(some 2), (.op (.box (.tmp 1))), none⟩,
      ⟨(some 0), (.op (.mv (.tmp 2))), none⟩] [])
    .ret))⟩
theorem c19 : cFn Tryz.prog [] Tryz.f19 = some h19 := by kernel_rfl
/-- (*stint/intake.Intake).Feed -/
def h20 : HFn :=
  ⟨38, [],
    (.seq (.block 0
      (.seq (.region [
        ⟨(some 5), (.op (.mv (.tmp 0))), none⟩,
        ⟨(some 6), (.op (.nilc (.tmp 5))), none⟩,
        ⟨(some 7), (.op (.faddr 1 (.tmp 6))), none⟩,
        ⟨(some 8), (.op (.load none (.tmp 7))), none⟩,
        ⟨(some 9), (.op (.bin .eql (some .int) (.tmp 8) (.cst (.int .i64 1)))), none⟩,
        ⟨(some 10), (.op (.mv (.tmp 9))), none⟩,
        ⟨(some 11), (.op (.mv (.tmp 0))), (some (10, true))⟩,
        ⟨(some 12), (.op (.nilc (.tmp 11))), (some (10, true))⟩,
        ⟨(some 13), (.op (.faddr 6 (.tmp 12))), (some (10, true))⟩,
        ⟨(some 14), (.op (.load none (.tmp 13))), (some (10, true))⟩,
        ⟨(some 15), (.op (.un .not (.tmp 14))), (some (10, true))⟩,
        ⟨(some 16), (.op (.pick (.tmp 10) (.tmp 15) (.cst (.bool false)))), none⟩,
        ⟨(some 4), (.op (.mv (.tmp 16))), none⟩] [])
      (.cond (.tmp 4)
        (.region [
          ⟨(some 17), (.op (.mv (.tmp 0))), none⟩,
          ⟨(some 18), (.op (.mv (.tmp 1))), none⟩,
          ⟨(some 19), (.call (.cst (.func (.func 27) [] [])) [(.tmp 17), (.tmp 18)]), none⟩,
          ⟨(some 1), (.op (.mv (.tmp 19))), none⟩] [])
        (.seq (.region [
          ⟨(some 21), (.op (.mv (.tmp 0))), none⟩,
          ⟨(some 22), (.op (.nilc (.tmp 21))), none⟩,
          ⟨(some 23), (.op (.faddr 1 (.tmp 22))), none⟩,
          ⟨(some 24), (.op (.load none (.tmp 23))), none⟩,
          ⟨(some 25), (.op (.bin .eql (some .int) (.tmp 24) (.cst (.int .i64 3)))), none⟩,
          ⟨(some 20), (.op (.mv (.tmp 25))), none⟩] [])
        (.cond (.tmp 20)
          (.region [
            ⟨(some 26), (.op (.mv (.tmp 0))), none⟩,
            ⟨(some 27), (.op (.mv (.tmp 1))), none⟩,
            ⟨(some 28), (.call (.cst (.func (.func 28) [] [])) [(.tmp 26), (.tmp 27)]), none⟩,
            ⟨(some 1), (.op (.mv (.tmp 28))), none⟩] [])
          .skip)))))
    (.region [
      ⟨(some 29), (.op (.mv (.tmp 0))), none⟩,
      ⟨(some 30), (.op (.mv (.tmp 0))), none⟩,
      ⟨(some 31), (.op (.nilc (.tmp 30))), none⟩,
      ⟨(some 32), (.op (.faddr 2 (.tmp 31))), none⟩,
      ⟨(some 33), (.op (.load none (.tmp 32))), none⟩,
      ⟨(some 34), (.op (.mv (.tmp 1))), none⟩,
      ⟨(some 35), (.op (.append 1 1 (.tmp 33) (.tmp 34))), none⟩,
      ⟨(some 36), (.op (.nilc (.tmp 29))), none⟩,
      ⟨(some 37), (.op (.faddr 2 (.tmp 36))), none⟩,
      ⟨none, (.op (.store 1 (.tmp 37) (.tmp 35))), none⟩] []))⟩
theorem c20 : cFn Tryz.prog [] Tryz.f20 = some h20 := by kernel_rfl
/-- (*stint/judge.court).said -/
def h21 : HFn :=
  ⟨63, [],
    (.seq (.region [
      ⟨(some 5), (.op (.box (.tmp 2))), none⟩] [])
    (.seq (.seq (.region [
      ⟨(some 10), (.op (.mv (.tmp 1))), none⟩,
      ⟨(some 11), (.op (.bin .eql (some .ptrN) (.tmp 10) (.cst .nilPtr))), none⟩] [])
    (.cond (.tmp 11)
      (.seq (.region [
        ⟨(some 12), (.op (.mv (.tmp 0))), none⟩,
        ⟨(some 13), (.call (.cst (.func (.func 24) [] [])) [(.tmp 12), (.cst (.int .i64 2)), (.cst (.int .i64 0))]), none⟩] [])
      .ret)
      .skip))
    (.seq (.draw [
      ⟨(some 14), (.op (.mv (.tmp 1))), none⟩,
      ⟨(some 15), (.op (.nilc (.tmp 14))), none⟩,
      ⟨(some 16), (.op (.faddr 1 (.tmp 15))), none⟩,
      ⟨(some 17), (.op (.load none (.tmp 16))), none⟩,
      ⟨(some 18), (.op (.faddr 2 (.tmp 5))), none⟩,
      ⟨(some 19), (.op (.load none (.tmp 18))), none⟩,
      ⟨(some 20), (.call (.cst (.func (.func 29) [] [])) [(.tmp 17), (.tmp 19)]), none⟩] [0, 1, 2, 3, 4, 5, 6] [[], [], [], [], [], [], [3, 5]] [])
    (.block 0
      (.loop
        (.block 1
          (.seq (.region [
            ⟨(some 22), (.op (.mv (.tmp 1))), none⟩,
            ⟨(some 23), (.op (.nilc (.tmp 22))), none⟩,
            ⟨(some 24), (.op (.faddr 1 (.tmp 23))), none⟩,
            ⟨(some 25), (.op (.load none (.tmp 24))), none⟩,
            ⟨(some 26), (.call (.cst (.func (.func 30) [] [])) [(.tmp 25)]), none⟩,
            ⟨(some 21), (.op (.mv (.tmp 26))), none⟩,
            ⟨(some 27), (.op (.ext 0 (.tmp 21))), none⟩,
            ⟨(some 28), (.op (.ext 1 (.tmp 21))), none⟩,
            ⟨(some 29), (.op (.ext 2 (.tmp 21))), none⟩,
            ⟨(some 6), (.op (.box (.cst (.agg [(.int .i64 0), (.int .i64 0), (.int .i64 0), (.str []), .nilSlice])))), none⟩,
            ⟨none, (.op (.store 5 (.tmp 6) (.tmp 27))), none⟩,
            ⟨(some 7), (.op (.mv (.tmp 28))), none⟩,
            ⟨(some 8), (.op (.mv (.tmp 29))), none⟩] [])
          (.seq (.seq (.region [
            ⟨(some 30), (.op (.mv (.tmp 8))), none⟩,
            ⟨(some 31), (.op (.bin .neq (some .int) (.tmp 30) (.cst (.int .i64 0)))), none⟩] [])
          (.cond (.tmp 31)
            (.region [
              ⟨(some 32), (.op (.mv (.tmp 0))), none⟩,
              ⟨(some 33), (.call (.cst (.func (.func 24) [] [])) [(.tmp 32), (.cst (.int .i64 1)), (.cst (.int .i64 0))]), none⟩] [])
            .skip))
          (.seq (.seq (.region [
            ⟨(some 34), (.op (.mv (.tmp 7))), none⟩,
            ⟨(some 35), (.op (.un .not (.tmp 34))), none⟩] [])
          (.cond (.tmp 35)
            .ret
            .skip))
          (.seq (.region [
            ⟨(some 36), (.op (.mv (.tmp 1))), none⟩,
            ⟨(some 37), (.op (.nilc (.tmp 36))), none⟩,
            ⟨(some 38), (.op (.faddr 4 (.tmp 37))), none⟩,
            ⟨(some 39), (.op (.load none (.tmp 38))), none⟩,
            ⟨(some 9), (.op (.mv (.tmp 39))), none⟩] [])
          (.seq (.region [
            ⟨(some 40), (.op (.mv (.tmp 1))), none⟩,
            ⟨(some 41), (.op (.nilc (.tmp 40))), none⟩,
            ⟨(some 42), (.op (.faddr 4 (.tmp 41))), none⟩,
            ⟨none, (.op (.store 1 (.tmp 42) (.cst .nilPtr))), none⟩] [])
          (.seq (.seq (.draw [
            ⟨(some 43), (.op (.mv (.tmp 9))), none⟩,
            ⟨(some 44), (.op (.bin .eql (some .ptrN) (.tmp 43) (.cst .nilPtr))), none⟩,
            ⟨(some 45), (.op (.mv (.tmp 44))), none⟩,
            ⟨(some 46), (.op (.mv (.tmp 0))), (some (45, false))⟩,
            ⟨(some 47), (.op (.mv (.tmp 1))), (some (45, false))⟩,
            ⟨(some 48), (.op (.mv (.tmp 9))), (some (45, false))⟩,
            ⟨(some 49), (.call (.cst (.func (.func 31) [] [])) [(.tmp 46), (.tmp 47), (.tmp 48)]), (some (45, false))⟩,
            ⟨(some 50), (.op (.load (some 5) (.tmp 6))), (some (45, false))⟩,
            ⟨(some 51), (.inv [(116, 161, none), (120, 164, none), (124, 165, none), (127, 166, none)] (.tmp 49) [(.tmp 50)]), (some (45, false))⟩,
            ⟨(some 52), (.op (.un .not (.tmp 51))), (some (45, false))⟩,
            ⟨(some 53), (.op (.pick (.tmp 45) (.cst (.bool true)) (.tmp 52))), none⟩] [0, 1, 2, 3, 4, 5, 7, 6, 8, 9, 10] [[], [], [], [], [], [], [], [], [7], [], []] [])
          (.cond (.tmp 53)
            (.seq (.region [
              ⟨(some 54), (.op (.mv (.tmp 0))), none⟩,
              ⟨(some 55), (.call (.cst (.func (.func 24) [] [])) [(.tmp 54), (.cst (.int .i64 2)), (.cst (.int .i64 0))]), none⟩] [])
            (.exit 1))
            .skip))
          (.region [
            ⟨(some 56), (.op (.mv (.tmp 0))), none⟩,
            ⟨(some 57), (.op (.mv (.tmp 1))), none⟩,
            ⟨(some 58), (.op (.faddr 1 (.tmp 5))), none⟩,
            ⟨(some 59), (.op (.load none (.tmp 58))), none⟩,
            ⟨(some 60), (.op (.mv (.tmp 9))), none⟩,
            ⟨(some 61), (.op (.load (some 5) (.tmp 6))), none⟩,
            ⟨(some 62), (.call (.cst (.func (.func 32) [] [])) [(.tmp 56), (.tmp 57), (.tmp 59), (.tmp 60), (.tmp 61)]), none⟩] [])))))))))))))⟩
theorem c21 : cFn Tryz.prog [] Tryz.f21 = some h21 := by kernel_rfl
/-- (*stint/judge.court).done -/
def h23 : HFn :=
  ⟨74, [(.tmp 4)],
    (.seq (.region [
      ⟨(some 4), (.op (.mv (.cst (.bool false)))), none⟩] [])
    (.seq (.region [
      ⟨(some 10), (.op (.mv (.tmp 1))), none⟩,
      ⟨(some 11), (.op (.nilc (.tmp 10))), none⟩,
      ⟨(some 12), (.op (.faddr 4 (.tmp 11))), none⟩,
      ⟨none, (.op (.store 1 (.tmp 12) (.cst .nilPtr))), none⟩] [])
    (.seq (.region [
      ⟨(some 14), (.op (.mv (.tmp 1))), none⟩,
      ⟨(some 15), (.op (.nilc (.tmp 14))), none⟩,
      ⟨(some 16), (.op (.faddr 0 (.tmp 15))), none⟩,
      ⟨(some 17), (.op (.load none (.tmp 16))), none⟩,
      ⟨(some 18), (.call (.cst (.func (.func 36) [] [])) [(.tmp 17)]), none⟩,
      ⟨(some 13), (.op (.mv (.tmp 18))), none⟩,
      ⟨(some 19), (.op (.ext 0 (.tmp 13))), none⟩,
      ⟨(some 20), (.op (.ext 1 (.tmp 13))), none⟩,
      ⟨(some 5), (.op (.box (.cst (.agg [(.int .i64 0), (.str []), .nilSlice])))), none⟩,
      ⟨none, (.op (.store 3 (.tmp 5) (.tmp 19))), none⟩,
      ⟨(some 6), (.op (.mv (.tmp 20))), none⟩] [])
    (.seq (.seq (.region [
      ⟨(some 21), (.op (.mv (.tmp 6))), none⟩,
      ⟨(some 22), (.op (.un .not (.tmp 21))), none⟩] [])
    (.cond (.tmp 22)
      (.seq (.region [
        ⟨(some 4), (.op (.mv (.cst (.bool false)))), none⟩] [])
      .ret)
      .skip))
    (.seq (.region [
      ⟨(some 23), (.op (.mv (.tmp 0))), none⟩,
      ⟨(some 24), (.op (.nilc (.tmp 23))), none⟩,
      ⟨(some 25), (.op (.faddr 3 (.tmp 24))), none⟩,
      ⟨(some 26), (.op (.load none (.tmp 25))), none⟩,
      ⟨(some 27), (.op (.build [(.int .i64 0), (.int .i64 0), (.int .i64 0), (.int .i64 0), (.int .i64 0), (.int .i64 0), (.str []), .nilSlice, (.int .i64 0), (.int .i64 0)] [(9, 1, (.tmp 26))])), none⟩,
      ⟨(some 7), (.op (.box (.cst (.agg [(.int .i64 0), (.int .i64 0), (.int .i64 0), (.int .i64 0), (.int .i64 0), (.int .i64 0), (.str []), .nilSlice, (.int .i64 0), (.int .i64 0)])))), none⟩,
      ⟨none, (.op (.store 10 (.tmp 7) (.tmp 27))), none⟩] [])
    (.seq (.seq (.region [
      ⟨(some 28), (.op (.faddr 0 (.tmp 5))), none⟩,
      ⟨(some 29), (.op (.load none (.tmp 28))), none⟩] [])
    (.block 0
      (.seq (.region [
        ⟨(some 31), (.op (.bin .eql (some .int) (.tmp 29) (.cst (.int .i64 2)))), none⟩,
        ⟨(some 30), (.op (.mv (.tmp 31))), none⟩] [])
      (.cond (.tmp 30)
        (.region [
          ⟨(some 32), (.op (.faddr 8 (.tmp 7))), none⟩,
          ⟨none, (.op (.store 1 (.tmp 32) (.cst (.int .i64 19)))), none⟩] [])
        (.seq (.region [
          ⟨(some 34), (.op (.bin .eql (some .int) (.tmp 29) (.cst (.int .i64 1)))), none⟩,
          ⟨(some 33), (.op (.mv (.tmp 34))), none⟩] [])
        (.cond (.tmp 33)
          (.seq (.region [
            ⟨(some 36), (.op (.faddr 1 (.tmp 5))), none⟩,
            ⟨(some 37), (.op (.load none (.tmp 36))), none⟩,
            ⟨(some 38), (.call (.cst (.func (.func 37) [] [])) [(.tmp 37)]), none⟩,
            ⟨(some 35), (.op (.mv (.tmp 38))), none⟩,
            ⟨(some 39), (.op (.ext 0 (.tmp 35))), none⟩,
            ⟨(some 40), (.op (.ext 1 (.tmp 35))), none⟩,
            ⟨(some 8), (.op (.box (.cst (.agg [(.int .i64 0), (.int .i64 0), (.int .i64 0), (.int .i64 0), (.int .i64 0), (.int .i64 0), (.str []), .nilSlice])))), none⟩,
            ⟨none, (.op (.store 8 (.tmp 8) (.tmp 39))), none⟩,
            ⟨(some 9), (.op (.mv (.tmp 40))), none⟩] [])
          (.seq (.region [
            ⟨(some 41), (.op (.load (some 8) (.tmp 8))), none⟩,
            ⟨(some 42), (.op (.faddr 0 (.tmp 7))), none⟩,
            ⟨none, (.op (.store 8 (.tmp 42) (.tmp 41))), none⟩] [])
          (.seq (.seq (.region [
            ⟨(some 43), (.op (.mv (.tmp 9))), none⟩] [])
          (.block 1
            (.seq (.region [
              ⟨(some 45), (.op (.bin .eql (some .int) (.tmp 43) (.cst (.int .i64 70)))), none⟩,
              ⟨(some 44), (.op (.mv (.tmp 45))), none⟩] [])
            (.cond (.tmp 44)
              (.region [
                ⟨(some 46), (.op (.faddr 8 (.tmp 7))), none⟩,
                ⟨none, (.op (.store 1 (.tmp 46) (.cst (.int .i64 20)))), none⟩] [])
              (.seq (.region [
                ⟨(some 48), (.op (.bin .eql (some .int) (.tmp 43) (.cst (.int .i64 71)))), none⟩,
                ⟨(some 47), (.op (.mv (.tmp 48))), none⟩] [])
              (.cond (.tmp 47)
                (.region [
                  ⟨(some 49), (.op (.faddr 8 (.tmp 7))), none⟩,
                  ⟨none, (.op (.store 1 (.tmp 49) (.cst (.int .i64 19)))), none⟩] [])
                .skip))))))
          (.seq (.region [
            ⟨(some 50), (.op (.mv (.tmp 9))), none⟩,
            ⟨(some 51), (.op (.bin .eql (some .int) (.tmp 50) (.cst (.int .i64 0)))), none⟩,
            ⟨(some 52), (.op (.mv (.tmp 51))), none⟩,
            ⟨(some 53), (.op (.faddr 0 (.tmp 8))), (some (52, true))⟩,
            ⟨(some 54), (.op (.load none (.tmp 53))), (some (52, true))⟩,
            ⟨(some 55), (.op (.bin .eql (some .int) (.tmp 54) (.cst (.int .i64 1)))), (some (52, true))⟩,
            ⟨(some 56), (.op (.pick (.tmp 52) (.tmp 55) (.cst (.bool false)))), none⟩,
            ⟨(some 57), (.op (.mv (.tmp 56))), none⟩,
            ⟨(some 58), (.op (.mv (.tmp 1))), (some (57, true))⟩,
            ⟨(some 59), (.call (.cst (.func (.func 38) [] [])) [(.tmp 58), (.tmp 7)]), (some (57, true))⟩,
            ⟨(some 60), (.op (.un .not (.tmp 59))), (some (57, true))⟩,
            ⟨(some 61), (.op (.pick (.tmp 57) (.tmp 60) (.cst (.bool false)))), none⟩] [])
          (.cond (.tmp 61)
            (.seq (.region [
              ⟨(some 4), (.op (.mv (.cst (.bool false)))), none⟩] [])
            .ret)
            .skip)))))
          (.seq (.region [
            ⟨(some 4), (.op (.mv (.cst (.bool false)))), none⟩] [])
          .ret)))))))
    (.seq (.seq (.region [
      ⟨(some 62), (.op (.faddr 8 (.tmp 7))), none⟩,
      ⟨(some 63), (.op (.load none (.tmp 62))), none⟩,
      ⟨(some 64), (.op (.bin .neq (some .int) (.tmp 63) (.cst (.int .i64 0)))), none⟩,
      ⟨(some 65), (.op (.mv (.tmp 64))), none⟩,
      ⟨(some 66), (.op (.faddr 0 (.tmp 7))), (some (65, false))⟩,
      ⟨(some 67), (.op (.faddr 0 (.tmp 66))), (some (65, false))⟩,
      ⟨(some 68), (.op (.load none (.tmp 67))), (some (65, false))⟩,
      ⟨(some 69), (.op (.bin .neq (some .int) (.tmp 68) (.cst (.int .i64 25)))), (some (65, false))⟩,
      ⟨(some 70), (.op (.pick (.tmp 65) (.cst (.bool true)) (.tmp 69))), none⟩] [])
    (.cond (.tmp 70)
      (.region [
        ⟨(some 71), (.op (.mv (.tmp 1))), none⟩,
        ⟨(some 72), (.op (.nilc (.tmp 71))), none⟩,
        ⟨(some 73), (.op (.faddr 4 (.tmp 72))), none⟩,
        ⟨none, (.op (.store 1 (.tmp 73) (.tmp 7))), none⟩] [])
      .skip))
    (.seq (.region [
      ⟨(some 4), (.op (.mv (.cst (.bool true)))), none⟩] [])
    .ret))))))))⟩
theorem c23 : cFn Tryz.prog [] Tryz.f23 = some h23 := by kernel_rfl
/-- (*stint/judge.court).breaks -/
def h24 : HFn :=
  ⟨18, [],
    (.seq (.region [
      ⟨(some 5), (.op (.box (.tmp 2))), none⟩] [])
    (.seq (.region [
      ⟨(some 6), (.op (.mv (.tmp 0))), none⟩,
      ⟨(some 7), (.op (.mv (.tmp 1))), none⟩,
      ⟨(some 8), (.op (.nilc (.tmp 6))), none⟩,
      ⟨(some 9), (.op (.faddr 13 (.tmp 8))), none⟩,
      ⟨(some 10), (.op (.idxA 11 1 (.tmp 9) (.tmp 7))), none⟩,
      ⟨(some 11), (.op (.load none (.tmp 10))), none⟩,
      ⟨(some 12), (.op (.bin .eql (some .ptrN) (.tmp 11) (.cst .nilPtr))), none⟩] [])
    (.cond (.tmp 12)
      (.region [
        ⟨(some 13), (.op (.mv (.tmp 0))), none⟩,
        ⟨(some 14), (.op (.mv (.tmp 1))), none⟩,
        ⟨(some 15), (.op (.nilc (.tmp 13))), none⟩,
        ⟨(some 16), (.op (.faddr 13 (.tmp 15))), none⟩,
        ⟨(some 17), (.op (.idxA 11 1 (.tmp 16) (.tmp 14))), none⟩,
        ⟨none, (.op (.store 1 (.tmp 17) (.tmp 5))), none⟩] [])
      .skip)))⟩
theorem c24 : cFn Tryz.prog [] Tryz.f24 = some h24 := by kernel_rfl
/-- (*stint/answers.Reader).Feed -/
def h29 : HFn :=
  ⟨85, [],
    (.seq (.seq (.region [
      ⟨(some 8), (.op (.mv (.tmp 0))), none⟩,
      ⟨(some 9), (.op (.nilc (.tmp 8))), none⟩,
      ⟨(some 10), (.op (.faddr 2 (.tmp 9))), none⟩,
      ⟨(some 11), (.op (.load none (.tmp 10))), none⟩] [])
    (.cond (.tmp 11)
      .ret
      .skip))
    (.seq (.region [
      ⟨(some 12), (.op (.mv (.tmp 0))), none⟩,
      ⟨(some 13), (.op (.mv (.tmp 0))), none⟩,
      ⟨(some 14), (.op (.nilc (.tmp 13))), none⟩,
      ⟨(some 15), (.op (.faddr 1 (.tmp 14))), none⟩,
      ⟨(some 16), (.op (.load none (.tmp 15))), none⟩,
      ⟨(some 17), (.op (.mv (.tmp 1))), none⟩,
      ⟨(some 18), (.op (.append 1 1 (.tmp 16) (.tmp 17))), none⟩,
      ⟨(some 19), (.op (.nilc (.tmp 12))), none⟩,
      ⟨(some 20), (.op (.faddr 1 (.tmp 19))), none⟩,
      ⟨none, (.op (.store 1 (.tmp 20) (.tmp 18))), none⟩] [])
    (.seq (.region [
      ⟨(some 4), (.op (.mv (.cst (.int .i64 0)))), none⟩] [])
    (.seq (.block 0
      (.loop
        (.block 1
          (.seq (.region [
            ⟨(some 22), (.op (.mv (.tmp 0))), none⟩,
            ⟨(some 23), (.op (.nilc (.tmp 22))), none⟩,
            ⟨(some 24), (.op (.faddr 1 (.tmp 23))), none⟩,
            ⟨(some 25), (.op (.load none (.tmp 24))), none⟩,
            ⟨(some 26), (.op (.mv (.tmp 4))), none⟩,
            ⟨(some 27), (.op (.sliceSl 1 (.tmp 25) (some (.tmp 26)) none none)), none⟩,
            ⟨(some 28), (.call (.cst (.func (.func 41) [] [])) [(.tmp 27)]), none⟩,
            ⟨(some 21), (.op (.mv (.tmp 28))), none⟩,
            ⟨(some 29), (.op (.ext 0 (.tmp 21))), none⟩,
            ⟨(some 30), (.op (.ext 1 (.tmp 21))), none⟩,
            ⟨(some 31), (.op (.ext 2 (.tmp 21))), none⟩,
            ⟨(some 5), (.op (.box (.cst (.agg [(.int .i64 0), (.int .i64 0), (.int .i64 0), (.str []), .nilSlice])))), none⟩,
            ⟨none, (.op (.store 5 (.tmp 5) (.tmp 29))), none⟩,
            ⟨(some 6), (.op (.mv (.tmp 30))), none⟩,
            ⟨(some 7), (.op (.mv (.tmp 31))), none⟩] [])
          (.seq (.seq (.region [
            ⟨(some 32), (.op (.mv (.tmp 7))), none⟩,
            ⟨(some 33), (.op (.un .not (.tmp 32))), none⟩] [])
          (.cond (.tmp 33)
            (.seq (.seq (.region [
              ⟨(some 34), (.op (.mv (.tmp 4))), none⟩,
              ⟨(some 35), (.op (.mv (.tmp 6))), none⟩,
              ⟨(some 36), (.op (.bin .add none (.tmp 34) (.tmp 35))), none⟩,
              ⟨(some 37), (.op (.mv (.tmp 0))), none⟩,
              ⟨(some 38), (.op (.nilc (.tmp 37))), none⟩,
              ⟨(some 39), (.op (.faddr 1 (.tmp 38))), none⟩,
              ⟨(some 40), (.op (.load none (.tmp 39))), none⟩,
              ⟨(some 41), (.op (.len .slice (.tmp 40))), none⟩,
              ⟨(some 42), (.op (.bin .lss none (.tmp 36) (.tmp 41))), none⟩] [])
            (.cond (.tmp 42)
              (.region [
                ⟨(some 43), (.op (.mv (.tmp 0))), none⟩,
                ⟨(some 44), (.op (.mv (.tmp 0))), none⟩,
                ⟨(some 45), (.op (.mv (.tmp 0))), none⟩,
                ⟨(some 46), (.op (.nilc (.tmp 45))), none⟩,
                ⟨(some 47), (.op (.faddr 1 (.tmp 46))), none⟩,
                ⟨(some 48), (.op (.load none (.tmp 47))), none⟩,
                ⟨(some 49), (.op (.mv (.tmp 4))), none⟩,
                ⟨(some 50), (.op (.mv (.tmp 6))), none⟩,
                ⟨(some 51), (.op (.bin .add none (.tmp 49) (.tmp 50))), none⟩,
                ⟨(some 52), (.op (.bin .add none (.tmp 51) (.cst (.int .i64 1)))), none⟩,
                ⟨(some 53), (.op (.sliceSl 1 (.tmp 48) none (some (.tmp 52)) none)), none⟩,
                ⟨(some 54), (.op (.nilc (.tmp 43))), none⟩,
                ⟨(some 55), (.op (.faddr 1 (.tmp 54))), none⟩,
                ⟨none, (.op (.store 1 (.tmp 55) (.tmp 53))), none⟩,
                ⟨(some 56), (.op (.nilc (.tmp 44))), none⟩,
                ⟨(some 57), (.op (.faddr 2 (.tmp 56))), none⟩,
                ⟨none, (.op (.store 1 (.tmp 57) (.cst (.bool true)))), none⟩] [])
              .skip))
            (.exit 0))
            .skip))
          (.seq (.draw [
            ⟨(some 58), (.op (.mv (.tmp 0))), none⟩,
            ⟨(some 59), (.op (.mv (.tmp 0))), none⟩,
            ⟨(some 60), (.op (.nilc (.tmp 59))), none⟩,
            ⟨(some 61), (.op (.faddr 0 (.tmp 60))), none⟩,
            ⟨(some 62), (.op (.load none (.tmp 61))), none⟩,
            ⟨(some 63), (.op (.load (some 5) (.tmp 5))), none⟩,
            ⟨(some 64), (.op (.mv (.tmp 6))), none⟩,
            ⟨(some 65), (.op (.build [(.int .i64 0), (.int .i64 0), (.int .i64 0), (.str []), .nilSlice, (.int .i64 0)] [(0, 5, (.tmp 63)), (5, 1, (.tmp 64))])), none⟩,
            ⟨(some 66), (.op (.bslice 6 1 [(.int .i64 0), (.int .i64 0), (.int .i64 0), (.str []), .nilSlice, (.int .i64 0)] [(0, 6, (.tmp 65))])), none⟩,
            ⟨(some 67), (.op (.append 6 72 (.tmp 62) (.tmp 66))), none⟩,
            ⟨(some 68), (.op (.nilc (.tmp 58))), none⟩,
            ⟨(some 69), (.op (.faddr 0 (.tmp 68))), none⟩,
            ⟨none, (.op (.store 1 (.tmp 69) (.tmp 67))), none⟩] [0, 1, 2, 3, 4, 5, 6, 7, 8, 9, 10, 11, 12] [[], [], [], [], [], [], [], [], [5], [4, 5], [], [], [4, 5]] [])
          (.region [
            ⟨(some 70), (.op (.mv (.tmp 4))), none⟩,
            ⟨(some 71), (.op (.mv (.tmp 6))), none⟩,
            ⟨(some 72), (.op (.bin .add none (.tmp 70) (.tmp 71))), none⟩,
            ⟨(some 4), (.op (.mv (.tmp 72))), none⟩] [])))))))
    (.seq (.region [
      ⟨(some 73), (.op (.mv (.tmp 4))), none⟩,
      ⟨(some 74), (.op (.bin .gtr none (.tmp 73) (.cst (.int .i64 0)))), none⟩] [])
    (.cond (.tmp 74)
      (.region [
        ⟨(some 75), (.op (.mv (.tmp 0))), none⟩,
        ⟨(some 76), (.op (.mv (.tmp 0))), none⟩,
        ⟨(some 77), (.op (.nilc (.tmp 76))), none⟩,
        ⟨(some 78), (.op (.faddr 1 (.tmp 77))), none⟩,
        ⟨(some 79), (.op (.load none (.tmp 78))), none⟩,
        ⟨(some 80), (.op (.mv (.tmp 4))), none⟩,
        ⟨(some 81), (.op (.sliceSl 1 (.tmp 79) (some (.tmp 80)) none none)), none⟩,
        ⟨(some 82), (.call (.cst (.func (.func 42) [] [])) [(.tmp 81)]), none⟩,
        ⟨(some 83), (.op (.nilc (.tmp 75))), none⟩,
        ⟨(some 84), (.op (.faddr 1 (.tmp 83))), none⟩,
        ⟨none, (.op (.store 1 (.tmp 84) (.tmp 82))), none⟩] [])
      .skip))))))⟩
theorem c29 : cFn Tryz.prog [] Tryz.f29 = some h29 := by kernel_rfl
/-- (*stint/answers.Reader).Next -/
def h30 : HFn :=
  ⟨40, [(.cell 2 (some 5)), (.tmp 3), (.tmp 4)],
    (.seq (.region [
      ⟨(some 2), (.op (.box (.cst (.agg [(.int .i64 0), (.int .i64 0), (.int .i64 0), (.str []), .nilSlice])))), none⟩,
      ⟨(some 3), (.op (.mv (.cst (.bool false)))), none⟩,
      ⟨(some 4), (.op (.mv (.cst (.int .i64 0)))), none⟩] [])
    (.seq (.block 0
      (.seq (.region [
        ⟨(some 7), (.op (.mv (.tmp 0))), none⟩,
        ⟨(some 8), (.op (.nilc (.tmp 7))), none⟩,
        ⟨(some 9), (.op (.faddr 0 (.tmp 8))), none⟩,
        ⟨(some 10), (.op (.load none (.tmp 9))), none⟩,
        ⟨(some 11), (.op (.len .slice (.tmp 10))), none⟩,
        ⟨(some 12), (.op (.bin .gtr none (.tmp 11) (.cst (.int .i64 0)))), none⟩,
        ⟨(some 6), (.op (.mv (.tmp 12))), none⟩] [])
      (.cond (.tmp 6)
        (.seq (.region [
          ⟨(some 13), (.op (.mv (.tmp 0))), none⟩,
          ⟨(some 14), (.op (.nilc (.tmp 13))), none⟩,
          ⟨(some 15), (.op (.faddr 0 (.tmp 14))), none⟩,
          ⟨(some 16), (.op (.load none (.tmp 15))), none⟩,
          ⟨(some 17), (.op (.idxS 6 (.tmp 16) (.cst (.int .i64 0)))), none⟩,
          ⟨(some 18), (.op (.faddr 0 (.tmp 17))), none⟩,
          ⟨(some 19), (.op (.load (some 5) (.tmp 18))), none⟩,
          ⟨(some 5), (.op (.box (.cst (.agg [(.int .i64 0), (.int .i64 0), (.int .i64 0), (.str []), .nilSlice])))), none⟩,
          ⟨none, (.op (.store 5 (.tmp 5) (.tmp 19))), none⟩] [])
        (.seq (.region [
          ⟨(some 20), (.op (.mv (.tmp 0))), none⟩,
          ⟨(some 21), (.op (.mv (.tmp 0))), none⟩,
          ⟨(some 22), (.op (.nilc (.tmp 21))), none⟩,
          ⟨(some 23), (.op (.faddr 0 (.tmp 22))), none⟩,
          ⟨(some 24), (.op (.load none (.tmp 23))), none⟩,
          ⟨(some 25), (.op (.sliceSl 6 (.tmp 24) (some (.cst (.int .i64 1))) none none)), none⟩,
          ⟨(some 26), (.op (.nilc (.tmp 20))), none⟩,
          ⟨(some 27), (.op (.faddr 0 (.tmp 26))), none⟩,
          ⟨none, (.op (.store 1 (.tmp 27) (.tmp 25))), none⟩] [])
        (.seq (.region [
          ⟨(some 28), (.op (.faddr 4 (.tmp 5))), none⟩,
          ⟨(some 29), (.op (.load none (.tmp 28))), none⟩,
          ⟨(some 30), (.call (.cst (.func (.func 42) [] [])) [(.tmp 29)]), none⟩,
          ⟨(some 31), (.op (.faddr 4 (.tmp 5))), none⟩,
          ⟨none, (.op (.store 1 (.tmp 31) (.tmp 30))), none⟩] [])
        (.seq (.region [
          ⟨(some 32), (.op (.load (some 5) (.tmp 5))), none⟩,
          ⟨none, (.op (.store 5 (.tmp 2) (.tmp 32))), none⟩,
          ⟨(some 3), (.op (.mv (.cst (.bool true)))), none⟩,
          ⟨(some 4), (.op (.mv (.cst (.int .i64 0)))), none⟩] [])
        .ret))))
        (.seq (.region [
          ⟨(some 34), (.op (.mv (.tmp 0))), none⟩,
          ⟨(some 35), (.op (.nilc (.tmp 34))), none⟩,
          ⟨(some 36), (.op (.faddr 2 (.tmp 35))), none⟩,
          ⟨(some 37), (.op (.load none (.tmp 36))), none⟩,
          ⟨(some 33), (.op (.mv (.tmp 37))), none⟩] [])
        (.cond (.tmp 33)
          (.seq (.region [
            ⟨(some 38), (.op (.build [(.int .i64 0), (.int .i64 0), (.int .i64 0), (.str []), .nilSlice] [])), none⟩,
            ⟨none, (.op (.store 5 (.tmp 2) (.tmp 38))), none⟩,
            ⟨(some 3), (.op (.mv (.cst (.bool false)))), none⟩,
            ⟨(some 4), (.op (.mv (.cst (.int .i64 82)))), none⟩] [])
          .ret)
          .skip)))))
    (.seq (.region [
      ⟨(some 39), (.op (.build [(.int .i64 0), (.int .i64 0), (.int .i64 0), (.str []), .nilSlice] [])), none⟩,
      ⟨none, (.op (.store 5 (.tmp 2) (.tmp 39))), none⟩,
      ⟨(some 3), (.op (.mv (.cst (.bool false)))), none⟩,
      ⟨(some 4), (.op (.mv (.cst (.int .i64 0)))), none⟩] [])
    .ret)))⟩
theorem c30 : cFn Tryz.prog [] Tryz.f30 = some h30 := by kernel_rfl
/-- (*stint/judge.court).asks -/
def h31 : HFn :=
  ⟨117, [(.tmp 6)],
    (.seq (.region [
      ⟨(some 6), (.op (.mv (.cst .nilIface))), none⟩] [])
    (.seq (.seq (.region [
      ⟨(some 8), (.op (.mv (.tmp 2))), none⟩,
      ⟨(some 9), (.op (.nilc (.tmp 8))), none⟩,
      ⟨(some 10), (.op (.faddr 8 (.tmp 9))), none⟩,
      ⟨(some 11), (.op (.load none (.tmp 10))), none⟩,
      ⟨(some 12), (.op (.bin .neq (some .int) (.tmp 11) (.cst (.int .i64 0)))), none⟩] [])
    (.cond (.tmp 12)
      (.seq (.region [
        ⟨(some 13), (.op (.mv (.tmp 2))), none⟩,
        ⟨(some 14), (.op (.nilc (.tmp 13))), none⟩,
        ⟨(some 15), (.op (.faddr 8 (.tmp 14))), none⟩,
        ⟨(some 16), (.op (.load none (.tmp 15))), none⟩,
        ⟨(some 17), (.op (.bslice 1 1 [(.int .i64 0)] [(0, 1, (.tmp 16))])), none⟩,
        ⟨(some 18), (.op (.iface 116 (.tmp 17))), none⟩,
        ⟨(some 6), (.op (.mv (.tmp 18))), none⟩] [])
      .ret)
      .skip))
    (.seq (.seq (.region [
      ⟨(some 19), (.op (.mv (.tmp 2))), none⟩,
      ⟨(some 20), (.op (.nilc (.tmp 19))), none⟩,
      ⟨(some 21), (.op (.faddr 0 (.tmp 20))), none⟩,
      ⟨(some 22), (.op (.faddr 0 (.tmp 21))), none⟩,
      ⟨(some 23), (.op (.load none (.tmp 22))), none⟩] [])
    (.block 0
      (.seq (.region [
        ⟨(some 25), (.op (.bin .eql (some .int) (.tmp 23) (.cst (.int .i64 1)))), none⟩,
        ⟨(some 24), (.op (.mv (.tmp 25))), none⟩] [])
      (.cond (.tmp 24)
        (.seq (.seq (.region [
          ⟨(some 26), (.op (.mv (.tmp 0))), none⟩,
          ⟨(some 27), (.op (.nilc (.tmp 26))), none⟩,
          ⟨(some 28), (.op (.faddr 4 (.tmp 27))), none⟩,
          ⟨(some 29), (.op (.load none (.tmp 28))), none⟩] [])
        (.cond (.tmp 29)
          (.seq (.region [
            ⟨(some 30), (.op (.bslice 1 1 [(.int .i64 0)] [(0, 1, (.cst (.int .i64 23)))])), none⟩,
            ⟨(some 31), (.op (.iface 116 (.tmp 30))), none⟩,
            ⟨(some 6), (.op (.mv (.tmp 31))), none⟩] [])
          .ret)
          .skip))
        (.seq (.region [
          ⟨(some 32), (.op (.bslice 1 2 [(.int .i64 0), (.int .i64 0)] [(0, 1, (.cst (.int .i64 1))), (1, 1, (.cst (.int .i64 18)))])), none⟩,
          ⟨(some 33), (.op (.iface 116 (.tmp 32))), none⟩,
          ⟨(some 6), (.op (.mv (.tmp 33))), none⟩] [])
        .ret))
        (.seq (.region [
          ⟨(some 35), (.op (.bin .eql (some .int) (.tmp 23) (.cst (.int .i64 2)))), none⟩,
          ⟨(some 34), (.op (.mv (.tmp 35))), none⟩] [])
        (.cond (.tmp 34)
          (.seq (.region [
            ⟨(some 36), (.op (.mv (.tmp 2))), none⟩,
            ⟨(some 37), (.op (.nilc (.tmp 36))), none⟩,
            ⟨(some 38), (.op (.faddr 0 (.tmp 37))), none⟩,
            ⟨(some 39), (.op (.faddr 6 (.tmp 38))), none⟩,
            ⟨(some 40), (.op (.load none (.tmp 39))), none⟩,
            ⟨(some 41), (.op (.build [(.int .i64 0), (.int .i64 0), (.str [])] [(0, 1, (.cst (.int .i64 2))), (1, 1, (.cst (.int .i64 0))), (2, 1, (.tmp 40))])), none⟩,
            ⟨(some 42), (.op (.build [(.int .i64 0), (.int .i64 0), (.str [])] [(0, 3, (.tmp 41))])), none⟩,
            ⟨(some 43), (.op (.iface 120 (.tmp 42))), none⟩,
            ⟨(some 6), (.op (.mv (.tmp 43))), none⟩] [])
          .ret)
          (.seq (.region [
            ⟨(some 45), (.op (.bin .eql (some .int) (.tmp 23) (.cst (.int .i64 22)))), none⟩,
            ⟨(some 44), (.op (.mv (.tmp 45))), none⟩] [])
          (.cond (.tmp 44)
            (.seq (.region [
              ⟨(some 46), (.op (.mv (.tmp 1))), none⟩,
              ⟨(some 47), (.op (.nilc (.tmp 46))), none⟩,
              ⟨(some 48), (.op (.faddr 2 (.tmp 47))), none⟩,
              ⟨(some 49), (.op (.load none (.tmp 48))), none⟩,
              ⟨(some 50), (.op (.build [(.int .i64 0), (.int .i64 0), (.str [])] [(0, 1, (.cst (.int .i64 2))), (1, 1, (.cst (.int .i64 0))), (2, 1, (.tmp 49))])), none⟩,
              ⟨(some 51), (.op (.build [(.int .i64 0), (.int .i64 0), (.str [])] [(0, 3, (.tmp 50))])), none⟩,
              ⟨(some 52), (.op (.iface 120 (.tmp 51))), none⟩,
              ⟨(some 6), (.op (.mv (.tmp 52))), none⟩] [])
            .ret)
            (.seq (.seq (.region [
              ⟨(some 54), (.op (.bin .eql (some .int) (.tmp 23) (.cst (.int .i64 3)))), none⟩,
              ⟨(some 53), (.op (.mv (.tmp 54))), none⟩] [])
            (.cond (.tmp 53)
              .skip
              (.region [
                ⟨(some 55), (.op (.bin .eql (some .int) (.tmp 23) (.cst (.int .i64 4)))), none⟩,
                ⟨(some 53), (.op (.mv (.tmp 55))), none⟩] [])))
            (.cond (.tmp 53)
              (.seq (.region [
                ⟨(some 56), (.op (.bslice 1 1 [(.int .i64 0)] [(0, 1, (.cst (.int .i64 3)))])), none⟩,
                ⟨(some 7), (.op (.mv (.tmp 56))), none⟩] [])
              (.seq (.seq (.region [
                ⟨(some 57), (.op (.mv (.tmp 0))), none⟩,
                ⟨(some 58), (.op (.mv (.tmp 0))), none⟩,
                ⟨(some 59), (.op (.mv (.tmp 1))), none⟩,
                ⟨(some 60), (.call (.cst (.func (.func 44) [] [])) [(.tmp 58), (.tmp 59)]), none⟩,
                ⟨(some 61), (.call (.cst (.func (.func 43) [] [])) [(.tmp 57), (.tmp 60)]), none⟩] [])
              (.cond (.tmp 61)
                (.region [
                  ⟨(some 62), (.op (.mv (.tmp 7))), none⟩,
                  ⟨(some 63), (.op (.bslice 1 1 [(.int .i64 0)] [(0, 1, (.cst (.int .i64 4)))])), none⟩,
                  ⟨(some 64), (.op (.append 1 8 (.tmp 62) (.tmp 63))), none⟩,
                  ⟨(some 7), (.op (.mv (.tmp 64))), none⟩] [])
                .skip))
              (.seq (.seq (.region [
                ⟨(some 65), (.op (.mv (.tmp 0))), none⟩,
                ⟨(some 66), (.op (.mv (.tmp 2))), none⟩,
                ⟨(some 67), (.call (.cst (.func (.func 25) [] [])) [(.tmp 65), (.tmp 66)]), none⟩] [])
              (.cond (.tmp 67)
                (.region [
                  ⟨(some 68), (.op (.mv (.tmp 7))), none⟩,
                  ⟨(some 69), (.op (.bslice 1 1 [(.int .i64 0)] [(0, 1, (.cst (.int .i64 5)))])), none⟩,
                  ⟨(some 70), (.op (.append 1 8 (.tmp 68) (.tmp 69))), none⟩,
                  ⟨(some 7), (.op (.mv (.tmp 70))), none⟩] [])
                .skip))
              (.seq (.region [
                ⟨(some 71), (.op (.mv (.tmp 7))), none⟩,
                ⟨(some 72), (.op (.iface 116 (.tmp 71))), none⟩,
                ⟨(some 6), (.op (.mv (.tmp 72))), none⟩] [])
              .ret))))
              (.seq (.region [
                ⟨(some 74), (.op (.bin .eql (some .int) (.tmp 23) (.cst (.int .i64 5)))), none⟩,
                ⟨(some 73), (.op (.mv (.tmp 74))), none⟩] [])
              (.cond (.tmp 73)
                (.seq (.region [
                  ⟨(some 75), (.op (.mv (.tmp 2))), none⟩,
                  ⟨(some 76), (.op (.nilc (.tmp 75))), none⟩,
                  ⟨(some 77), (.op (.faddr 0 (.tmp 76))), none⟩,
                  ⟨(some 78), (.op (.faddr 1 (.tmp 77))), none⟩,
                  ⟨(some 79), (.op (.load none (.tmp 78))), none⟩,
                  ⟨(some 80), (.op (.bslice 1 2 [(.int .i64 0), (.int .i64 0)] [(0, 1, (.cst (.int .i64 17))), (1, 1, (.cst (.int .i64 18)))])), none⟩,
                  ⟨(some 81), (.op (.build [(.int .i64 0), (.int .i64 0), .nilSlice] [(0, 1, (.cst (.int .i64 3))), (1, 1, (.tmp 79)), (2, 1, (.tmp 80))])), none⟩,
                  ⟨(some 82), (.op (.iface 124 (.tmp 81))), none⟩,
                  ⟨(some 6), (.op (.mv (.tmp 82))), none⟩] [])
                .ret)
                (.seq (.seq (.region [
                  ⟨(some 84), (.op (.bin .eql (some .int) (.tmp 23) (.cst (.int .i64 10)))), none⟩,
                  ⟨(some 83), (.op (.mv (.tmp 84))), none⟩] [])
                (.cond (.tmp 83)
                  .skip
                  (.region [
                    ⟨(some 85), (.op (.bin .eql (some .int) (.tmp 23) (.cst (.int .i64 11)))), none⟩,
                    ⟨(some 83), (.op (.mv (.tmp 85))), none⟩] [])))
                (.cond (.tmp 83)
                  (.seq (.region [
                    ⟨(some 86), (.op (.mv (.tmp 1))), none⟩,
                    ⟨(some 87), (.op (.mv (.tmp 2))), none⟩,
                    ⟨(some 88), (.op (.nilc (.tmp 87))), none⟩,
                    ⟨(some 89), (.op (.faddr 0 (.tmp 88))), none⟩,
                    ⟨(some 90), (.op (.load (some 8) (.tmp 89))), none⟩,
                    ⟨(some 91), (.call (.cst (.func (.func 45) [] [])) [(.tmp 86), (.tmp 90)]), none⟩,
                    ⟨(some 6), (.op (.mv (.tmp 91))), none⟩] [])
                  .ret)
                  (.seq (.region [
                    ⟨(some 93), (.op (.bin .eql (some .int) (.tmp 23) (.cst (.int .i64 12)))), none⟩,
                    ⟨(some 92), (.op (.mv (.tmp 93))), none⟩] [])
                  (.cond (.tmp 92)
                    (.seq (.region [
                      ⟨(some 94), (.op (.mv (.tmp 2))), none⟩,
                      ⟨(some 95), (.op (.nilc (.tmp 94))), none⟩,
                      ⟨(some 96), (.op (.faddr 0 (.tmp 95))), none⟩,
                      ⟨(some 97), (.op (.faddr 1 (.tmp 96))), none⟩,
                      ⟨(some 98), (.op (.load none (.tmp 97))), none⟩,
                      ⟨(some 99), (.op (.bslice 1 1 [(.int .i64 0)] [(0, 1, (.cst (.int .i64 17)))])), none⟩,
                      ⟨(some 100), (.op (.build [(.int .i64 0), (.int .i64 0), .nilSlice] [(0, 1, (.cst (.int .i64 12))), (1, 1, (.tmp 98)), (2, 1, (.tmp 99))])), none⟩,
                      ⟨(some 101), (.op (.iface 124 (.tmp 100))), none⟩,
                      ⟨(some 6), (.op (.mv (.tmp 101))), none⟩] [])
                    .ret)
                    (.seq (.region [
                      ⟨(some 103), (.op (.bin .eql (some .int) (.tmp 23) (.cst (.int .i64 16)))), none⟩,
                      ⟨(some 102), (.op (.mv (.tmp 103))), none⟩] [])
                    (.cond (.tmp 102)
                      (.seq (.region [
                        ⟨(some 104), (.op (.mv (.tmp 2))), none⟩,
                        ⟨(some 105), (.op (.nilc (.tmp 104))), none⟩,
                        ⟨(some 106), (.op (.faddr 0 (.tmp 105))), none⟩,
                        ⟨(some 107), (.op (.faddr 5 (.tmp 106))), none⟩,
                        ⟨(some 108), (.op (.load none (.tmp 107))), none⟩,
                        ⟨(some 109), (.op (.build [(.int .i64 0)] [(0, 1, (.tmp 108))])), none⟩,
                        ⟨(some 110), (.op (.iface 127 (.tmp 109))), none⟩,
                        ⟨(some 6), (.op (.mv (.tmp 110))), none⟩] [])
                      .ret)
                      .skip))))))))))))))))))
    (.seq (.region [
      ⟨(some 111), (.op (.mv (.tmp 2))), none⟩,
      ⟨(some 112), (.op (.nilc (.tmp 111))), none⟩,
      ⟨(some 113), (.op (.faddr 0 (.tmp 112))), none⟩,
      ⟨(some 114), (.op (.faddr 0 (.tmp 113))), none⟩,
      ⟨(some 115), (.op (.load none (.tmp 114))), none⟩,
      ⟨(some 116), (.call (.cst (.func (.func 46) [] [])) [(.tmp 115)]), none⟩,
      ⟨(some 6), (.op (.mv (.tmp 116))), none⟩] [])
    .ret))))⟩
theorem c31 : cFn Tryz.prog [] Tryz.f31 = some h31 := by kernel_rfl
/-- (*stint/judge.court).reply -/
def h32 : HFn :=
  ⟨152, [],
    (.seq (.region [
      ⟨(some 9), (.op (.box (.tmp 4))), none⟩] [])
    (.seq (.region [
      ⟨(some 14), (.op (.mv (.tmp 3))), none⟩,
      ⟨(some 15), (.op (.load (some 5) (.tmp 9))), none⟩,
      ⟨(some 16), (.call (.cst (.func (.func 47) [] [])) [(.tmp 14), (.tmp 15)]), none⟩,
      ⟨(some 10), (.op (.mv (.tmp 16))), none⟩] [])
    (.seq (.region [
      ⟨(some 17), (.op (.mv (.tmp 10))), none⟩,
      ⟨(some 18), (.op (.bin .neq (some .int) (.tmp 17) (.cst (.int .i64 0)))), none⟩,
      ⟨(some 19), (.op (.mv (.tmp 18))), none⟩,
      ⟨(some 20), (.op (.faddr 0 (.tmp 9))), (some (19, false))⟩,
      ⟨(some 21), (.op (.load none (.tmp 20))), (some (19, false))⟩,
      ⟨(some 22), (.op (.bin .eql (some .int) (.tmp 21) (.cst (.int .i64 6)))), (some (19, false))⟩,
      ⟨(some 23), (.op (.pick (.tmp 19) (.cst (.bool true)) (.tmp 22))), none⟩,
      ⟨(some 24), (.op (.mv (.tmp 23))), none⟩,
      ⟨(some 25), (.op (.faddr 0 (.tmp 9))), (some (24, false))⟩,
      ⟨(some 26), (.op (.load none (.tmp 25))), (some (24, false))⟩,
      ⟨(some 27), (.op (.bin .eql (some .int) (.tmp 26) (.cst (.int .i64 7)))), (some (24, false))⟩,
      ⟨(some 28), (.op (.pick (.tmp 24) (.cst (.bool true)) (.tmp 27))), none⟩,
      ⟨(some 29), (.op (.mv (.tmp 28))), none⟩,
      ⟨(some 30), (.op (.faddr 0 (.tmp 9))), (some (29, false))⟩,
      ⟨(some 31), (.op (.load none (.tmp 30))), (some (29, false))⟩,
      ⟨(some 32), (.op (.bin .eql (some .int) (.tmp 31) (.cst (.int .i64 8)))), (some (29, false))⟩,
      ⟨(some 33), (.op (.pick (.tmp 29) (.cst (.bool true)) (.tmp 32))), none⟩,
      ⟨(some 34), (.op (.mv (.tmp 33))), none⟩,
      ⟨(some 35), (.op (.faddr 0 (.tmp 9))), (some (34, false))⟩,
      ⟨(some 36), (.op (.load none (.tmp 35))), (some (34, false))⟩,
      ⟨(some 37), (.op (.bin .eql (some .int) (.tmp 36) (.cst (.int .i64 9)))), (some (34, false))⟩,
      ⟨(some 38), (.op (.pick (.tmp 34) (.cst (.bool true)) (.tmp 37))), none⟩,
      ⟨(some 39), (.op (.mv (.tmp 38))), none⟩,
      ⟨(some 40), (.op (.faddr 0 (.tmp 9))), (some (39, false))⟩,
      ⟨(some 41), (.op (.load none (.tmp 40))), (some (39, false))⟩,
      ⟨(some 42), (.op (.bin .eql (some .int) (.tmp 41) (.cst (.int .i64 14)))), (some (39, false))⟩,
      ⟨(some 43), (.op (.pick (.tmp 39) (.cst (.bool true)) (.tmp 42))), none⟩,
      ⟨(some 44), (.op (.mv (.tmp 43))), none⟩,
      ⟨(some 45), (.op (.faddr 0 (.tmp 9))), (some (44, false))⟩,
      ⟨(some 46), (.op (.load none (.tmp 45))), (some (44, false))⟩,
      ⟨(some 47), (.op (.bin .eql (some .int) (.tmp 46) (.cst (.int .i64 16)))), (some (44, false))⟩,
      ⟨(some 48), (.op (.mv (.tmp 47))), (some (44, false))⟩,
      ⟨(some 49), (.op (.mv (.tmp 3))), (some (48, true))⟩,
      ⟨(some 50), (.op (.nilc (.tmp 49))), (some (48, true))⟩,
      ⟨(some 51), (.op (.faddr 0 (.tmp 50))), (some (48, true))⟩,
      ⟨(some 52), (.op (.faddr 0 (.tmp 51))), (some (48, true))⟩,
      ⟨(some 53), (.op (.load none (.tmp 52))), (some (48, true))⟩,
      ⟨(some 54), (.op (.bin .eql (some .int) (.tmp 53) (.cst (.int .i64 18)))), (some (48, true))⟩,
      ⟨(some 55), (.op (.pick (.tmp 48) (.tmp 54) (.cst (.bool false)))), (some (44, false))⟩,
      ⟨(some 56), (.op (.pick (.tmp 44) (.cst (.bool true)) (.tmp 55))), none⟩,
      ⟨(some 11), (.op (.mv (.tmp 56))), none⟩] [])
    (.seq (.region [
      ⟨(some 57), (.op (.mv (.tmp 0))), none⟩,
      ⟨(some 58), (.op (.nilc (.tmp 57))), none⟩,
      ⟨(some 59), (.op (.faddr 6 (.tmp 58))), none⟩,
      ⟨(some 60), (.op (.load none (.tmp 59))), none⟩,
      ⟨(some 61), (.op (.mv (.tmp 10))), none⟩,
      ⟨(some 62), (.op (.lookup .int .nilPtr false (.tmp 60) (.tmp 61))), none⟩,
      ⟨(some 12), (.op (.mv (.tmp 62))), none⟩] [])
    (.seq (.seq (.region [
      ⟨(some 63), (.op (.faddr 0 (.tmp 9))), none⟩,
      ⟨(some 64), (.op (.load none (.tmp 63))), none⟩,
      ⟨(some 65), (.op (.bin .eql (some .int) (.tmp 64) (.cst (.int .i64 1)))), none⟩] [])
    (.cond (.tmp 65)
      (.seq (.seq (.region [
        ⟨(some 66), (.op (.mv (.tmp 12))), none⟩,
        ⟨(some 67), (.op (.bin .neq (some .ptrN) (.tmp 66) (.cst .nilPtr))), none⟩] [])
      (.cond (.tmp 67)
        (.seq (.region [
          ⟨(some 68), (.op (.mv (.tmp 0))), none⟩,
          ⟨(some 69), (.op (.mv (.tmp 10))), none⟩,
          ⟨(some 70), (.call (.cst (.func (.func 24) [] [])) [(.tmp 68), (.cst (.int .i64 3)), (.tmp 69)]), none⟩] [])
        .ret)
        .skip))
      (.seq (.region [
        ⟨(some 71), (.op (.mv (.tmp 0))), none⟩,
        ⟨(some 72), (.op (.mv (.tmp 1))), none⟩,
        ⟨(some 73), (.op (.mv (.tmp 3))), none⟩,
        ⟨(some 74), (.op (.mv (.tmp 10))), none⟩,
        ⟨(some 75), (.call (.cst (.func (.func 48) [] [])) [(.tmp 71), (.tmp 72), (.tmp 73), (.tmp 74)]), none⟩] [])
      .ret))
      .skip))
    (.seq (.seq (.region [
      ⟨(some 76), (.op (.mv (.tmp 11))), none⟩,
      ⟨(some 77), (.op (.un .not (.tmp 76))), none⟩] [])
    (.cond (.tmp 77)
      (.seq (.seq (.region [
        ⟨(some 78), (.op (.mv (.tmp 0))), none⟩,
        ⟨(some 79), (.op (.mv (.tmp 1))), none⟩,
        ⟨(some 80), (.op (.mv (.tmp 2))), none⟩,
        ⟨(some 81), (.op (.mv (.tmp 3))), none⟩,
        ⟨(some 82), (.op (.load (some 5) (.tmp 9))), none⟩,
        ⟨(some 83), (.call (.cst (.func (.func 49) [] [])) [(.tmp 78), (.tmp 79), (.tmp 80), (.tmp 81), (.tmp 82)]), none⟩] [])
      (.cond (.tmp 83)
        (.region [
          ⟨(some 84), (.op (.mv (.tmp 0))), none⟩,
          ⟨(some 85), (.op (.mv (.tmp 1))), none⟩,
          ⟨(some 86), (.op (.mv (.tmp 3))), none⟩,
          ⟨(some 87), (.op (.load (some 5) (.tmp 9))), none⟩,
          ⟨(some 88), (.call (.cst (.func (.func 50) [] [])) [(.tmp 84), (.tmp 85), (.tmp 86), (.tmp 87)]), none⟩] [])
        .skip))
      .ret)
      .skip))
    (.seq (.seq (.draw [
      ⟨(some 89), (.op (.mv (.tmp 12))), none⟩,
      ⟨(some 90), (.op (.bin .neq (some .ptrN) (.tmp 89) (.cst .nilPtr))), none⟩,
      ⟨(some 91), (.op (.mv (.tmp 90))), none⟩,
      ⟨(some 92), (.op (.mv (.tmp 12))), (some (91, true))⟩,
      ⟨(some 93), (.op (.nilc (.tmp 92))), (some (91, true))⟩,
      ⟨(some 94), (.op (.faddr 12 (.tmp 93))), (some (91, true))⟩,
      ⟨(some 95), (.op (.load none (.tmp 94))), (some (91, true))⟩,
      ⟨(some 96), (.op (.pick (.tmp 91) (.tmp 95) (.cst (.bool false)))), none⟩,
      ⟨(some 97), (.op (.mv (.tmp 96))), none⟩,
      ⟨(some 98), (.op (.mv (.tmp 12))), (some (97, false))⟩,
      ⟨(some 99), (.op (.bin .eql (some .ptrN) (.tmp 98) (.cst .nilPtr))), (some (97, false))⟩,
      ⟨(some 100), (.op (.mv (.tmp 99))), (some (97, false))⟩,
      ⟨(some 101), (.op (.mv (.tmp 0))), (some (100, true))⟩,
      ⟨(some 102), (.op (.nilc (.tmp 101))), (some (100, true))⟩,
      ⟨(some 103), (.op (.faddr 10 (.tmp 102))), (some (100, true))⟩,
      ⟨(some 104), (.op (.load none (.tmp 103))), (some (100, true))⟩,
      ⟨(some 105), (.op (.mv (.tmp 0))), (some (100, true))⟩,
      ⟨(some 106), (.op (.nilc (.tmp 105))), (some (100, true))⟩,
      ⟨(some 107), (.op (.faddr 9 (.tmp 106))), (some (100, true))⟩,
      ⟨(some 108), (.op (.load none (.tmp 107))), (some (100, true))⟩,
      ⟨(some 109), (.op (.len .slice (.tmp 108))), (some (100, true))⟩,
      ⟨(some 110), (.op (.bin .geq none (.tmp 104) (.tmp 109))), (some (100, true))⟩,
      ⟨(some 111), (.op (.pick (.tmp 100) (.tmp 110) (.cst (.bool false)))), (some (97, false))⟩,
      ⟨(some 112), (.op (.pick (.tmp 97) (.cst (.bool true)) (.tmp 111))), none⟩] [0, 1, 2, 3, 4, 5, 6, 7, 8, 9, 10, 11, 12, 13, 14, 15, 16, 17, 18, 19, 20, 21, 22, 23] [[], [], [], [], [], [], [], [], [], [], [], [], [], [], [], [], [], [], [], [], [], [], [], []] [])
    (.cond (.tmp 112)
      (.seq (.region [
        ⟨(some 113), (.op (.mv (.tmp 0))), none⟩,
        ⟨(some 114), (.op (.mv (.tmp 10))), none⟩,
        ⟨(some 115), (.call (.cst (.func (.func 24) [] [])) [(.tmp 113), (.cst (.int .i64 4)), (.tmp 114)]), none⟩] [])
      .ret)
      .skip))
    (.seq (.region [
      ⟨(some 116), (.op (.mv (.tmp 12))), none⟩,
      ⟨(some 117), (.op (.bin .neq (some .ptrN) (.tmp 116) (.cst .nilPtr))), none⟩,
      ⟨(some 13), (.op (.mv (.tmp 117))), none⟩] [])
    (.seq (.seq (.region [
      ⟨(some 118), (.op (.mv (.tmp 13))), none⟩,
      ⟨(some 119), (.op (.un .not (.tmp 118))), none⟩] [])
    (.cond (.tmp 119)
      (.region [
        ⟨(some 120), (.op (.mv (.tmp 10))), none⟩,
        ⟨(some 121), (.op (.build [(.int .i64 0), .nilSlice, (.str []), (.int .i64 0), (.int .i64 0), (.bool false), (.bool false), (.bool false), (.bool false), (.int .i64 0), (.int .i64 0), (.bool false), (.bool false), (.bool false), (.int .i64 0)] [(0, 1, (.tmp 120)), (9, 1, (.cst (.int .i64 (-1))))])), none⟩,
        ⟨(some 122), (.op (.box (.tmp 121))), none⟩,
        ⟨(some 12), (.op (.mv (.tmp 122))), none⟩] [])
      .skip))
    (.seq (.seq (.region [
      ⟨(some 123), (.op (.mv (.tmp 0))), none⟩,
      ⟨(some 124), (.op (.mv (.tmp 1))), none⟩,
      ⟨(some 125), (.op (.mv (.tmp 2))), none⟩,
      ⟨(some 126), (.op (.mv (.tmp 3))), none⟩,
      ⟨(some 127), (.op (.load (some 5) (.tmp 9))), none⟩,
      ⟨(some 128), (.op (.mv (.tmp 12))), none⟩,
      ⟨(some 129), (.call (.cst (.func (.func 51) [] [])) [(.tmp 123), (.tmp 124), (.tmp 125), (.tmp 126), (.tmp 127), (.tmp 128)]), none⟩,
      ⟨(some 130), (.op (.un .not (.tmp 129))), none⟩] [])
    (.cond (.tmp 130)
      .ret
      .skip))
    (.seq (.seq (.region [
      ⟨(some 131), (.op (.mv (.tmp 13))), none⟩,
      ⟨(some 132), (.op (.un .not (.tmp 131))), none⟩] [])
    (.cond (.tmp 132)
      (.seq (.region [
        ⟨(some 133), (.op (.mv (.tmp 0))), none⟩,
        ⟨(some 134), (.op (.nilc (.tmp 133))), none⟩,
        ⟨(some 135), (.op (.faddr 6 (.tmp 134))), none⟩,
        ⟨(some 136), (.op (.load none (.tmp 135))), none⟩,
        ⟨(some 137), (.op (.mv (.tmp 10))), none⟩,
        ⟨(some 138), (.op (.mv (.tmp 12))), none⟩,
        ⟨none, (.op (.mapUpd .int (.tmp 136) (.tmp 137) (.tmp 138))), none⟩] [])
      (.region [
        ⟨(some 139), (.op (.mv (.tmp 0))), none⟩,
        ⟨(some 140), (.op (.nilc (.tmp 139))), none⟩,
        ⟨(some 141), (.op (.faddr 10 (.tmp 140))), none⟩,
        ⟨(some 142), (.op (.load none (.tmp 141))), none⟩,
        ⟨(some 143), (.op (.bin .add none (.tmp 142) (.cst (.int .i64 1)))), none⟩,
        ⟨(some 144), (.op (.nilc (.tmp 139))), none⟩,
        ⟨(some 145), (.op (.faddr 10 (.tmp 144))), none⟩,
        ⟨none, (.op (.store 1 (.tmp 145) (.tmp 143))), none⟩] []))
      .skip))
    (.region [
      ⟨(some 146), (.op (.mv (.tmp 0))), none⟩,
      ⟨(some 147), (.op (.mv (.tmp 2))), none⟩,
      ⟨(some 148), (.op (.mv (.tmp 3))), none⟩,
      ⟨(some 149), (.op (.load (some 5) (.tmp 9))), none⟩,
      ⟨(some 150), (.op (.mv (.tmp 12))), none⟩,
      ⟨(some 151), (.call (.cst (.func (.func 52) [] [])) [(.tmp 146), (.tmp 147), (.tmp 148), (.tmp 149), (.tmp 150)]), none⟩] []))))))))))))⟩
theorem c32 : cFn Tryz.prog [] Tryz.f32 = some h32 := by kernel_rfl
/-- (*stint/intake.Intake).Next -/
def h36 : HFn :=
  ⟨104, [(.cell 2 (some 3)), (.tmp 3)],
    (.seq (.region [
      ⟨(some 2), (.op (.box (.cst (.agg [(.int .i64 0), (.str []), .nilSlice])))), none⟩,
      ⟨(some 3), (.op (.mv (.cst (.bool false)))), none⟩] [])
    (.scope
      (.seq (.region [
        ⟨(some 4), (.op (.box (.cst (.agg [(.int .i64 0), (.str []), .nilSlice])))), none⟩] [])
      (.seq .lab
      (.seq (.block 0
        (.loop
          (.block 1
            (.seq (.region [
              ⟨(some 6), (.op (.mv (.tmp 0))), none⟩,
              ⟨(some 7), (.op (.nilc (.tmp 6))), none⟩,
              ⟨(some 8), (.op (.faddr 1 (.tmp 7))), none⟩,
              ⟨(some 9), (.op (.load none (.tmp 8))), none⟩] [])
            (.block 2
              (.seq (.region [
                ⟨(some 11), (.op (.bin .eql (some .int) (.tmp 9) (.cst (.int .i64 0)))), none⟩,
                ⟨(some 10), (.op (.mv (.tmp 11))), none⟩] [])
              (.cond (.tmp 10)
                (.seq (.seq (.draw [
                  ⟨(some 12), (.op (.mv (.tmp 0))), none⟩,
                  ⟨(some 13), (.op (.nilc (.tmp 12))), none⟩,
                  ⟨(some 14), (.op (.faddr 2 (.tmp 13))), none⟩,
                  ⟨(some 15), (.op (.load none (.tmp 14))), none⟩,
                  ⟨(some 16), (.op (.mv (.tmp 0))), none⟩,
                  ⟨(some 17), (.op (.nilc (.tmp 16))), none⟩,
                  ⟨(some 18), (.op (.faddr 2 (.tmp 17))), none⟩,
                  ⟨(some 19), (.op (.load none (.tmp 18))), none⟩,
                  ⟨(some 20), (.op (.len .slice (.tmp 19))), none⟩,
                  ⟨(some 21), (.op (.minmax true [(.cst (.int .i64 224)), (.tmp 20)])), none⟩,
                  ⟨(some 22), (.op (.sliceSl 1 (.tmp 15) none (some (.tmp 21)) none)), none⟩,
                  ⟨(some 23), (.op (.bslice 1 2 [(.int .u8 0), (.int .u8 0)] [(0, 1, (.cst (.int .u8 13))), (1, 1, (.cst (.int .u8 10)))])), none⟩,
                  ⟨(some 24), (.call (.cst (.func (.func 56) [] [])) [(.tmp 22), (.tmp 23)]), none⟩,
                  ⟨(some 5), (.op (.mv (.tmp 24))), none⟩] [0, 1, 2, 3, 4, 5, 6, 7, 8, 9, 10, 11, 12, 13] [[], [], [], [], [], [], [], [], [], [], [], [], [10, 3, 8, 7], []] [])
                (.seq (.region [
                  ⟨(some 25), (.op (.mv (.tmp 5))), none⟩,
                  ⟨(some 26), (.op (.bin .geq none (.tmp 25) (.cst (.int .i64 0)))), none⟩] [])
                (.cond (.tmp 26)
                  (.seq (.region [
                    ⟨(some 27), (.op (.mv (.tmp 0))), none⟩,
                    ⟨(some 28), (.op (.mv (.tmp 5))), none⟩,
                    ⟨(some 29), (.op (.bin .add none (.tmp 28) (.cst (.int .i64 2)))), none⟩,
                    ⟨(some 30), (.call (.cst (.func (.func 57) [] [])) [(.tmp 27), (.tmp 29)]), none⟩,
                    ⟨(some 31), (.op (.mv (.tmp 5))), none⟩,
                    ⟨(some 32), (.op (.sliceSl 1 (.tmp 30) none (some (.tmp 31)) none)), none⟩,
                    ⟨(some 33), (.op (.b2s (.tmp 32))), none⟩,
                    ⟨(some 34), (.op (.build [(.int .i64 0), (.str []), .nilSlice] [(0, 1, (.cst (.int .i64 1))), (1, 1, (.tmp 33))])), none⟩,
                    ⟨none, (.op (.store 3 (.tmp 4) (.tmp 34))), none⟩] [])
                  (.exit 0))
                  .skip)))
                (.seq (.seq (.region [
                  ⟨(some 35), (.op (.mv (.tmp 0))), none⟩,
                  ⟨(some 36), (.op (.nilc (.tmp 35))), none⟩,
                  ⟨(some 37), (.op (.faddr 2 (.tmp 36))), none⟩,
                  ⟨(some 38), (.op (.load none (.tmp 37))), none⟩,
                  ⟨(some 39), (.op (.len .slice (.tmp 38))), none⟩,
                  ⟨(some 40), (.op (.bin .lss none (.tmp 39) (.cst (.int .i64 224)))), none⟩] [])
                (.cond (.tmp 40)
                  (.seq (.region [
                    ⟨(some 41), (.op (.build [(.int .i64 0), (.str []), .nilSlice] [])), none⟩,
                    ⟨none, (.op (.store 3 (.tmp 2) (.tmp 41))), none⟩,
                    ⟨(some 3), (.op (.mv (.cst (.bool false)))), none⟩] [])
                  .ret)
                  .skip))
                (.seq (.region [
                  ⟨(some 42), (.op (.mv (.tmp 0))), none⟩,
                  ⟨(some 43), (.op (.mv (.tmp 0))), none⟩,
                  ⟨(some 44), (.op (.mv (.tmp 0))), none⟩,
                  ⟨(some 45), (.op (.nilc (.tmp 42))), none⟩,
                  ⟨(some 46), (.op (.faddr 1 (.tmp 45))), none⟩,
                  ⟨none, (.op (.store 1 (.tmp 46) (.cst (.int .i64 1)))), none⟩,
                  ⟨(some 47), (.op (.nilc (.tmp 43))), none⟩,
                  ⟨(some 48), (.op (.faddr 5 (.tmp 47))), none⟩,
                  ⟨none, (.op (.store 1 (.tmp 48) (.cst (.bool false)))), none⟩,
                  ⟨(some 49), (.op (.nilc (.tmp 44))), none⟩,
                  ⟨(some 50), (.op (.faddr 6 (.tmp 49))), none⟩,
                  ⟨none, (.op (.store 1 (.tmp 50) (.cst (.bool false)))), none⟩] [])
                (.region [
                  ⟨(some 51), (.op (.mv (.tmp 0))), none⟩,
                  ⟨(some 52), (.op (.mv (.tmp 0))), none⟩,
                  ⟨(some 53), (.op (.mv (.tmp 0))), none⟩,
                  ⟨(some 54), (.op (.nilc (.tmp 53))), none⟩,
                  ⟨(some 55), (.op (.faddr 2 (.tmp 54))), none⟩,
                  ⟨(some 56), (.op (.load none (.tmp 55))), none⟩,
                  ⟨(some 57), (.op (.len .slice (.tmp 56))), none⟩,
                  ⟨(some 58), (.call (.cst (.func (.func 57) [] [])) [(.tmp 52), (.tmp 57)]), none⟩,
                  ⟨(some 59), (.call (.cst (.func (.func 20) [] [])) [(.tmp 51), (.tmp 58)]), none⟩] []))))
                (.seq (.region [
                  ⟨(some 61), (.op (.bin .eql (some .int) (.tmp 9) (.cst (.int .i64 1)))), none⟩,
                  ⟨(some 60), (.op (.mv (.tmp 61))), none⟩] [])
                (.cond (.tmp 60)
                  (.seq (.seq (.region [
                    ⟨(some 62), (.op (.mv (.tmp 0))), none⟩,
                    ⟨(some 63), (.op (.nilc (.tmp 62))), none⟩,
                    ⟨(some 64), (.op (.faddr 6 (.tmp 63))), none⟩,
                    ⟨(some 65), (.op (.load none (.tmp 64))), none⟩,
                    ⟨(some 66), (.op (.un .not (.tmp 65))), none⟩] [])
                  (.cond (.tmp 66)
                    (.seq (.region [
                      ⟨(some 67), (.op (.build [(.int .i64 0), (.str []), .nilSlice] [])), none⟩,
                      ⟨none, (.op (.store 3 (.tmp 2) (.tmp 67))), none⟩,
                      ⟨(some 3), (.op (.mv (.cst (.bool false)))), none⟩] [])
                    .ret)
                    .skip))
                  (.seq (.region [
                    ⟨(some 68), (.op (.build [(.int .i64 0), (.str []), .nilSlice] [(0, 1, (.cst (.int .i64 2)))])), none⟩,
                    ⟨none, (.op (.store 3 (.tmp 4) (.tmp 68))), none⟩] [])
                  (.exit 0)))
                  (.seq (.region [
                    ⟨(some 70), (.op (.bin .eql (some .int) (.tmp 9) (.cst (.int .i64 2)))), none⟩,
                    ⟨(some 69), (.op (.mv (.tmp 70))), none⟩] [])
                  (.cond (.tmp 69)
                    (.seq (.seq (.draw [
                      ⟨(some 71), (.op (.mv (.tmp 0))), none⟩,
                      ⟨(some 72), (.op (.nilc (.tmp 71))), none⟩,
                      ⟨(some 73), (.op (.faddr 2 (.tmp 72))), none⟩,
                      ⟨(some 74), (.op (.load none (.tmp 73))), none⟩,
                      ⟨(some 75), (.op (.len .slice (.tmp 74))), none⟩,
                      ⟨(some 76), (.op (.mv (.tmp 0))), none⟩,
                      ⟨(some 77), (.op (.nilc (.tmp 76))), none⟩,
                      ⟨(some 78), (.op (.faddr 3 (.tmp 77))), none⟩,
                      ⟨(some 79), (.op (.load none (.tmp 78))), none⟩,
                      ⟨(some 80), (.op (.bin .add none (.tmp 79) (.cst (.int .i64 2)))), none⟩,
                      ⟨(some 81), (.op (.bin .lss none (.tmp 75) (.tmp 80))), none⟩] [0, 1, 2, 3, 4, 5, 6, 7, 8, 9, 10] [[], [], [], [], [], [], [], [], [], [], []] [])
                    (.cond (.tmp 81)
                      (.seq (.region [
                        ⟨(some 82), (.op (.build [(.int .i64 0), (.str []), .nilSlice] [])), none⟩,
                        ⟨none, (.op (.store 3 (.tmp 2) (.tmp 82))), none⟩,
                        ⟨(some 3), (.op (.mv (.cst (.bool false)))), none⟩] [])
                      .ret)
                      .skip))
                    (.seq (.region [
                      ⟨(some 83), (.op (.mv (.tmp 0))), none⟩,
                      ⟨(some 84), (.op (.mv (.tmp 0))), none⟩,
                      ⟨(some 85), (.op (.nilc (.tmp 84))), none⟩,
                      ⟨(some 86), (.op (.faddr 3 (.tmp 85))), none⟩,
                      ⟨(some 87), (.op (.load none (.tmp 86))), none⟩,
                      ⟨(some 88), (.op (.bin .add none (.tmp 87) (.cst (.int .i64 2)))), none⟩,
                      ⟨(some 89), (.call (.cst (.func (.func 57) [] [])) [(.tmp 83), (.tmp 88)]), none⟩,
                      ⟨(some 90), (.call (.cst (.func (.func 58) [] [])) [(.tmp 89)]), none⟩,
                      ⟨none, (.op (.store 3 (.tmp 4) (.tmp 90))), none⟩] [])
                    (.exit 0)))
                    (.seq (.region [
                      ⟨(some 92), (.op (.bin .eql (some .int) (.tmp 9) (.cst (.int .i64 3)))), none⟩,
                      ⟨(some 91), (.op (.mv (.tmp 92))), none⟩] [])
                    (.cond (.tmp 91)
                      (.seq (.seq (.region [
                        ⟨(some 93), (.op (.mv (.tmp 0))), none⟩,
                        ⟨(some 94), (.op (.nilc (.tmp 93))), none⟩,
                        ⟨(some 95), (.op (.faddr 4 (.tmp 94))), none⟩,
                        ⟨(some 96), (.op (.load none (.tmp 95))), none⟩,
                        ⟨(some 97), (.op (.bin .gtr none (.tmp 96) (.cst (.int .i64 0)))), none⟩] [])
                      (.cond (.tmp 97)
                        (.seq (.region [
                          ⟨(some 98), (.op (.build [(.int .i64 0), (.str []), .nilSlice] [])), none⟩,
                          ⟨none, (.op (.store 3 (.tmp 2) (.tmp 98))), none⟩,
                          ⟨(some 3), (.op (.mv (.cst (.bool false)))), none⟩] [])
                        .ret)
                        .skip))
                      (.seq (.region [
                        ⟨(some 99), (.op (.build [(.int .i64 0), (.str []), .nilSlice] [(0, 1, (.cst (.int .i64 4)))])), none⟩,
                        ⟨none, (.op (.store 3 (.tmp 4) (.tmp 99))), none⟩] [])
                      (.exit 0)))
                      .skip)))))))))))))
      (.seq (.region [
        ⟨(some 100), (.op (.mv (.tmp 0))), none⟩,
        ⟨(some 101), (.op (.nilc (.tmp 100))), none⟩,
        ⟨(some 102), (.op (.faddr 1 (.tmp 101))), none⟩,
        ⟨none, (.op (.store 1 (.tmp 102) (.cst (.int .i64 0)))), none⟩] [])
      (.seq (.region [
        ⟨(some 103), (.op (.load (some 3) (.tmp 4))), none⟩,
        ⟨none, (.op (.store 3 (.tmp 2) (.tmp 103))), none⟩,
        ⟨(some 3), (.op (.mv (.cst (.bool true)))), none⟩] [])
      .ret)))))))⟩
theorem c36 : cFn Tryz.prog [] Tryz.f36 = some h36 := by kernel_rfl
/-- stint/verbs.Parse -/
def h37 : HFn :=
  ⟨76, [(.cell 2 (some 8)), (.tmp 3)],
    (.seq (.region [
      ⟨(some 2), (.op (.box (.cst (.agg [(.int .i64 0), (.int .i64 0), (.int .i64 0), (.int .i64 0), (.int .i64 0), (.int .i64 0), (.str []), .nilSlice])))), none⟩,
      ⟨(some 3), (.op (.mv (.cst (.int .i64 0)))), none⟩] [])
    (.seq (.region [
      ⟨(some 16), (.op (.mv (.tmp 0))), none⟩,
      ⟨(some 17), (.call (.cst (.func (.func 59) [] [])) [(.tmp 16), (.cst (.str [32]))]), none⟩,
      ⟨(some 15), (.op (.mv (.tmp 17))), none⟩,
      ⟨(some 18), (.op (.ext 0 (.tmp 15))), none⟩,
      ⟨(some 19), (.op (.ext 1 (.tmp 15))), none⟩,
      ⟨(some 20), (.op (.ext 2 (.tmp 15))), none⟩,
      ⟨(some 4), (.op (.mv (.tmp 18))), none⟩,
      ⟨(some 5), (.op (.mv (.tmp 19))), none⟩,
      ⟨(some 6), (.op (.mv (.tmp 20))), none⟩] [])
    (.seq (.region [
      ⟨(some 21), (.op (.mv (.tmp 4))), none⟩,
      ⟨(some 22), (.call (.cst (.func (.func 60) [] [])) [(.tmp 21)]), none⟩,
      ⟨(some 7), (.op (.mv (.tmp 22))), none⟩] [])
    (.seq (.seq (.region [
      ⟨(some 23), (.op (.mv (.tmp 7))), none⟩,
      ⟨(some 24), (.op (.bin .eql (some .int) (.tmp 23) (.cst (.int .i64 0)))), none⟩] [])
    (.cond (.tmp 24)
      (.seq (.region [
        ⟨(some 25), (.op (.build [(.int .i64 0), (.int .i64 0), (.int .i64 0), (.int .i64 0), (.int .i64 0), (.int .i64 0), (.str []), .nilSlice] [])), none⟩,
        ⟨none, (.op (.store 8 (.tmp 2) (.tmp 25))), none⟩,
        ⟨(some 3), (.op (.mv (.cst (.int .i64 70)))), none⟩] [])
      .ret)
      .skip))
    (.seq (.region [
      ⟨(some 27), (.op (.mv (.tmp 0))), none⟩,
      ⟨(some 28), (.call (.cst (.func (.func 61) [] [])) [(.tmp 27)]), none⟩,
      ⟨(some 26), (.op (.mv (.tmp 28))), none⟩,
      ⟨(some 29), (.op (.ext 0 (.tmp 26))), none⟩,
      ⟨(some 30), (.op (.ext 1 (.tmp 26))), none⟩,
      ⟨(some 8), (.op (.mv (.tmp 29))), none⟩,
      ⟨(some 9), (.op (.mv (.tmp 30))), none⟩] [])
    (.seq (.region [
      ⟨(some 32), (.op (.mv (.tmp 7))), none⟩,
      ⟨(some 33), (.call (.cst (.func (.func 62) [] [])) [(.tmp 32)]), none⟩,
      ⟨(some 31), (.op (.mv (.tmp 33))), none⟩,
      ⟨(some 34), (.op (.ext 0 (.tmp 31))), none⟩,
      ⟨(some 35), (.op (.ext 1 (.tmp 31))), none⟩,
      ⟨(some 10), (.op (.box (.cst (.agg [(.str []), (.str [])])))), none⟩,
      ⟨none, (.op (.store 2 (.tmp 10) (.tmp 34))), none⟩,
      ⟨(some 11), (.op (.mv (.tmp 35))), none⟩] [])
    (.seq (.seq (.region [
      ⟨(some 36), (.op (.mv (.tmp 9))), none⟩,
      ⟨(some 37), (.op (.un .not (.tmp 36))), none⟩,
      ⟨(some 38), (.op (.mv (.tmp 37))), none⟩,
      ⟨(some 39), (.op (.mv (.tmp 8))), (some (38, false))⟩,
      ⟨(some 40), (.op (.len .slice (.tmp 39))), (some (38, false))⟩,
      ⟨(some 41), (.op (.faddr 1 (.tmp 10))), (some (38, false))⟩,
      ⟨(some 42), (.op (.load none (.tmp 41))), (some (38, false))⟩,
      ⟨(some 43), (.op (.len .str (.tmp 42))), (some (38, false))⟩,
      ⟨(some 44), (.op (.bin .add none (.cst (.int .i64 1)) (.tmp 43))), (some (38, false))⟩,
      ⟨(some 45), (.op (.bin .neq (some .int) (.tmp 40) (.tmp 44))), (some (38, false))⟩,
      ⟨(some 46), (.op (.pick (.tmp 38) (.cst (.bool true)) (.tmp 45))), none⟩] [])
    (.cond (.tmp 46)
      (.seq (.region [
        ⟨(some 47), (.op (.build [(.int .i64 0), (.int .i64 0), (.int .i64 0), (.int .i64 0), (.int .i64 0), (.int .i64 0), (.str []), .nilSlice] [])), none⟩,
        ⟨none, (.op (.store 8 (.tmp 2) (.tmp 47))), none⟩,
        ⟨(some 3), (.op (.mv (.cst (.int .i64 71)))), none⟩] [])
      .ret)
      .skip))
    (.seq (.region [
      ⟨(some 48), (.op (.mv (.tmp 7))), none⟩,
      ⟨(some 49), (.op (.build [(.int .i64 0), (.int .i64 0), (.int .i64 0), (.int .i64 0), (.int .i64 0), (.int .i64 0), (.str []), .nilSlice] [(0, 1, (.tmp 48))])), none⟩,
      ⟨(some 12), (.op (.box (.cst (.agg [(.int .i64 0), (.int .i64 0), (.int .i64 0), (.int .i64 0), (.int .i64 0), (.int .i64 0), (.str []), .nilSlice])))), none⟩,
      ⟨none, (.op (.store 8 (.tmp 12) (.tmp 49))), none⟩] [])
    (.seq (.seq (.region [
      ⟨(some 50), (.op (.faddr 1 (.tmp 10))), none⟩,
      ⟨(some 51), (.op (.load none (.tmp 50))), none⟩,
      ⟨(some 52), (.op (.rangeStr (.tmp 51))), none⟩] [])
    (.block 0
      (.loop
        (.seq (.region [
          ⟨(some 53), (.op (.nextStr (.tmp 52))), none⟩,
          ⟨(some 54), (.op (.ext 0 (.tmp 53))), none⟩] [])
        (.seq (.cond (.tmp 54)
          .skip
          (.exit 0))
        (.block 1
          (.seq (.region [
            ⟨(some 55), (.op (.ext 1 (.tmp 53))), none⟩,
            ⟨(some 56), (.op (.ext 2 (.tmp 53))), none⟩,
            ⟨(some 13), (.op (.mv (.tmp 55))), none⟩,
            ⟨(some 14), (.op (.mv (.tmp 56))), none⟩] [])
          (.seq (.draw [
            ⟨(some 57), (.op (.mv (.tmp 14))), none⟩,
            ⟨(some 58), (.call (.cst (.func (.func 64) [] [])) [(.tmp 57)]), none⟩,
            ⟨(some 59), (.op (.mv (.tmp 8))), none⟩,
            ⟨(some 60), (.op (.mv (.tmp 13))), none⟩,
            ⟨(some 61), (.op (.bin .add none (.tmp 60) (.cst (.int .i64 1)))), none⟩,
            ⟨(some 62), (.op (.idxS 1 (.tmp 59) (.tmp 61))), none⟩,
            ⟨(some 63), (.op (.load none (.tmp 62))), none⟩,
            ⟨(some 64), (.call (.cst (.func (.func 63) [] [])) [(.tmp 12), (.tmp 58), (.tmp 63)]), none⟩,
            ⟨(some 65), (.op (.un .not (.tmp 64))), none⟩] [0, 2, 3, 4, 5, 6, 1, 7, 8] [[], [], [], [], [], [], [], [6, 5], []] [])
          (.cond (.tmp 65)
            (.seq (.region [
              ⟨(some 66), (.op (.build [(.int .i64 0), (.int .i64 0), (.int .i64 0), (.int .i64 0), (.int .i64 0), (.int .i64 0), (.str []), .nilSlice] [])), none⟩,
              ⟨none, (.op (.store 8 (.tmp 2) (.tmp 66))), none⟩,
              ⟨(some 3), (.op (.mv (.cst (.int .i64 71)))), none⟩] [])
            .ret)
            .skip)))))))))
    (.seq (.seq (.region [
      ⟨(some 67), (.op (.mv (.tmp 7))), none⟩,
      ⟨(some 68), (.op (.bin .eql (some .int) (.tmp 67) (.cst (.int .i64 1)))), none⟩,
      ⟨(some 69), (.op (.mv (.tmp 68))), none⟩,
      ⟨(some 70), (.op (.faddr 4 (.tmp 12))), (some (69, true))⟩,
      ⟨(some 71), (.op (.load none (.tmp 70))), (some (69, true))⟩,
      ⟨(some 72), (.op (.bin .eql (some .int) (.tmp 71) (.cst (.int .i64 0)))), (some (69, true))⟩,
      ⟨(some 73), (.op (.pick (.tmp 69) (.tmp 72) (.cst (.bool false)))), none⟩] [])
    (.cond (.tmp 73)
      (.region [
        ⟨(some 74), (.op (.faddr 4 (.tmp 12))), none⟩,
        ⟨none, (.op (.store 1 (.tmp 74) (.cst (.int .i64 1)))), none⟩] [])
      .skip))
    (.seq (.region [
      ⟨(some 75), (.op (.load (some 8) (.tmp 12))), none⟩,
      ⟨none, (.op (.store 8 (.tmp 2) (.tmp 75))), none⟩,
      ⟨(some 3), (.op (.mv (.cst (.int .i64 0)))), none⟩] [])
    .ret)))))))))))⟩
theorem c37 : cFn Tryz.prog [] Tryz.f37 = some h37 := by kernel_rfl
/-- stint/judge.body -/
def h38 : HFn :=
  ⟨44, [(.tmp 4)],
    (.seq (.region [
      ⟨(some 4), (.op (.mv (.cst (.bool false)))), none⟩] [])
    (.seq (.draw [
      ⟨(some 7), (.op (.mv (.tmp 0))), none⟩,
      ⟨(some 8), (.op (.nilc (.tmp 7))), none⟩,
      ⟨(some 9), (.op (.faddr 0 (.tmp 8))), none⟩,
      ⟨(some 10), (.op (.load none (.tmp 9))), none⟩,
      ⟨(some 11), (.op (.mv (.tmp 1))), none⟩,
      ⟨(some 12), (.op (.nilc (.tmp 11))), none⟩,
      ⟨(some 13), (.op (.faddr 0 (.tmp 12))), none⟩,
      ⟨(some 14), (.op (.faddr 5 (.tmp 13))), none⟩,
      ⟨(some 15), (.op (.load none (.tmp 14))), none⟩,
      ⟨(some 16), (.call (.cst (.func (.func 65) [] [])) [(.tmp 10), (.tmp 15)]), none⟩] [0, 1, 2, 3, 4, 5, 6, 7, 8, 9] [[], [], [], [], [], [], [], [], [], [3, 8]] [])
    (.seq (.region [
      ⟨(some 18), (.op (.mv (.tmp 0))), none⟩,
      ⟨(some 19), (.op (.nilc (.tmp 18))), none⟩,
      ⟨(some 20), (.op (.faddr 0 (.tmp 19))), none⟩,
      ⟨(some 21), (.op (.load none (.tmp 20))), none⟩,
      ⟨(some 22), (.call (.cst (.func (.func 36) [] [])) [(.tmp 21)]), none⟩,
      ⟨(some 17), (.op (.mv (.tmp 22))), none⟩,
      ⟨(some 23), (.op (.ext 0 (.tmp 17))), none⟩,
      ⟨(some 24), (.op (.ext 1 (.tmp 17))), none⟩,
      ⟨(some 5), (.op (.box (.cst (.agg [(.int .i64 0), (.str []), .nilSlice])))), none⟩,
      ⟨none, (.op (.store 3 (.tmp 5) (.tmp 23))), none⟩,
      ⟨(some 6), (.op (.mv (.tmp 24))), none⟩] [])
    (.seq (.seq (.region [
      ⟨(some 25), (.op (.faddr 0 (.tmp 5))), none⟩,
      ⟨(some 26), (.op (.load none (.tmp 25))), none⟩] [])
    (.block 0
      (.seq (.region [
        ⟨(some 28), (.op (.bin .eql (some .int) (.tmp 26) (.cst (.int .i64 4)))), none⟩,
        ⟨(some 27), (.op (.mv (.tmp 28))), none⟩] [])
      (.cond (.tmp 27)
        (.region [
          ⟨(some 29), (.op (.mv (.tmp 1))), none⟩,
          ⟨(some 30), (.op (.nilc (.tmp 29))), none⟩,
          ⟨(some 31), (.op (.faddr 8 (.tmp 30))), none⟩,
          ⟨none, (.op (.store 1 (.tmp 31) (.cst (.int .i64 22)))), none⟩] [])
        (.seq (.region [
          ⟨(some 33), (.op (.bin .eql (some .int) (.tmp 26) (.cst (.int .i64 5)))), none⟩,
          ⟨(some 32), (.op (.mv (.tmp 33))), none⟩] [])
        (.cond (.tmp 32)
          (.region [
            ⟨(some 34), (.op (.mv (.tmp 1))), none⟩,
            ⟨(some 35), (.op (.nilc (.tmp 34))), none⟩,
            ⟨(some 36), (.op (.faddr 8 (.tmp 35))), none⟩,
            ⟨none, (.op (.store 1 (.tmp 36) (.cst (.int .i64 21)))), none⟩] [])
          .skip))))))
    (.seq (.region [
      ⟨(some 37), (.op (.mv (.tmp 1))), none⟩,
      ⟨(some 38), (.op (.faddr 2 (.tmp 5))), none⟩,
      ⟨(some 39), (.op (.load none (.tmp 38))), none⟩,
      ⟨(some 40), (.op (.nilc (.tmp 37))), none⟩,
      ⟨(some 41), (.op (.faddr 0 (.tmp 40))), none⟩,
      ⟨(some 42), (.op (.faddr 7 (.tmp 41))), none⟩,
      ⟨none, (.op (.store 1 (.tmp 42) (.tmp 39))), none⟩] [])
    (.seq (.region [
      ⟨(some 43), (.op (.mv (.tmp 6))), none⟩,
      ⟨(some 4), (.op (.mv (.tmp 43))), none⟩] [])
    .ret))))))⟩
theorem c38 : cFn Tryz.prog [] Tryz.f38 = some h38 := by kernel_rfl
/-- stint/answers.first -/
def h41 : HFn :=
  ⟨37, [(.cell 2 (some 5)), (.tmp 3), (.tmp 4)],
    (.seq (.region [
      ⟨(some 2), (.op (.box (.cst (.agg [(.int .i64 0), (.int .i64 0), (.int .i64 0), (.str []), .nilSlice])))), none⟩,
      ⟨(some 3), (.op (.mv (.cst (.int .i64 0)))), none⟩,
      ⟨(some 4), (.op (.mv (.cst (.bool false)))), none⟩] [])
    (.seq (.region [
      ⟨(some 5), (.op (.mv (.cst (.int .i64 0)))), none⟩] [])
    (.seq (.seq (.region [
      ⟨(some 6), (.op (.mv (.cst (.int .i64 1)))), none⟩] [])
    (.block 0
      (.loop
        (.seq (.seq (.region [
          ⟨(some 9), (.op (.mv (.tmp 6))), none⟩,
          ⟨(some 10), (.op (.bin .leq none (.tmp 9) (.cst (.int .i64 23)))), none⟩] [])
        (.cond (.tmp 10)
          .skip
          (.exit 0)))
        (.seq (.block 1
          (.seq (.region [
            ⟨(some 14), (.op (.mv (.tmp 6))), none⟩,
            ⟨(some 15), (.op (.mv (.tmp 0))), none⟩,
            ⟨(some 16), (.call (.cst (.func (.func 68) [] [])) [(.tmp 14), (.tmp 15)]), none⟩,
            ⟨(some 13), (.op (.mv (.tmp 16))), none⟩,
            ⟨(some 17), (.op (.ext 0 (.tmp 13))), none⟩,
            ⟨(some 18), (.op (.ext 1 (.tmp 13))), none⟩,
            ⟨(some 7), (.op (.box (.cst (.agg [(.int .i64 0), (.int .i64 0), (.int .i64 0), (.str []), .nilSlice])))), none⟩,
            ⟨none, (.op (.store 5 (.tmp 7) (.tmp 17))), none⟩,
            ⟨(some 8), (.op (.mv (.tmp 18))), none⟩] [])
          (.seq (.seq (.region [
            ⟨(some 19), (.op (.mv (.tmp 8))), none⟩,
            ⟨(some 20), (.op (.nilc (.tmp 19))), none⟩,
            ⟨(some 21), (.op (.faddr 2 (.tmp 20))), none⟩,
            ⟨(some 22), (.op (.load none (.tmp 21))), none⟩,
            ⟨(some 23), (.op (.un .not (.tmp 22))), none⟩] [])
          (.cond (.tmp 23)
            (.seq (.draw [
              ⟨(some 24), (.op (.load (some 5) (.tmp 7))), none⟩,
              ⟨(some 25), (.op (.mv (.tmp 8))), none⟩,
              ⟨(some 26), (.op (.nilc (.tmp 25))), none⟩,
              ⟨(some 27), (.op (.faddr 1 (.tmp 26))), none⟩,
              ⟨(some 28), (.op (.load none (.tmp 27))), none⟩,
              ⟨none, (.op (.store 5 (.tmp 2) (.tmp 24))), none⟩,
              ⟨(some 3), (.op (.mv (.tmp 28))), none⟩,
              ⟨(some 4), (.op (.mv (.cst (.bool true)))), none⟩] [0, 1, 2, 3, 4, 5, 6, 7] [[], [], [], [], [], [0], [], []] [])
            .ret)
            .skip))
          (.region [
            ⟨(some 29), (.op (.mv (.tmp 5))), none⟩,
            ⟨(some 30), (.op (.mv (.tmp 8))), none⟩,
            ⟨(some 31), (.op (.nilc (.tmp 30))), none⟩,
            ⟨(some 32), (.op (.faddr 1 (.tmp 31))), none⟩,
            ⟨(some 33), (.op (.load none (.tmp 32))), none⟩,
            ⟨(some 34), (.op (.minmax false [(.tmp 29), (.tmp 33)])), none⟩,
            ⟨(some 5), (.op (.mv (.tmp 34))), none⟩] []))))
        (.region [
          ⟨(some 11), (.op (.mv (.tmp 6))), none⟩,
          ⟨(some 12), (.op (.bin .add none (.tmp 11) (.cst (.int .i64 1)))), none⟩,
          ⟨(some 6), (.op (.mv (.tmp 12))), none⟩] []))))))
    (.seq (.region [
      ⟨(some 35), (.op (.build [(.int .i64 0), (.int .i64 0), (.int .i64 0), (.str []), .nilSlice] [])), none⟩,
      ⟨(some 36), (.op (.mv (.tmp 5))), none⟩,
      ⟨none, (.op (.store 5 (.tmp 2) (.tmp 35))), none⟩,
      ⟨(some 3), (.op (.mv (.tmp 36))), none⟩,
      ⟨(some 4), (.op (.mv (.cst (.bool false)))), none⟩] [])
    .ret))))⟩
theorem c41 : cFn Tryz.prog [] Tryz.f41 = some h41 := by kernel_rfl
/-- bytes.Clone -/
def h42 : HFn :=
  ⟨8, [(.tmp 2)],
    (.seq (.region [
      ⟨(some 2), (.op (.mv (.cst .nilSlice))), none⟩] [])
    (.seq (.seq (.region [
      ⟨(some 3), (.op (.mv (.tmp 0))), none⟩,
      ⟨(some 4), (.op (.bin .eql (some .slice) (.tmp 3) (.cst .nilSlice))), none⟩] [])
    (.cond (.tmp 4)
      (.seq (.region [
        ⟨(some 2), (.op (.mv (.cst .nilSlice))), none⟩] [])
      .ret)
      .skip))
    (.seq (.region [
      ⟨(some 5), (.op (.bslice 1 0 [] [])), none⟩,
      ⟨(some 6), (.op (.mv (.tmp 0))), none⟩,
      ⟨(some 7), (.op (.append 1 1 (.tmp 5) (.tmp 6))), none⟩,
      ⟨(some 2), (.op (.mv (.tmp 7))), none⟩] [])
    .ret)))⟩
theorem c42 : cFn Tryz.prog [] Tryz.f42 = some h42 := by kernel_rfl
/-- stint/judge.speaks -/
def h47 : HFn :=
  ⟨37, [(.tmp 4)],
    (.seq (.region [
      ⟨(some 3), (.op (.box (.tmp 1))), none⟩,
      ⟨(some 4), (.op (.mv (.cst (.int .i64 0)))), none⟩] [])
    (.seq (.seq (.region [
      ⟨(some 5), (.op (.faddr 0 (.tmp 3))), none⟩,
      ⟨(some 6), (.op (.load none (.tmp 5))), none⟩] [])
    (.block 0
      (.seq (.seq (.region [
        ⟨(some 8), (.op (.bin .eql (some .int) (.tmp 6) (.cst (.int .i64 1)))), none⟩,
        ⟨(some 7), (.op (.mv (.tmp 8))), none⟩] [])
      (.cond (.tmp 7)
        .skip
        (.seq (.region [
          ⟨(some 9), (.op (.bin .eql (some .int) (.tmp 6) (.cst (.int .i64 3)))), none⟩,
          ⟨(some 7), (.op (.mv (.tmp 9))), none⟩] [])
        (.cond (.tmp 7)
          .skip
          (.region [
            ⟨(some 10), (.op (.bin .eql (some .int) (.tmp 6) (.cst (.int .i64 12)))), none⟩,
            ⟨(some 7), (.op (.mv (.tmp 10))), none⟩] [])))))
      (.cond (.tmp 7)
        (.seq (.region [
          ⟨(some 11), (.op (.faddr 1 (.tmp 3))), none⟩,
          ⟨(some 12), (.op (.load none (.tmp 11))), none⟩,
          ⟨(some 4), (.op (.mv (.tmp 12))), none⟩] [])
        .ret)
        (.seq (.seq (.region [
          ⟨(some 14), (.op (.bin .eql (some .int) (.tmp 6) (.cst (.int .i64 6)))), none⟩,
          ⟨(some 13), (.op (.mv (.tmp 14))), none⟩] [])
        (.cond (.tmp 13)
          .skip
          (.seq (.region [
            ⟨(some 15), (.op (.bin .eql (some .int) (.tmp 6) (.cst (.int .i64 7)))), none⟩,
            ⟨(some 13), (.op (.mv (.tmp 15))), none⟩] [])
          (.cond (.tmp 13)
            .skip
            (.seq (.region [
              ⟨(some 16), (.op (.bin .eql (some .int) (.tmp 6) (.cst (.int .i64 8)))), none⟩,
              ⟨(some 13), (.op (.mv (.tmp 16))), none⟩] [])
            (.cond (.tmp 13)
              .skip
              (.seq (.region [
                ⟨(some 17), (.op (.bin .eql (some .int) (.tmp 6) (.cst (.int .i64 9)))), none⟩,
                ⟨(some 13), (.op (.mv (.tmp 17))), none⟩] [])
              (.cond (.tmp 13)
                .skip
                (.region [
                  ⟨(some 18), (.op (.bin .eql (some .int) (.tmp 6) (.cst (.int .i64 14)))), none⟩,
                  ⟨(some 13), (.op (.mv (.tmp 18))), none⟩] [])))))))))
        (.cond (.tmp 13)
          (.seq (.region [
            ⟨(some 19), (.op (.mv (.tmp 0))), none⟩,
            ⟨(some 20), (.op (.nilc (.tmp 19))), none⟩,
            ⟨(some 21), (.op (.faddr 0 (.tmp 20))), none⟩,
            ⟨(some 22), (.op (.faddr 1 (.tmp 21))), none⟩,
            ⟨(some 23), (.op (.load none (.tmp 22))), none⟩,
            ⟨(some 4), (.op (.mv (.tmp 23))), none⟩] [])
          .ret)
          (.seq (.region [
            ⟨(some 25), (.op (.bin .eql (some .int) (.tmp 6) (.cst (.int .i64 16)))), none⟩,
            ⟨(some 24), (.op (.mv (.tmp 25))), none⟩] [])
          (.cond (.tmp 24)
            (.seq (.region [
              ⟨(some 26), (.op (.mv (.tmp 0))), none⟩,
              ⟨(some 27), (.op (.nilc (.tmp 26))), none⟩,
              ⟨(some 28), (.op (.faddr 0 (.tmp 27))), none⟩,
              ⟨(some 29), (.op (.faddr 0 (.tmp 28))), none⟩,
              ⟨(some 30), (.op (.load none (.tmp 29))), none⟩,
              ⟨(some 31), (.op (.bin .eql (some .int) (.tmp 30) (.cst (.int .i64 18)))), none⟩] [])
            (.cond (.tmp 31)
              (.seq (.region [
                ⟨(some 32), (.op (.mv (.tmp 0))), none⟩,
                ⟨(some 33), (.op (.nilc (.tmp 32))), none⟩,
                ⟨(some 34), (.op (.faddr 0 (.tmp 33))), none⟩,
                ⟨(some 35), (.op (.faddr 1 (.tmp 34))), none⟩,
                ⟨(some 36), (.op (.load none (.tmp 35))), none⟩,
                ⟨(some 4), (.op (.mv (.tmp 36))), none⟩] [])
              .ret)
              .skip))
            .skip))))))))
    (.seq (.region [
      ⟨(some 4), (.op (.mv (.cst (.int .i64 0)))), none⟩] [])
    .ret)))⟩
theorem c47 : cFn Tryz.prog [] Tryz.f47 = some h47 := by kernel_rfl
/-- (*stint/judge.court).inserted -/
def h48 : HFn :=
  ⟨46, [],
    (.seq (.draw [
      ⟨(some 9), (.op (.mv (.tmp 3))), none⟩,
      ⟨(some 10), (.op (.mv (.tmp 2))), none⟩,
      ⟨(some 11), (.op (.nilc (.tmp 10))), none⟩,
      ⟨(some 12), (.op (.faddr 0 (.tmp 11))), none⟩,
      ⟨(some 13), (.op (.faddr 7 (.tmp 12))), none⟩,
      ⟨(some 14), (.op (.load none (.tmp 13))), none⟩,
      ⟨(some 15), (.op (.mv (.tmp 1))), none⟩,
      ⟨(some 16), (.op (.nilc (.tmp 15))), none⟩,
      ⟨(some 17), (.op (.faddr 2 (.tmp 16))), none⟩,
      ⟨(some 18), (.op (.load none (.tmp 17))), none⟩,
      ⟨(some 19), (.op (.mv (.tmp 2))), none⟩,
      ⟨(some 20), (.op (.nilc (.tmp 19))), none⟩,
      ⟨(some 21), (.op (.faddr 0 (.tmp 20))), none⟩,
      ⟨(some 22), (.op (.faddr 2 (.tmp 21))), none⟩,
      ⟨(some 23), (.op (.load none (.tmp 22))), none⟩,
      ⟨(some 24), (.op (.mv (.tmp 2))), none⟩,
      ⟨(some 25), (.op (.nilc (.tmp 24))), none⟩,
      ⟨(some 26), (.op (.faddr 0 (.tmp 25))), none⟩,
      ⟨(some 27), (.op (.faddr 4 (.tmp 26))), none⟩,
      ⟨(some 28), (.op (.load none (.tmp 27))), none⟩,
      ⟨(some 29), (.op (.build [(.int .i64 0), .nilSlice, (.str []), (.int .i64 0), (.int .i64 0), (.bool false), (.bool false), (.bool false), (.bool false), (.int .i64 0), (.int .i64 0), (.bool false), (.bool false), (.bool false), (.int .i64 0)] [(0, 1, (.tmp 9)), (1, 1, (.tmp 14)), (2, 1, (.tmp 18)), (3, 1, (.tmp 23)), (4, 1, (.tmp 28)), (5, 1, (.cst (.bool true))), (6, 1, (.cst (.bool true))), (7, 1, (.cst (.bool true))), (8, 1, (.cst (.bool true))), (9, 1, (.cst (.int .i64 (-1))))])), none⟩,
      ⟨(some 30), (.op (.box (.tmp 29))), none⟩,
      ⟨(some 8), (.op (.mv (.tmp 30))), none⟩] [0, 1, 2, 3, 4, 5, 6, 7, 8, 9, 10, 11, 12, 13, 14, 15, 16, 17, 18, 19, 20, 21, 22] [[], [], [], [], [], [], [], [], [], [], [], [], [], [], [], [], [], [], [], [], [], [5, 9, 14, 19], []] [])
    (.seq (.region [
      ⟨(some 31), (.op (.mv (.tmp 0))), none⟩,
      ⟨(some 32), (.op (.nilc (.tmp 31))), none⟩,
      ⟨(some 33), (.op (.faddr 6 (.tmp 32))), none⟩,
      ⟨(some 34), (.op (.load none (.tmp 33))), none⟩,
      ⟨(some 35), (.op (.mv (.tmp 3))), none⟩,
      ⟨(some 36), (.op (.mv (.tmp 8))), none⟩,
      ⟨none, (.op (.mapUpd .int (.tmp 34) (.tmp 35) (.tmp 36))), none⟩] [])
    (.seq (.region [
      ⟨(some 37), (.op (.mv (.tmp 2))), none⟩,
      ⟨(some 38), (.op (.nilc (.tmp 37))), none⟩,
      ⟨(some 39), (.op (.faddr 0 (.tmp 38))), none⟩,
      ⟨(some 40), (.op (.faddr 3 (.tmp 39))), none⟩,
      ⟨(some 41), (.op (.load none (.tmp 40))), none⟩,
      ⟨(some 42), (.op (.bin .eql (some .int) (.tmp 41) (.cst (.int .i64 0)))), none⟩] [])
    (.cond (.tmp 42)
      (.region [
        ⟨(some 43), (.op (.mv (.tmp 0))), none⟩,
        ⟨(some 44), (.op (.mv (.tmp 8))), none⟩,
        ⟨(some 45), (.call (.cst (.func (.func 70) [] [])) [(.tmp 43), (.tmp 44)]), none⟩] [])
      .skip))))⟩
theorem c48 : cFn Tryz.prog [] Tryz.f48 = some h48 := by kernel_rfl
/-- (*stint/intake.Intake).take -/
def h57 : HFn :=
  ⟨22, [(.tmp 4)],
    (.seq (.region [
      ⟨(some 4), (.op (.mv (.cst .nilSlice))), none⟩] [])
    (.seq (.region [
      ⟨(some 6), (.op (.mv (.tmp 0))), none⟩,
      ⟨(some 7), (.op (.nilc (.tmp 6))), none⟩,
      ⟨(some 8), (.op (.faddr 2 (.tmp 7))), none⟩,
      ⟨(some 9), (.op (.load none (.tmp 8))), none⟩,
      ⟨(some 10), (.op (.mv (.tmp 1))), none⟩,
      ⟨(some 11), (.op (.sliceSl 1 (.tmp 9) none (some (.tmp 10)) none)), none⟩,
      ⟨(some 5), (.op (.mv (.tmp 11))), none⟩] [])
    (.seq (.region [
      ⟨(some 12), (.op (.mv (.tmp 0))), none⟩,
      ⟨(some 13), (.op (.mv (.tmp 0))), none⟩,
      ⟨(some 14), (.op (.nilc (.tmp 13))), none⟩,
      ⟨(some 15), (.op (.faddr 2 (.tmp 14))), none⟩,
      ⟨(some 16), (.op (.load none (.tmp 15))), none⟩,
      ⟨(some 17), (.op (.mv (.tmp 1))), none⟩,
      ⟨(some 18), (.op (.sliceSl 1 (.tmp 16) (some (.tmp 17)) none none)), none⟩,
      ⟨(some 19), (.op (.nilc (.tmp 12))), none⟩,
      ⟨(some 20), (.op (.faddr 2 (.tmp 19))), none⟩,
      ⟨none, (.op (.store 1 (.tmp 20) (.tmp 18))), none⟩] [])
    (.seq (.region [
      ⟨(some 21), (.op (.mv (.tmp 5))), none⟩,
      ⟨(some 4), (.op (.mv (.tmp 21))), none⟩] [])
    .ret))))⟩
theorem c57 : cFn Tryz.prog [] Tryz.f57 = some h57 := by kernel_rfl
/-- stint/intake.body -/
def h58 : HFn :=
  ⟨26, [(.cell 2 (some 3))],
    (.seq (.region [
      ⟨(some 2), (.op (.box (.cst (.agg [(.int .i64 0), (.str []), .nilSlice])))), none⟩] [])
    (.seq (.region [
      ⟨(some 4), (.op (.mv (.tmp 0))), none⟩,
      ⟨(some 5), (.op (.len .slice (.tmp 4))), none⟩,
      ⟨(some 6), (.op (.bin .sub none (.tmp 5) (.cst (.int .i64 2)))), none⟩,
      ⟨(some 3), (.op (.mv (.tmp 6))), none⟩] [])
    (.seq (.seq (.region [
      ⟨(some 7), (.op (.mv (.tmp 0))), none⟩,
      ⟨(some 8), (.op (.mv (.tmp 3))), none⟩,
      ⟨(some 9), (.op (.idxS 1 (.tmp 7) (.tmp 8))), none⟩,
      ⟨(some 10), (.op (.load none (.tmp 9))), none⟩,
      ⟨(some 11), (.op (.bin .neq (some .int) (.tmp 10) (.cst (.int .u8 13)))), none⟩,
      ⟨(some 12), (.op (.mv (.tmp 11))), none⟩,
      ⟨(some 13), (.op (.mv (.tmp 0))), (some (12, false))⟩,
      ⟨(some 14), (.op (.mv (.tmp 3))), (some (12, false))⟩,
      ⟨(some 15), (.op (.bin .add none (.tmp 14) (.cst (.int .i64 1)))), (some (12, false))⟩,
      ⟨(some 16), (.op (.idxS 1 (.tmp 13) (.tmp 15))), (some (12, false))⟩,
      ⟨(some 17), (.op (.load none (.tmp 16))), (some (12, false))⟩,
      ⟨(some 18), (.op (.bin .neq (some .int) (.tmp 17) (.cst (.int .u8 10)))), (some (12, false))⟩,
      ⟨(some 19), (.op (.pick (.tmp 12) (.cst (.bool true)) (.tmp 18))), none⟩] [])
    (.cond (.tmp 19)
      (.seq (.region [
        ⟨(some 20), (.op (.build [(.int .i64 0), (.str []), .nilSlice] [(0, 1, (.cst (.int .i64 5)))])), none⟩,
        ⟨none, (.op (.store 3 (.tmp 2) (.tmp 20))), none⟩] [])
      .ret)
      .skip))
    (.seq (.region [
      ⟨(some 21), (.op (.mv (.tmp 0))), none⟩,
      ⟨(some 22), (.op (.mv (.tmp 3))), none⟩,
      ⟨(some 23), (.op (.sliceSl 1 (.tmp 21) none (some (.tmp 22)) none)), none⟩,
      ⟨(some 24), (.call (.cst (.func (.func 84) [] [])) [(.tmp 23)]), none⟩,
      ⟨(some 25), (.op (.build [(.int .i64 0), (.str []), .nilSlice] [(0, 1, (.cst (.int .i64 3))), (2, 1, (.tmp 24))])), none⟩,
      ⟨none, (.op (.store 3 (.tmp 2) (.tmp 25))), none⟩] [])
    .ret))))⟩
theorem c58 : cFn Tryz.prog [] Tryz.f58 = some h58 := by kernel_rfl
/-- strings.Cut -/
def h59 : HFn :=
  ⟨13, [(.tmp 4), (.tmp 5), (.tmp 6)],
    (.seq (.region [
      ⟨(some 4), (.op (.mv (.cst (.str [])))), none⟩,
      ⟨(some 5), (.op (.mv (.cst (.str [])))), none⟩,
      ⟨(some 6), (.op (.mv (.cst (.bool false)))), none⟩] [])
    (.seq (.region [
      ⟨(some 7), (.op (.mv (.tmp 0))), none⟩,
      ⟨(some 8), (.op (.mv (.tmp 1))), none⟩,
      ⟨(some 9), (.call (.cst (.func (.func 85) [] [])) [(.tmp 7), (.tmp 8)]), none⟩,
      ⟨(some 10), (.op (.ext 0 (.tmp 9))), none⟩,
      ⟨(some 11), (.op (.ext 1 (.tmp 9))), none⟩,
      ⟨(some 12), (.op (.ext 2 (.tmp 9))), none⟩,
      ⟨(some 4), (.op (.mv (.tmp 10))), none⟩,
      ⟨(some 5), (.op (.mv (.tmp 11))), none⟩,
      ⟨(some 6), (.op (.mv (.tmp 12))), none⟩] [])
    .ret))⟩
theorem c59 : cFn Tryz.prog [] Tryz.f59 = some h59 := by kernel_rfl
/-- stint/verbs.kindOf -/
def h60 : HFn :=
  ⟨20, [(.tmp 2)],
    (.seq (.region [
      ⟨(some 2), (.op (.mv (.cst (.int .i64 0)))), none⟩] [])
    (.seq (.seq (.region [
      ⟨(some 5), (.call (.cst (.func (.func 86) [] [])) []), none⟩,
      ⟨(some 6), (.op (.mv (.cst (.int .i64 0)))), none⟩] [])
    (.block 0
      (.loop
        (.seq (.region [
          ⟨(some 7), (.op (.bin .lss none (.tmp 6) (.cst (.int .i64 26)))), none⟩] [])
        (.seq (.cond (.tmp 7)
          .skip
          (.exit 0))
        (.seq (.block 1
          (.seq (.region [
            ⟨(some 8), (.op (.mv (.tmp 6))), none⟩,
            ⟨(some 9), (.op (.idxV 26 2 (some 2) (.tmp 5) (.tmp 6))), none⟩,
            ⟨(some 4), (.op (.box (.cst (.agg [(.str []), (.str [])])))), none⟩,
            ⟨(some 3), (.op (.mv (.tmp 8))), none⟩,
            ⟨none, (.op (.store 2 (.tmp 4) (.tmp 9))), none⟩] [])
          (.seq (.region [
            ⟨(some 10), (.op (.mv (.tmp 3))), none⟩,
            ⟨(some 11), (.op (.bin .gtr none (.tmp 10) (.cst (.int .i64 0)))), none⟩,
            ⟨(some 12), (.op (.mv (.tmp 11))), none⟩,
            ⟨(some 13), (.op (.faddr 0 (.tmp 4))), (some (12, true))⟩,
            ⟨(some 14), (.op (.load none (.tmp 13))), (some (12, true))⟩,
            ⟨(some 15), (.op (.mv (.tmp 0))), (some (12, true))⟩,
            ⟨(some 16), (.op (.bin .eql (some .str) (.tmp 14) (.tmp 15))), (some (12, true))⟩,
            ⟨(some 17), (.op (.pick (.tmp 12) (.tmp 16) (.cst (.bool false)))), none⟩] [])
          (.cond (.tmp 17)
            (.seq (.region [
              ⟨(some 18), (.op (.mv (.tmp 3))), none⟩,
              ⟨(some 2), (.op (.mv (.tmp 18))), none⟩] [])
            .ret)
            .skip))))
        (.region [
          ⟨(some 19), (.op (.bin .add none (.tmp 6) (.cst (.int .i64 1)))), none⟩,
          ⟨(some 6), (.op (.mv (.tmp 19))), none⟩] [])))))))
    (.seq (.region [
      ⟨(some 2), (.op (.mv (.cst (.int .i64 0)))), none⟩] [])
    .ret)))⟩
theorem c60 : cFn Tryz.prog [] Tryz.f60 = some h60 := by kernel_rfl
/-- stint/digits.Split -/
def h61 : HFn :=
  ⟨11, [(.tmp 2), (.tmp 3)],
    (.seq (.region [
      ⟨(some 2), (.op (.mv (.cst .nilSlice))), none⟩,
      ⟨(some 3), (.op (.mv (.cst (.bool false)))), none⟩] [])
    (.seq (.region [
      ⟨(some 5), (.op (.mv (.tmp 0))), none⟩,
      ⟨(some 6), (.call (.cst (.func (.func 87) [] [])) [(.tmp 5), (.cst (.str [32]))]), none⟩,
      ⟨(some 4), (.op (.mv (.tmp 6))), none⟩] [])
    (.seq (.seq (.region [
      ⟨(some 7), (.op (.mv (.tmp 4))), none⟩,
      ⟨(some 8), (.call (.cst (.func (.func 88) [] [])) [(.tmp 7)]), none⟩,
      ⟨(some 9), (.op (.un .not (.tmp 8))), none⟩] [])
    (.cond (.tmp 9)
      (.seq (.region [
        ⟨(some 2), (.op (.mv (.cst .nilSlice))), none⟩,
        ⟨(some 3), (.op (.mv (.cst (.bool false)))), none⟩] [])
      .ret)
      .skip))
    (.seq (.region [
      ⟨(some 10), (.op (.mv (.tmp 4))), none⟩,
      ⟨(some 2), (.op (.mv (.tmp 10))), none⟩,
      ⟨(some 3), (.op (.mv (.cst (.bool true)))), none⟩] [])
    .ret))))⟩
theorem c61 : cFn Tryz.prog [] Tryz.f61 = some h61 := by kernel_rfl
/-- stint/verbs.formOf -/
def h62 : HFn :=
  ⟨14, [(.cell 2 (some 2)), (.tmp 3)],
    (.seq (.region [
      ⟨(some 2), (.op (.box (.cst (.agg [(.str []), (.str [])])))), none⟩,
      ⟨(some 3), (.op (.mv (.cst (.bool false)))), none⟩] [])
    (.seq (.seq (.region [
      ⟨(some 4), (.op (.mv (.tmp 0))), none⟩,
      ⟨(some 5), (.op (.bin .lss none (.tmp 4) (.cst (.int .i64 1)))), none⟩,
      ⟨(some 6), (.op (.mv (.tmp 5))), none⟩,
      ⟨(some 7), (.op (.mv (.tmp 0))), (some (6, false))⟩,
      ⟨(some 8), (.op (.bin .gtr none (.tmp 7) (.cst (.int .i64 25)))), (some (6, false))⟩,
      ⟨(some 9), (.op (.pick (.tmp 6) (.cst (.bool true)) (.tmp 8))), none⟩] [])
    (.cond (.tmp 9)
      (.seq (.region [
        ⟨(some 10), (.op (.build [(.str []), (.str [])] [])), none⟩,
        ⟨none, (.op (.store 2 (.tmp 2) (.tmp 10))), none⟩,
        ⟨(some 3), (.op (.mv (.cst (.bool false)))), none⟩] [])
      .ret)
      .skip))
    (.seq (.region [
      ⟨(some 11), (.call (.cst (.func (.func 86) [] [])) []), none⟩,
      ⟨(some 12), (.op (.mv (.tmp 0))), none⟩,
      ⟨(some 13), (.op (.idxV 26 2 (some 2) (.tmp 11) (.tmp 12))), none⟩,
      ⟨none, (.op (.store 2 (.tmp 2) (.tmp 13))), none⟩,
      ⟨(some 3), (.op (.mv (.cst (.bool true)))), none⟩] [])
    .ret)))⟩
theorem c62 : cFn Tryz.prog [] Tryz.f62 = some h62 := by kernel_rfl
/-- stint/verbs.read -/
def h63 : HFn :=
  ⟨30, [(.tmp 6)],
    (.seq (.region [
      ⟨(some 6), (.op (.mv (.cst (.bool false)))), none⟩] [])
    (.seq (.seq (.region [
      ⟨(some 9), (.op (.mv (.tmp 1))), none⟩,
      ⟨(some 10), (.op (.bin .eql (some .int) (.tmp 9) (.cst (.int .i64 6)))), none⟩] [])
    (.cond (.tmp 10)
      (.seq (.region [
        ⟨(some 11), (.op (.mv (.tmp 0))), none⟩,
        ⟨(some 12), (.op (.mv (.tmp 2))), none⟩,
        ⟨(some 13), (.op (.nilc (.tmp 11))), none⟩,
        ⟨(some 14), (.op (.faddr 6 (.tmp 13))), none⟩,
        ⟨none, (.op (.store 1 (.tmp 14) (.tmp 12))), none⟩] [])
      (.seq (.region [
        ⟨(some 15), (.op (.mv (.tmp 2))), none⟩,
        ⟨(some 16), (.call (.cst (.func (.func 89) [] [])) [(.tmp 15)]), none⟩,
        ⟨(some 6), (.op (.mv (.tmp 16))), none⟩] [])
      .ret))
      .skip))
    (.seq (.region [
      ⟨(some 18), (.op (.mv (.tmp 2))), none⟩,
      ⟨(some 19), (.op (.mv (.tmp 1))), none⟩,
      ⟨(some 20), (.call (.cst (.func (.func 91) [] [])) [(.tmp 19)]), none⟩,
      ⟨(some 21), (.call (.cst (.func (.func 90) [] [])) [(.tmp 18), (.tmp 20)]), none⟩,
      ⟨(some 17), (.op (.mv (.tmp 21))), none⟩,
      ⟨(some 22), (.op (.ext 0 (.tmp 17))), none⟩,
      ⟨(some 23), (.op (.ext 1 (.tmp 17))), none⟩,
      ⟨(some 7), (.op (.mv (.tmp 22))), none⟩,
      ⟨(some 8), (.op (.mv (.tmp 23))), none⟩] [])
    (.seq (.region [
      ⟨(some 24), (.op (.mv (.tmp 0))), none⟩,
      ⟨(some 25), (.op (.mv (.tmp 1))), none⟩,
      ⟨(some 26), (.call (.cst (.func (.func 92) [] [])) [(.tmp 24), (.tmp 25)]), none⟩,
      ⟨(some 27), (.op (.mv (.tmp 7))), none⟩,
      ⟨(some 28), (.op (.nilc (.tmp 26))), none⟩,
      ⟨none, (.op (.store 1 (.tmp 28) (.tmp 27))), none⟩] [])
    (.seq (.region [
      ⟨(some 29), (.op (.mv (.tmp 8))), none⟩,
      ⟨(some 6), (.op (.mv (.tmp 29))), none⟩] [])
    .ret)))))⟩
theorem c63 : cFn Tryz.prog [] Tryz.f63 = some h63 := by kernel_rfl
/-- stint/verbs.fieldOf -/
def h64 : HFn :=
  ⟨14, [(.tmp 2)],
    (.seq (.region [
      ⟨(some 2), (.op (.mv (.cst (.int .i64 0)))), none⟩] [])
    (.seq (.seq (.region [
      ⟨(some 3), (.op (.mv (.tmp 0))), none⟩] [])
    (.block 0
      (.seq (.region [
        ⟨(some 5), (.op (.bin .eql (some .int) (.tmp 3) (.cst (.int .i32 105)))), none⟩,
        ⟨(some 4), (.op (.mv (.tmp 5))), none⟩] [])
      (.cond (.tmp 4)
        (.seq (.region [
          ⟨(some 2), (.op (.mv (.cst (.int .i64 1)))), none⟩] [])
        .ret)
        (.seq (.region [
          ⟨(some 7), (.op (.bin .eql (some .int) (.tmp 3) (.cst (.int .i32 112)))), none⟩,
          ⟨(some 6), (.op (.mv (.tmp 7))), none⟩] [])
        (.cond (.tmp 6)
          (.seq (.region [
            ⟨(some 2), (.op (.mv (.cst (.int .i64 2)))), none⟩] [])
          .ret)
          (.seq (.region [
            ⟨(some 9), (.op (.bin .eql (some .int) (.tmp 3) (.cst (.int .i32 100)))), none⟩,
            ⟨(some 8), (.op (.mv (.tmp 9))), none⟩] [])
          (.cond (.tmp 8)
            (.seq (.region [
              ⟨(some 2), (.op (.mv (.cst (.int .i64 3)))), none⟩] [])
            .ret)
            (.seq (.region [
              ⟨(some 11), (.op (.bin .eql (some .int) (.tmp 3) (.cst (.int .i32 116)))), none⟩,
              ⟨(some 10), (.op (.mv (.tmp 11))), none⟩] [])
            (.cond (.tmp 10)
              (.seq (.region [
                ⟨(some 2), (.op (.mv (.cst (.int .i64 4)))), none⟩] [])
              .ret)
              (.seq (.region [
                ⟨(some 13), (.op (.bin .eql (some .int) (.tmp 3) (.cst (.int .i32 110)))), none⟩,
                ⟨(some 12), (.op (.mv (.tmp 13))), none⟩] [])
              (.cond (.tmp 12)
                (.seq (.region [
                  ⟨(some 2), (.op (.mv (.cst (.int .i64 5)))), none⟩] [])
                .ret)
                .skip))))))))))))
    (.seq (.region [
      ⟨(some 2), (.op (.mv (.cst (.int .i64 6)))), none⟩] [])
    .ret)))⟩
theorem c64 : cFn Tryz.prog [] Tryz.f64 = some h64 := by kernel_rfl
/-- (*stint/intake.Intake).Body -/
def h65 : HFn :=
  ⟨48, [(.tmp 4)],
    (.seq (.region [
      ⟨(some 4), (.op (.mv (.cst (.int .i64 0)))), none⟩] [])
    (.seq (.seq (.region [
      ⟨(some 5), (.op (.mv (.tmp 1))), none⟩,
      ⟨(some 6), (.op (.bin .lss none (.tmp 5) (.cst (.int .i64 0)))), none⟩,
      ⟨(some 7), (.op (.mv (.tmp 6))), none⟩,
      ⟨(some 8), (.op (.mv (.tmp 1))), (some (7, false))⟩,
      ⟨(some 9), (.op (.bin .gtr none (.tmp 8) (.cst (.int .i64 4294967295)))), (some (7, false))⟩,
      ⟨(some 10), (.op (.pick (.tmp 7) (.cst (.bool true)) (.tmp 9))), none⟩,
      ⟨(some 11), (.op (.mv (.tmp 10))), none⟩,
      ⟨(some 12), (.op (.mv (.tmp 0))), (some (11, false))⟩,
      ⟨(some 13), (.op (.nilc (.tmp 12))), (some (11, false))⟩,
      ⟨(some 14), (.op (.faddr 1 (.tmp 13))), (some (11, false))⟩,
      ⟨(some 15), (.op (.load none (.tmp 14))), (some (11, false))⟩,
      ⟨(some 16), (.op (.bin .neq (some .int) (.tmp 15) (.cst (.int .i64 0)))), (some (11, false))⟩,
      ⟨(some 17), (.op (.pick (.tmp 11) (.cst (.bool true)) (.tmp 16))), none⟩] [])
    (.cond (.tmp 17)
      (.seq (.region [
        ⟨(some 4), (.op (.mv (.cst (.int .i64 61)))), none⟩] [])
      .ret)
      .skip))
    (.seq (.seq (.region [
      ⟨(some 18), (.op (.mv (.tmp 1))), none⟩,
      ⟨(some 19), (.op (.mv (.tmp 0))), none⟩,
      ⟨(some 20), (.op (.nilc (.tmp 19))), none⟩,
      ⟨(some 21), (.op (.faddr 0 (.tmp 20))), none⟩,
      ⟨(some 22), (.op (.load none (.tmp 21))), none⟩,
      ⟨(some 23), (.op (.bin .leq none (.tmp 18) (.tmp 22))), none⟩] [])
    (.cond (.tmp 23)
      (.seq (.region [
        ⟨(some 24), (.op (.mv (.tmp 0))), none⟩,
        ⟨(some 25), (.op (.mv (.tmp 0))), none⟩,
        ⟨(some 26), (.op (.mv (.tmp 1))), none⟩,
        ⟨(some 27), (.op (.nilc (.tmp 24))), none⟩,
        ⟨(some 28), (.op (.faddr 1 (.tmp 27))), none⟩,
        ⟨none, (.op (.store 1 (.tmp 28) (.cst (.int .i64 2)))), none⟩,
        ⟨(some 29), (.op (.nilc (.tmp 25))), none⟩,
        ⟨(some 30), (.op (.faddr 3 (.tmp 29))), none⟩,
        ⟨none, (.op (.store 1 (.tmp 30) (.tmp 26))), none⟩] [])
      (.seq (.region [
        ⟨(some 4), (.op (.mv (.cst (.int .i64 0)))), none⟩] [])
      .ret))
      .skip))
    (.seq (.region [
      ⟨(some 31), (.op (.mv (.tmp 0))), none⟩,
      ⟨(some 32), (.op (.mv (.tmp 0))), none⟩,
      ⟨(some 33), (.op (.mv (.tmp 1))), none⟩,
      ⟨(some 34), (.op (.bin .add none (.tmp 33) (.cst (.int .i64 2)))), none⟩,
      ⟨(some 35), (.op (.nilc (.tmp 31))), none⟩,
      ⟨(some 36), (.op (.faddr 1 (.tmp 35))), none⟩,
      ⟨none, (.op (.store 1 (.tmp 36) (.cst (.int .i64 3)))), none⟩,
      ⟨(some 37), (.op (.nilc (.tmp 32))), none⟩,
      ⟨(some 38), (.op (.faddr 4 (.tmp 37))), none⟩,
      ⟨none, (.op (.store 1 (.tmp 38) (.tmp 34))), none⟩] [])
    (.seq (.region [
      ⟨(some 39), (.op (.mv (.tmp 0))), none⟩,
      ⟨(some 40), (.op (.mv (.tmp 0))), none⟩,
      ⟨(some 41), (.op (.mv (.tmp 0))), none⟩,
      ⟨(some 42), (.op (.nilc (.tmp 41))), none⟩,
      ⟨(some 43), (.op (.faddr 2 (.tmp 42))), none⟩,
      ⟨(some 44), (.op (.load none (.tmp 43))), none⟩,
      ⟨(some 45), (.call (.cst (.func (.func 28) [] [])) [(.tmp 40), (.tmp 44)]), none⟩,
      ⟨(some 46), (.op (.nilc (.tmp 39))), none⟩,
      ⟨(some 47), (.op (.faddr 2 (.tmp 46))), none⟩,
      ⟨none, (.op (.store 1 (.tmp 47) (.tmp 45))), none⟩] [])
    (.seq (.region [
      ⟨(some 4), (.op (.mv (.cst (.int .i64 0)))), none⟩] [])
    .ret))))))⟩
theorem c65 : cFn Tryz.prog [] Tryz.f65 = some h65 := by kernel_rfl
/-- (stint/judge.ranking).Len -/
def h66 : HFn :=
  ⟨5, [(.tmp 2)],
    (.seq (.region [
      ⟨(some 2), (.op (.mv (.cst (.int .i64 0)))), none⟩] [])
    (.seq (.region [
      ⟨(some 3), (.op (.mv (.tmp 0))), none⟩,
      ⟨(some 4), (.op (.len .slice (.tmp 3))), none⟩,
      ⟨(some 2), (.op (.mv (.tmp 4))), none⟩] [])
    .ret))⟩
theorem c66 : cFn Tryz.prog [] Tryz.f66 = some h66 := by kernel_rfl
/-- stint/answers.form -/
def h68 : HFn :=
  ⟨67, [(.cell 4 (some 5)), (.tmp 5)],
    (.seq (.region [
      ⟨(some 4), (.op (.box (.cst (.agg [(.int .i64 0), (.int .i64 0), (.int .i64 0), (.str []), .nilSlice])))), none⟩,
      ⟨(some 5), (.op (.mv (.cst .nilPtr))), none⟩] [])
    (.seq (.region [
      ⟨(some 9), (.op (.mv (.tmp 1))), none⟩,
      ⟨(some 10), (.op (.build [.nilSlice, (.int .i64 0), (.bool false)] [(0, 1, (.tmp 9))])), none⟩,
      ⟨(some 11), (.op (.box (.tmp 10))), none⟩,
      ⟨(some 6), (.op (.mv (.tmp 11))), none⟩] [])
    (.seq (.region [
      ⟨(some 12), (.op (.mv (.tmp 0))), none⟩,
      ⟨(some 13), (.op (.build [(.int .i64 0), (.int .i64 0), (.int .i64 0), (.str []), .nilSlice] [(0, 1, (.tmp 12))])), none⟩,
      ⟨(some 7), (.op (.box (.cst (.agg [(.int .i64 0), (.int .i64 0), (.int .i64 0), (.str []), .nilSlice])))), none⟩,
      ⟨none, (.op (.store 5 (.tmp 7) (.tmp 13))), none⟩] [])
    (.seq (.region [
      ⟨(some 14), (.op (.mv (.tmp 6))), none⟩,
      ⟨(some 15), (.op (.mv (.tmp 0))), none⟩,
      ⟨(some 16), (.call (.cst (.func (.func 95) [] [])) [(.tmp 15)]), none⟩,
      ⟨(some 17), (.call (.cst (.func (.func 94) [] [])) [(.tmp 14), (.tmp 16)]), none⟩] [])
    (.seq (.seq (.region [
      ⟨(some 18), (.op (.mv (.tmp 0))), none⟩] [])
    (.block 0
      (.seq (.block 5
        (.seq (.block 4
          (.seq (.block 3
            (.seq (.block 2
              (.seq (.block 1
                (.seq (.seq (.seq (.seq (.region [
                  ⟨(some 20), (.op (.bin .eql (some .int) (.tmp 18) (.cst (.int .i64 3)))), none⟩,
                  ⟨(some 19), (.op (.mv (.tmp 20))), none⟩] [])
                (.cond (.tmp 19)
                  .skip
                  (.region [
                    ⟨(some 21), (.op (.bin .eql (some .int) (.tmp 18) (.cst (.int .i64 12)))), none⟩,
                    ⟨(some 19), (.op (.mv (.tmp 21))), none⟩] [])))
                (.cond (.tmp 19)
                  (.exit 1)
                  .skip))
                (.seq (.seq (.region [
                  ⟨(some 23), (.op (.bin .eql (some .int) (.tmp 18) (.cst (.int .i64 16)))), none⟩,
                  ⟨(some 22), (.op (.mv (.tmp 23))), none⟩] [])
                (.cond (.tmp 22)
                  (.exit 2)
                  .skip))
                (.seq (.seq (.region [
                  ⟨(some 25), (.op (.bin .eql (some .int) (.tmp 18) (.cst (.int .i64 1)))), none⟩,
                  ⟨(some 24), (.op (.mv (.tmp 25))), none⟩] [])
                (.cond (.tmp 24)
                  (.exit 3)
                  .skip))
                (.seq (.seq (.region [
                  ⟨(some 27), (.op (.bin .eql (some .int) (.tmp 18) (.cst (.int .i64 2)))), none⟩,
                  ⟨(some 26), (.op (.mv (.tmp 27))), none⟩] [])
                (.cond (.tmp 26)
                  (.exit 4)
                  .skip))
                (.seq (.seq (.region [
                  ⟨(some 29), (.op (.bin .eql (some .int) (.tmp 18) (.cst (.int .i64 10)))), none⟩,
                  ⟨(some 28), (.op (.mv (.tmp 29))), none⟩] [])
                (.cond (.tmp 28)
                  .skip
                  (.region [
                    ⟨(some 30), (.op (.bin .eql (some .int) (.tmp 18) (.cst (.int .i64 13)))), none⟩,
                    ⟨(some 28), (.op (.mv (.tmp 30))), none⟩] [])))
                (.cond (.tmp 28)
                  (.exit 5)
                  .skip))))))
                (.exit 0)))
              (.seq (.region [
                ⟨(some 31), (.op (.mv (.tmp 6))), none⟩,
                ⟨(some 32), (.call (.cst (.func (.func 94) [] [])) [(.tmp 31), (.cst (.str [32]))]), none⟩] [])
              (.region [
                ⟨(some 33), (.op (.mv (.tmp 6))), none⟩,
                ⟨(some 34), (.call (.cst (.func (.func 96) [] [])) [(.tmp 33), (.cst (.int .i64 1)), (.cst (.int .i64 1099511627776))]), none⟩,
                ⟨(some 35), (.op (.faddr 1 (.tmp 7))), none⟩,
                ⟨none, (.op (.store 1 (.tmp 35) (.tmp 34))), none⟩] []))))
            (.seq (.seq (.region [
              ⟨(some 36), (.op (.mv (.tmp 6))), none⟩,
              ⟨(some 37), (.call (.cst (.func (.func 94) [] [])) [(.tmp 36), (.cst (.str [32]))]), none⟩] [])
            (.seq (.region [
              ⟨(some 38), (.op (.mv (.tmp 6))), none⟩,
              ⟨(some 39), (.op (.mv (.tmp 0))), none⟩,
              ⟨(some 40), (.call (.cst (.func (.func 97) [] [])) [(.tmp 39)]), none⟩,
              ⟨(some 41), (.call (.cst (.func (.func 96) [] [])) [(.tmp 38), (.cst (.int .i64 0)), (.tmp 40)]), none⟩,
              ⟨(some 8), (.op (.mv (.tmp 41))), none⟩] [])
            (.seq (.region [
              ⟨(some 42), (.op (.mv (.tmp 6))), none⟩,
              ⟨(some 43), (.call (.cst (.func (.func 94) [] [])) [(.tmp 42), (.cst (.str [13, 10]))]), none⟩] [])
            (.region [
              ⟨(some 44), (.op (.mv (.tmp 6))), none⟩,
              ⟨(some 45), (.op (.mv (.tmp 8))), none⟩,
              ⟨(some 46), (.call (.cst (.func (.func 98) [] [])) [(.tmp 44), (.tmp 45)]), none⟩,
              ⟨(some 47), (.op (.faddr 4 (.tmp 7))), none⟩,
              ⟨none, (.op (.store 1 (.tmp 47) (.tmp 46))), none⟩] []))))
            (.exit 0))))
          (.seq (.seq (.region [
            ⟨(some 48), (.op (.mv (.tmp 6))), none⟩,
            ⟨(some 49), (.call (.cst (.func (.func 94) [] [])) [(.tmp 48), (.cst (.str [32]))]), none⟩] [])
          (.region [
            ⟨(some 50), (.op (.mv (.tmp 6))), none⟩,
            ⟨(some 51), (.call (.cst (.func (.func 96) [] [])) [(.tmp 50), (.cst (.int .i64 1)), (.cst (.int .i64 1099511627776))]), none⟩,
            ⟨(some 52), (.op (.faddr 1 (.tmp 7))), none⟩,
            ⟨none, (.op (.store 1 (.tmp 52) (.tmp 51))), none⟩] []))
          (.exit 0))))
        (.seq (.seq (.region [
          ⟨(some 53), (.op (.mv (.tmp 6))), none⟩,
          ⟨(some 54), (.call (.cst (.func (.func 94) [] [])) [(.tmp 53), (.cst (.str [32]))]), none⟩] [])
        (.region [
          ⟨(some 55), (.op (.mv (.tmp 6))), none⟩,
          ⟨(some 56), (.call (.cst (.func (.func 99) [] [])) [(.tmp 55)]), none⟩,
          ⟨(some 57), (.op (.faddr 3 (.tmp 7))), none⟩,
          ⟨none, (.op (.store 1 (.tmp 57) (.tmp 56))), none⟩] []))
        (.exit 0))))
      (.seq (.seq (.region [
        ⟨(some 58), (.op (.mv (.tmp 6))), none⟩,
        ⟨(some 59), (.call (.cst (.func (.func 94) [] [])) [(.tmp 58), (.cst (.str [32]))]), none⟩] [])
      (.region [
        ⟨(some 60), (.op (.mv (.tmp 6))), none⟩,
        ⟨(some 61), (.call (.cst (.func (.func 96) [] [])) [(.tmp 60), (.cst (.int .i64 0)), (.cst (.int .i64 4294967295))]), none⟩,
        ⟨(some 62), (.op (.faddr 2 (.tmp 7))), none⟩,
        ⟨none, (.op (.store 1 (.tmp 62) (.tmp 61))), none⟩] []))
      (.exit 0)))))
    (.seq (.region [
      ⟨(some 63), (.op (.mv (.tmp 6))), none⟩,
      ⟨(some 64), (.call (.cst (.func (.func 94) [] [])) [(.tmp 63), (.cst (.str [13, 10]))]), none⟩] [])
    (.seq (.region [
      ⟨(some 65), (.op (.load (some 5) (.tmp 7))), none⟩,
      ⟨(some 66), (.op (.mv (.tmp 6))), none⟩,
      ⟨none, (.op (.store 5 (.tmp 4) (.tmp 65))), none⟩,
      ⟨(some 5), (.op (.mv (.tmp 66))), none⟩] [])
    .ret)))))))⟩
theorem c68 : cFn Tryz.prog [] Tryz.f68 = some h68 := by kernel_rfl
/-- (*stint/judge.court).freshen -/
def h70 : HFn :=
  ⟨59, [],
    (.seq (.region [
      ⟨(some 4), (.op (.mv (.tmp 1))), none⟩,
      ⟨(some 5), (.op (.nilc (.tmp 4))), none⟩,
      ⟨(some 6), (.op (.faddr 11 (.tmp 5))), none⟩,
      ⟨none, (.op (.store 1 (.tmp 6) (.cst (.bool true)))), none⟩] [])
    (.seq (.region [
      ⟨(some 7), (.op (.mv (.tmp 1))), none⟩,
      ⟨(some 8), (.op (.nilc (.tmp 7))), none⟩,
      ⟨(some 9), (.op (.faddr 14 (.tmp 8))), none⟩,
      ⟨(some 10), (.op (.load none (.tmp 9))), none⟩,
      ⟨(some 11), (.op (.bin .add none (.tmp 10) (.cst (.int .i64 1)))), none⟩,
      ⟨(some 12), (.op (.nilc (.tmp 7))), none⟩,
      ⟨(some 13), (.op (.faddr 14 (.tmp 12))), none⟩,
      ⟨none, (.op (.store 1 (.tmp 13) (.tmp 11))), none⟩] [])
    (.seq (.seq (.draw [
      ⟨(some 14), (.op (.mv (.tmp 0))), none⟩,
      ⟨(some 15), (.op (.nilc (.tmp 14))), none⟩,
      ⟨(some 16), (.op (.faddr 7 (.tmp 15))), none⟩,
      ⟨(some 17), (.op (.load none (.tmp 16))), none⟩,
      ⟨(some 18), (.op (.mv (.tmp 1))), none⟩,
      ⟨(some 19), (.op (.nilc (.tmp 18))), none⟩,
      ⟨(some 20), (.op (.faddr 2 (.tmp 19))), none⟩,
      ⟨(some 21), (.op (.load none (.tmp 20))), none⟩,
      ⟨(some 22), (.op (.lookup .str .nilPtr false (.tmp 17) (.tmp 21))), none⟩,
      ⟨(some 23), (.op (.bin .eql (some .ptrN) (.tmp 22) (.cst .nilPtr))), none⟩] [0, 1, 2, 3, 4, 5, 6, 7, 8, 9] [[], [], [], [], [], [], [], [], [], []] [])
    (.cond (.tmp 23)
      (.draw [
        ⟨(some 24), (.op (.mv (.tmp 0))), none⟩,
        ⟨(some 25), (.op (.nilc (.tmp 24))), none⟩,
        ⟨(some 26), (.op (.faddr 7 (.tmp 25))), none⟩,
        ⟨(some 27), (.op (.load none (.tmp 26))), none⟩,
        ⟨(some 28), (.op (.mv (.tmp 1))), none⟩,
        ⟨(some 29), (.op (.nilc (.tmp 28))), none⟩,
        ⟨(some 30), (.op (.faddr 2 (.tmp 29))), none⟩,
        ⟨(some 31), (.op (.load none (.tmp 30))), none⟩,
        ⟨(some 32), (.op (.bslice 3 0 [] [])), none⟩,
        ⟨(some 33), (.op (.box (.tmp 32))), none⟩,
        ⟨none, (.op (.mapUpd .str (.tmp 27) (.tmp 31) (.tmp 33))), none⟩] [0, 1, 2, 3, 4, 5, 6, 7, 8, 9, 10] [[], [], [], [], [], [], [], [], [], [], [3, 7]] [])
      .skip))
    (.draw [
      ⟨(some 34), (.op (.mv (.tmp 0))), none⟩,
      ⟨(some 35), (.op (.nilc (.tmp 34))), none⟩,
      ⟨(some 36), (.op (.faddr 7 (.tmp 35))), none⟩,
      ⟨(some 37), (.op (.load none (.tmp 36))), none⟩,
      ⟨(some 38), (.op (.mv (.tmp 1))), none⟩,
      ⟨(some 39), (.op (.nilc (.tmp 38))), none⟩,
      ⟨(some 40), (.op (.faddr 2 (.tmp 39))), none⟩,
      ⟨(some 41), (.op (.load none (.tmp 40))), none⟩,
      ⟨(some 42), (.op (.lookup .str .nilPtr false (.tmp 37) (.tmp 41))), none⟩,
      ⟨(some 43), (.op (.iface 154 (.tmp 42))), none⟩,
      ⟨(some 44), (.op (.mv (.tmp 1))), none⟩,
      ⟨(some 45), (.op (.nilc (.tmp 44))), none⟩,
      ⟨(some 46), (.op (.faddr 3 (.tmp 45))), none⟩,
      ⟨(some 47), (.op (.load none (.tmp 46))), none⟩,
      ⟨(some 48), (.op (.mv (.tmp 1))), none⟩,
      ⟨(some 49), (.op (.nilc (.tmp 48))), none⟩,
      ⟨(some 50), (.op (.faddr 0 (.tmp 49))), none⟩,
      ⟨(some 51), (.op (.load none (.tmp 50))), none⟩,
      ⟨(some 52), (.op (.mv (.tmp 1))), none⟩,
      ⟨(some 53), (.op (.nilc (.tmp 52))), none⟩,
      ⟨(some 54), (.op (.faddr 14 (.tmp 53))), none⟩,
      ⟨(some 55), (.op (.load none (.tmp 54))), none⟩,
      ⟨(some 56), (.op (.build [(.int .i64 0), (.int .i64 0), (.int .i64 0)] [(0, 1, (.tmp 47)), (1, 1, (.tmp 51)), (2, 1, (.tmp 55))])), none⟩,
      ⟨(some 57), (.op (.iface 157 (.tmp 56))), none⟩,
      ⟨(some 58), (.call (.cst (.func (.func 101) [] [])) [(.tmp 43), (.tmp 57)]), none⟩] [0, 1, 2, 3, 4, 5, 6, 7, 8, 9, 10, 11, 12, 13, 14, 15, 16, 17, 18, 19, 20, 21, 22, 23, 24] [[], [], [], [], [], [], [], [], [], [], [], [], [], [], [], [], [], [], [], [], [], [], [], [], [8, 3, 7, 13, 17, 21]] []))))⟩
theorem c70 : cFn Tryz.prog [] Tryz.f70 = some h70 := by kernel_rfl
/-- slices.Clone[[]byte,byte] -/
def h84 : HFn :=
  ⟨8, [(.tmp 2)],
    (.seq (.region [
      ⟨(some 2), (.op (.mv (.cst .nilSlice))), none⟩] [])
    (.seq (.seq (.region [
      ⟨(some 3), (.op (.mv (.tmp 0))), none⟩,
      ⟨(some 4), (.op (.bin .eql (some .slice) (.tmp 3) (.cst .nilSlice))), none⟩] [])
    (.cond (.tmp 4)
      (.seq (.region [
        ⟨(some 2), (.op (.mv (.cst .nilSlice))), none⟩] [])
      .ret)
      .skip))
    (.seq (.region [
      ⟨(some 5), (.op (.bslice 1 0 [] [])), none⟩,
      ⟨(some 6), (.op (.mv (.tmp 0))), none⟩,
      ⟨(some 7), (.op (.append 1 1 (.tmp 5) (.tmp 6))), none⟩,
      ⟨(some 2), (.op (.mv (.tmp 7))), none⟩] [])
    .ret)))⟩
theorem c84 : cFn Tryz.prog [] Tryz.f84 = some h84 := by kernel_rfl
/-- internal/stringslite.Cut -/
def h85 : HFn :=
  ⟨23, [(.tmp 4), (.tmp 5), (.tmp 6)],
    (.seq (.region [
      ⟨(some 4), (.op (.mv (.cst (.str [])))), none⟩,
      ⟨(some 5), (.op (.mv (.cst (.str [])))), none⟩,
      ⟨(some 6), (.op (.mv (.cst (.bool false)))), none⟩] [])
    (.seq (.seq (.region [
      ⟨(some 8), (.op (.mv (.tmp 0))), none⟩,
      ⟨(some 9), (.op (.mv (.tmp 1))), none⟩,
      ⟨(some 10), (.call (.cst (.func (.func 117) [] [])) [(.tmp 8), (.tmp 9)]), none⟩,
      ⟨(some 7), (.op (.mv (.tmp 10))), none⟩] [])
    (.seq (.region [
      ⟨(some 11), (.op (.mv (.tmp 7))), none⟩,
      ⟨(some 12), (.op (.bin .geq none (.tmp 11) (.cst (.int .i64 0)))), none⟩] [])
    (.cond (.tmp 12)
      (.seq (.draw [
        ⟨(some 13), (.op (.mv (.tmp 0))), none⟩,
        ⟨(some 14), (.op (.mv (.tmp 7))), none⟩,
        ⟨(some 15), (.op (.sliceStr (.tmp 13) none (some (.tmp 14)))), none⟩,
        ⟨(some 16), (.op (.mv (.tmp 0))), none⟩,
        ⟨(some 17), (.op (.mv (.tmp 7))), none⟩,
        ⟨(some 18), (.op (.mv (.tmp 1))), none⟩,
        ⟨(some 19), (.op (.len .str (.tmp 18))), none⟩,
        ⟨(some 20), (.op (.bin .add none (.tmp 17) (.tmp 19))), none⟩,
        ⟨(some 21), (.op (.sliceStr (.tmp 16) (some (.tmp 20)) none)), none⟩,
        ⟨(some 4), (.op (.mv (.tmp 15))), none⟩,
        ⟨(some 5), (.op (.mv (.tmp 21))), none⟩,
        ⟨(some 6), (.op (.mv (.cst (.bool true)))), none⟩] [0, 1, 2, 3, 4, 5, 6, 7, 8, 9, 10, 11] [[], [], [], [], [], [], [], [], [], [], [], []] [])
      .ret)
      .skip)))
    (.seq (.region [
      ⟨(some 22), (.op (.mv (.tmp 0))), none⟩,
      ⟨(some 4), (.op (.mv (.tmp 22))), none⟩,
      ⟨(some 5), (.op (.mv (.cst (.str [])))), none⟩,
      ⟨(some 6), (.op (.mv (.cst (.bool false)))), none⟩] [])
    .ret)))⟩
theorem c85 : cFn Tryz.prog [] Tryz.f85 = some h85 := by kernel_rfl
/-- stint/verbs.forms -/
def h86 : HFn :=
  ⟨27, [(.cell 0 (some 52))],
    (.seq (.region [
      ⟨(some 0), (.op (.box (.cst (.agg [(.str []), (.str []), (.str []), (.str []), (.str []), (.str []), (.str []), (.str []), (.str []), (.str []), (.str []), (.str []), (.str []), (.str []), (.str []), (.str []), (.str []), (.str []), (.str []), (.str []), (.str []), (.str []), (.str []), (.str []), (.str []), (.str []), (.str []), (.str []), (.str []), (.str []), (.str []), (.str []), (.str []), (.str []), (.str []), (.str []), (.str []), (.str []), (.str []), (.str []), (.str []), (.str []), (.str []), (.str []), (.str []), (.str []), (.str []), (.str []), (.str []), (.str []), (.str []), (.str [])])))), none⟩] [])
    (.seq (.region [
      ⟨(some 1), (.op (.build [(.str []), (.str [])] [(0, 1, (.cst (.str [112, 117, 116]))), (1, 1, (.cst (.str [112, 100, 116, 110])))])), none⟩,
      ⟨(some 2), (.op (.build [(.str []), (.str [])] [(0, 1, (.cst (.str [117, 115, 101]))), (1, 1, (.cst (.str [117])))])), none⟩,
      ⟨(some 3), (.op (.build [(.str []), (.str [])] [(0, 1, (.cst (.str [114, 101, 115, 101, 114, 118, 101]))), (1, 1, (.cst (.str [])))])), none⟩,
      ⟨(some 4), (.op (.build [(.str []), (.str [])] [(0, 1, (.cst (.str [114, 101, 115, 101, 114, 118, 101, 45, 119, 105, 116, 104, 45, 116, 105, 109, 101, 111, 117, 116]))), (1, 1, (.cst (.str [110])))])), none⟩,
      ⟨(some 5), (.op (.build [(.str []), (.str [])] [(0, 1, (.cst (.str [114, 101, 115, 101, 114, 118, 101, 45, 106, 111, 98]))), (1, 1, (.cst (.str [105])))])), none⟩,
      ⟨(some 6), (.op (.build [(.str []), (.str [])] [(0, 1, (.cst (.str [100, 101, 108, 101, 116, 101]))), (1, 1, (.cst (.str [105])))])), none⟩,
      ⟨(some 7), (.op (.build [(.str []), (.str [])] [(0, 1, (.cst (.str [114, 101, 108, 101, 97, 115, 101]))), (1, 1, (.cst (.str [105, 112, 100])))])), none⟩,
      ⟨(some 8), (.op (.build [(.str []), (.str [])] [(0, 1, (.cst (.str [98, 117, 114, 121]))), (1, 1, (.cst (.str [105, 112])))])), none⟩,
      ⟨(some 9), (.op (.build [(.str []), (.str [])] [(0, 1, (.cst (.str [116, 111, 117, 99, 104]))), (1, 1, (.cst (.str [105])))])), none⟩,
      ⟨(some 10), (.op (.build [(.str []), (.str [])] [(0, 1, (.cst (.str [119, 97, 116, 99, 104]))), (1, 1, (.cst (.str [117])))])), none⟩,
      ⟨(some 11), (.op (.build [(.str []), (.str [])] [(0, 1, (.cst (.str [105, 103, 110, 111, 114, 101]))), (1, 1, (.cst (.str [117])))])), none⟩,
      ⟨(some 12), (.op (.build [(.str []), (.str [])] [(0, 1, (.cst (.str [112, 101, 101, 107]))), (1, 1, (.cst (.str [105])))])), none⟩,
      ⟨(some 13), (.op (.build [(.str []), (.str [])] [(0, 1, (.cst (.str [112, 101, 101, 107, 45, 114, 101, 97, 100, 121]))), (1, 1, (.cst (.str [])))])), none⟩,
      ⟨(some 14), (.op (.build [(.str []), (.str [])] [(0, 1, (.cst (.str [112, 101, 101, 107, 45, 100, 101, 108, 97, 121, 101, 100]))), (1, 1, (.cst (.str [])))])), none⟩,
      ⟨(some 15), (.op (.build [(.str []), (.str [])] [(0, 1, (.cst (.str [112, 101, 101, 107, 45, 98, 117, 114, 105, 101, 100]))), (1, 1, (.cst (.str [])))])), none⟩,
      ⟨(some 16), (.op (.build [(.str []), (.str [])] [(0, 1, (.cst (.str [107, 105, 99, 107]))), (1, 1, (.cst (.str [110])))])), none⟩,
      ⟨(some 17), (.op (.build [(.str []), (.str [])] [(0, 1, (.cst (.str [107, 105, 99, 107, 45, 106, 111, 98]))), (1, 1, (.cst (.str [105])))])), none⟩,
      ⟨(some 18), (.op (.build [(.str []), (.str [])] [(0, 1, (.cst (.str [115, 116, 97, 116, 115, 45, 106, 111, 98]))), (1, 1, (.cst (.str [105])))])), none⟩,
      ⟨(some 19), (.op (.build [(.str []), (.str [])] [(0, 1, (.cst (.str [115, 116, 97, 116, 115, 45, 116, 117, 98, 101]))), (1, 1, (.cst (.str [117])))])), none⟩,
      ⟨(some 20), (.op (.build [(.str []), (.str [])] [(0, 1, (.cst (.str [115, 116, 97, 116, 115]))), (1, 1, (.cst (.str [])))])), none⟩,
      ⟨(some 21), (.op (.build [(.str []), (.str [])] [(0, 1, (.cst (.str [108, 105, 115, 116, 45, 116, 117, 98, 101, 115]))), (1, 1, (.cst (.str [])))])), none⟩,
      ⟨(some 22), (.op (.build [(.str []), (.str [])] [(0, 1, (.cst (.str [108, 105, 115, 116, 45, 116, 117, 98, 101, 45, 117, 115, 101, 100]))), (1, 1, (.cst (.str [])))])), none⟩,
      ⟨(some 23), (.op (.build [(.str []), (.str [])] [(0, 1, (.cst (.str [108, 105, 115, 116, 45, 116, 117, 98, 101, 115, 45, 119, 97, 116, 99, 104, 101, 100]))), (1, 1, (.cst (.str [])))])), none⟩,
      ⟨(some 24), (.op (.build [(.str []), (.str [])] [(0, 1, (.cst (.str [112, 97, 117, 115, 101, 45, 116, 117, 98, 101]))), (1, 1, (.cst (.str [117, 110])))])), none⟩,
      ⟨(some 25), (.op (.build [(.str []), (.str [])] [(0, 1, (.cst (.str [113, 117, 105, 116]))), (1, 1, (.cst (.str [])))])), none⟩,
      ⟨(some 26), (.op (.build [(.str []), (.str []), (.str []), (.str []), (.str []), (.str []), (.str []), (.str []), (.str []), (.str []), (.str []), (.str []), (.str []), (.str []), (.str []), (.str []), (.str []), (.str []), (.str []), (.str []), (.str []), (.str []), (.str []), (.str []), (.str []), (.str []), (.str []), (.str []), (.str []), (.str []), (.str []), (.str []), (.str []), (.str []), (.str []), (.str []), (.str []), (.str []), (.str []), (.str []), (.str []), (.str []), (.str []), (.str []), (.str []), (.str []), (.str []), (.str []), (.str []), (.str []), (.str []), (.str [])] [(2, 2, (.tmp 1)), (4, 2, (.tmp 2)), (6, 2, (.tmp 3)), (8, 2, (.tmp 4)), (10, 2, (.tmp 5)), (12, 2, (.tmp 6)), (14, 2, (.tmp 7)), (16, 2, (.tmp 8)), (18, 2, (.tmp 9)), (20, 2, (.tmp 10)), (22, 2, (.tmp 11)), (24, 2, (.tmp 12)), (26, 2, (.tmp 13)), (28, 2, (.tmp 14)), (30, 2, (.tmp 15)), (32, 2, (.tmp 16)), (34, 2, (.tmp 17)), (36, 2, (.tmp 18)), (38, 2, (.tmp 19)), (40, 2, (.tmp 20)), (42, 2, (.tmp 21)), (44, 2, (.tmp 22)), (46, 2, (.tmp 23)), (48, 2, (.tmp 24)), (50, 2, (.tmp 25))])), none⟩,
      ⟨none, (.op (.store 52 (.tmp 0) (.tmp 26))), none⟩] [])
    .ret))⟩
theorem c86 : cFn Tryz.prog [] Tryz.f86 = some h86 := by kernel_rfl
/-- strings.Split -/
def h87 : HFn :=
  ⟨8, [(.tmp 4)],
    (.seq (.region [
      ⟨(some 4), (.op (.mv (.cst .nilSlice))), none⟩] [])
    (.seq (.region [
      ⟨(some 5), (.op (.mv (.tmp 0))), none⟩,
      ⟨(some 6), (.op (.mv (.tmp 1))), none⟩,
      ⟨(some 7), (.call (.cst (.func (.func 118) [] [])) [(.tmp 5), (.tmp 6), (.cst (.int .i64 0)), (.cst (.int .i64 (-1)))]), none⟩,
      ⟨(some 4), (.op (.mv (.tmp 7))), none⟩] [])
    .ret))⟩
theorem c87 : cFn Tryz.prog [] Tryz.f87 = some h87 := by kernel_rfl
/-- stint/digits.words -/
def h88 : HFn :=
  ⟨18, [(.tmp 2)],
    (.seq (.region [
      ⟨(some 2), (.op (.mv (.cst (.bool false)))), none⟩] [])
    (.seq (.seq (.region [
      ⟨(some 5), (.op (.mv (.tmp 0))), none⟩,
      ⟨(some 6), (.op (.len .slice (.tmp 5))), none⟩,
      ⟨(some 7), (.op (.mv (.cst (.int .i64 0)))), none⟩] [])
    (.block 0
      (.loop
        (.seq (.region [
          ⟨(some 8), (.op (.bin .lss none (.tmp 7) (.tmp 6))), none⟩] [])
        (.seq (.cond (.tmp 8)
          .skip
          (.exit 0))
        (.seq (.block 1
          (.seq (.region [
            ⟨(some 9), (.op (.idxS 1 (.tmp 5) (.tmp 7))), none⟩,
            ⟨(some 10), (.op (.load none (.tmp 9))), none⟩,
            ⟨(some 4), (.op (.mv (.tmp 10))), none⟩] [])
          (.seq (.region [
            ⟨(some 11), (.op (.mv (.tmp 4))), none⟩,
            ⟨(some 12), (.call (.cst (.func (.func 119) [] [])) [(.tmp 11)]), none⟩,
            ⟨(some 13), (.op (.un .not (.tmp 12))), none⟩] [])
          (.cond (.tmp 13)
            (.seq (.region [
              ⟨(some 2), (.op (.mv (.cst (.bool false)))), none⟩] [])
            .ret)
            .skip))))
        (.region [
          ⟨(some 14), (.op (.bin .add none (.tmp 7) (.cst (.int .i64 1)))), none⟩,
          ⟨(some 7), (.op (.mv (.tmp 14))), none⟩] [])))))))
    (.seq (.region [
      ⟨(some 15), (.op (.mv (.tmp 0))), none⟩,
      ⟨(some 16), (.op (.len .slice (.tmp 15))), none⟩,
      ⟨(some 17), (.op (.bin .gtr none (.tmp 16) (.cst (.int .i64 0)))), none⟩,
      ⟨(some 2), (.op (.mv (.tmp 17))), none⟩] [])
    .ret)))⟩
theorem c88 : cFn Tryz.prog [] Tryz.f88 = some h88 := by kernel_rfl
/-- stint/digits.Parse -/
def h90 : HFn :=
  ⟨47, [(.tmp 4), (.tmp 5)],
    (.seq (.region [
      ⟨(some 4), (.op (.mv (.cst (.int .i64 0)))), none⟩,
      ⟨(some 5), (.op (.mv (.cst (.bool false)))), none⟩] [])
    (.seq (.seq (.region [
      ⟨(some 10), (.op (.mv (.tmp 0))), none⟩,
      ⟨(some 11), (.op (.bin .eql (some .str) (.tmp 10) (.cst (.str [])))), none⟩,
      ⟨(some 12), (.op (.mv (.tmp 11))), none⟩,
      ⟨(some 13), (.op (.mv (.tmp 1))), (some (12, false))⟩,
      ⟨(some 14), (.op (.bin .lss none (.tmp 13) (.cst (.int .i64 0)))), (some (12, false))⟩,
      ⟨(some 15), (.op (.pick (.tmp 12) (.cst (.bool true)) (.tmp 14))), none⟩] [])
    (.cond (.tmp 15)
      (.seq (.region [
        ⟨(some 4), (.op (.mv (.cst (.int .i64 0)))), none⟩,
        ⟨(some 5), (.op (.mv (.cst (.bool false)))), none⟩] [])
      .ret)
      .skip))
    (.seq (.region [
      ⟨(some 6), (.op (.mv (.cst (.int .i64 0)))), none⟩] [])
    (.seq (.seq (.region [
      ⟨(some 16), (.op (.mv (.tmp 0))), none⟩,
      ⟨(some 17), (.op (.rangeStr (.tmp 16))), none⟩] [])
    (.block 0
      (.loop
        (.seq (.region [
          ⟨(some 18), (.op (.nextStr (.tmp 17))), none⟩,
          ⟨(some 19), (.op (.ext 0 (.tmp 18))), none⟩] [])
        (.seq (.cond (.tmp 19)
          .skip
          (.exit 0))
        (.block 1
          (.seq (.region [
            ⟨(some 20), (.op (.ext 2 (.tmp 18))), none⟩,
            ⟨(some 8), (.op (.mv (.tmp 20))), none⟩] [])
          (.seq (.seq (.region [
            ⟨(some 21), (.op (.mv (.tmp 8))), none⟩,
            ⟨(some 22), (.op (.bin .lss none (.tmp 21) (.cst (.int .i32 48)))), none⟩,
            ⟨(some 23), (.op (.mv (.tmp 22))), none⟩,
            ⟨(some 24), (.op (.mv (.tmp 8))), (some (23, false))⟩,
            ⟨(some 25), (.op (.bin .gtr none (.tmp 24) (.cst (.int .i32 57)))), (some (23, false))⟩,
            ⟨(some 26), (.op (.pick (.tmp 23) (.cst (.bool true)) (.tmp 25))), none⟩] [])
          (.cond (.tmp 26)
            (.seq (.region [
              ⟨(some 4), (.op (.mv (.cst (.int .i64 0)))), none⟩,
              ⟨(some 5), (.op (.mv (.cst (.bool false)))), none⟩] [])
            .ret)
            .skip))
          (.seq (.region [
            ⟨(some 27), (.op (.mv (.tmp 8))), none⟩,
            ⟨(some 28), (.op (.bin .sub none (.tmp 27) (.cst (.int .i32 48)))), none⟩,
            ⟨(some 29), (.op (.cInt .i64 (.tmp 28))), none⟩,
            ⟨(some 9), (.op (.mv (.tmp 29))), none⟩] [])
          (.seq (.seq (.region [
            ⟨(some 30), (.op (.mv (.tmp 6))), none⟩,
            ⟨(some 31), (.op (.mv (.tmp 1))), none⟩,
            ⟨(some 32), (.op (.bin .quo none (.tmp 31) (.cst (.int .i64 10)))), none⟩,
            ⟨(some 33), (.op (.bin .gtr none (.tmp 30) (.tmp 32))), none⟩,
            ⟨(some 34), (.op (.mv (.tmp 33))), none⟩,
            ⟨(some 35), (.op (.mv (.tmp 6))), (some (34, false))⟩,
            ⟨(some 36), (.op (.bin .mul none (.tmp 35) (.cst (.int .i64 10)))), (some (34, false))⟩,
            ⟨(some 37), (.op (.mv (.tmp 1))), (some (34, false))⟩,
            ⟨(some 38), (.op (.mv (.tmp 9))), (some (34, false))⟩,
            ⟨(some 39), (.op (.bin .sub none (.tmp 37) (.tmp 38))), (some (34, false))⟩,
            ⟨(some 40), (.op (.bin .gtr none (.tmp 36) (.tmp 39))), (some (34, false))⟩,
            ⟨(some 41), (.op (.pick (.tmp 34) (.cst (.bool true)) (.tmp 40))), none⟩] [])
          (.cond (.tmp 41)
            (.seq (.region [
              ⟨(some 4), (.op (.mv (.cst (.int .i64 0)))), none⟩,
              ⟨(some 5), (.op (.mv (.cst (.bool false)))), none⟩] [])
            .ret)
            .skip))
          (.region [
            ⟨(some 42), (.op (.mv (.tmp 6))), none⟩,
            ⟨(some 43), (.op (.bin .mul none (.tmp 42) (.cst (.int .i64 10)))), none⟩,
            ⟨(some 44), (.op (.mv (.tmp 9))), none⟩,
            ⟨(some 45), (.op (.bin .add none (.tmp 43) (.tmp 44))), none⟩,
            ⟨(some 6), (.op (.mv (.tmp 45))), none⟩] [])))))))))))
    (.seq (.region [
      ⟨(some 46), (.op (.mv (.tmp 6))), none⟩,
      ⟨(some 4), (.op (.mv (.tmp 46))), none⟩,
      ⟨(some 5), (.op (.mv (.cst (.bool true)))), none⟩] [])
    .ret)))))⟩
theorem c90 : cFn Tryz.prog [] Tryz.f90 = some h90 := by kernel_rfl
/-- stint/verbs.most -/
def h91 : HFn :=
  ⟨5, [(.tmp 2)],
    (.seq (.region [
      ⟨(some 2), (.op (.mv (.cst (.int .i64 0)))), none⟩] [])
    (.seq (.seq (.region [
      ⟨(some 3), (.op (.mv (.tmp 0))), none⟩,
      ⟨(some 4), (.op (.bin .eql (some .int) (.tmp 3) (.cst (.int .i64 1)))), none⟩] [])
    (.cond (.tmp 4)
      (.seq (.region [
        ⟨(some 2), (.op (.mv (.cst (.int .i64 4611686018427387903)))), none⟩] [])
      .ret)
      .skip))
    (.seq (.region [
      ⟨(some 2), (.op (.mv (.cst (.int .i64 4294967295)))), none⟩] [])
    .ret)))⟩
theorem c91 : cFn Tryz.prog [] Tryz.f91 = some h91 := by kernel_rfl
/-- stint/verbs.at -/
def h92 : HFn :=
  ⟨29, [(.tmp 4)],
    (.seq (.region [
      ⟨(some 4), (.op (.mv (.cst .nilPtr))), none⟩] [])
    (.seq (.seq (.region [
      ⟨(some 5), (.op (.mv (.tmp 1))), none⟩] [])
    (.block 0
      (.seq (.region [
        ⟨(some 7), (.op (.bin .eql (some .int) (.tmp 5) (.cst (.int .i64 1)))), none⟩,
        ⟨(some 6), (.op (.mv (.tmp 7))), none⟩] [])
      (.cond (.tmp 6)
        (.seq (.region [
          ⟨(some 8), (.op (.mv (.tmp 0))), none⟩,
          ⟨(some 9), (.op (.nilc (.tmp 8))), none⟩,
          ⟨(some 10), (.op (.faddr 1 (.tmp 9))), none⟩,
          ⟨(some 4), (.op (.mv (.tmp 10))), none⟩] [])
        .ret)
        (.seq (.region [
          ⟨(some 12), (.op (.bin .eql (some .int) (.tmp 5) (.cst (.int .i64 2)))), none⟩,
          ⟨(some 11), (.op (.mv (.tmp 12))), none⟩] [])
        (.cond (.tmp 11)
          (.seq (.region [
            ⟨(some 13), (.op (.mv (.tmp 0))), none⟩,
            ⟨(some 14), (.op (.nilc (.tmp 13))), none⟩,
            ⟨(some 15), (.op (.faddr 2 (.tmp 14))), none⟩,
            ⟨(some 4), (.op (.mv (.tmp 15))), none⟩] [])
          .ret)
          (.seq (.region [
            ⟨(some 17), (.op (.bin .eql (some .int) (.tmp 5) (.cst (.int .i64 3)))), none⟩,
            ⟨(some 16), (.op (.mv (.tmp 17))), none⟩] [])
          (.cond (.tmp 16)
            (.seq (.region [
              ⟨(some 18), (.op (.mv (.tmp 0))), none⟩,
              ⟨(some 19), (.op (.nilc (.tmp 18))), none⟩,
              ⟨(some 20), (.op (.faddr 3 (.tmp 19))), none⟩,
              ⟨(some 4), (.op (.mv (.tmp 20))), none⟩] [])
            .ret)
            (.seq (.region [
              ⟨(some 22), (.op (.bin .eql (some .int) (.tmp 5) (.cst (.int .i64 4)))), none⟩,
              ⟨(some 21), (.op (.mv (.tmp 22))), none⟩] [])
            (.cond (.tmp 21)
              (.seq (.region [
                ⟨(some 23), (.op (.mv (.tmp 0))), none⟩,
                ⟨(some 24), (.op (.nilc (.tmp 23))), none⟩,
                ⟨(some 25), (.op (.faddr 4 (.tmp 24))), none⟩,
                ⟨(some 4), (.op (.mv (.tmp 25))), none⟩] [])
              .ret)
              .skip))))))))))
    (.seq (.region [
      ⟨(some 26), (.op (.mv (.tmp 0))), none⟩,
      ⟨(some 27), (.op (.nilc (.tmp 26))), none⟩,
      ⟨(some 28), (.op (.faddr 5 (.tmp 27))), none⟩,
      ⟨(some 4), (.op (.mv (.tmp 28))), none⟩] [])
    .ret)))⟩
theorem c92 : cFn Tryz.prog [] Tryz.f92 = some h92 := by kernel_rfl
/-- (*stint/answers.cursor).text -/
def h94 : HFn :=
  ⟨54, [],
    (.seq (.region [
      ⟨(some 4), (.op (.mv (.cst (.int .i64 0)))), none⟩] [])
    (.block 0
      (.loop
        (.seq (.seq (.region [
          ⟨(some 5), (.op (.mv (.tmp 4))), none⟩,
          ⟨(some 6), (.op (.mv (.tmp 1))), none⟩,
          ⟨(some 7), (.op (.len .str (.tmp 6))), none⟩,
          ⟨(some 8), (.op (.bin .lss none (.tmp 5) (.tmp 7))), none⟩,
          ⟨(some 9), (.op (.mv (.tmp 8))), none⟩,
          ⟨(some 10), (.op (.mv (.tmp 0))), (some (9, true))⟩,
          ⟨(some 11), (.op (.nilc (.tmp 10))), (some (9, true))⟩,
          ⟨(some 12), (.op (.faddr 2 (.tmp 11))), (some (9, true))⟩,
          ⟨(some 13), (.op (.load none (.tmp 12))), (some (9, true))⟩,
          ⟨(some 14), (.op (.un .not (.tmp 13))), (some (9, true))⟩,
          ⟨(some 15), (.op (.pick (.tmp 9) (.tmp 14) (.cst (.bool false)))), none⟩] [])
        (.cond (.tmp 15)
          .skip
          (.exit 0)))
        (.seq (.block 1
          (.seq (.seq (.draw [
            ⟨(some 18), (.op (.mv (.tmp 0))), none⟩,
            ⟨(some 19), (.op (.nilc (.tmp 18))), none⟩,
            ⟨(some 20), (.op (.faddr 1 (.tmp 19))), none⟩,
            ⟨(some 21), (.op (.load none (.tmp 20))), none⟩,
            ⟨(some 22), (.op (.mv (.tmp 0))), none⟩,
            ⟨(some 23), (.op (.nilc (.tmp 22))), none⟩,
            ⟨(some 24), (.op (.faddr 0 (.tmp 23))), none⟩,
            ⟨(some 25), (.op (.load none (.tmp 24))), none⟩,
            ⟨(some 26), (.op (.len .slice (.tmp 25))), none⟩,
            ⟨(some 27), (.op (.bin .eql (some .int) (.tmp 21) (.tmp 26))), none⟩,
            ⟨(some 28), (.op (.mv (.tmp 27))), none⟩,
            ⟨(some 29), (.op (.mv (.tmp 0))), (some (28, false))⟩,
            ⟨(some 30), (.op (.nilc (.tmp 29))), (some (28, false))⟩,
            ⟨(some 31), (.op (.faddr 0 (.tmp 30))), (some (28, false))⟩,
            ⟨(some 32), (.op (.load none (.tmp 31))), (some (28, false))⟩,
            ⟨(some 33), (.op (.mv (.tmp 0))), (some (28, false))⟩,
            ⟨(some 34), (.op (.nilc (.tmp 33))), (some (28, false))⟩,
            ⟨(some 35), (.op (.faddr 1 (.tmp 34))), (some (28, false))⟩,
            ⟨(some 36), (.op (.load none (.tmp 35))), (some (28, false))⟩,
            ⟨(some 37), (.op (.idxS 1 (.tmp 32) (.tmp 36))), (some (28, false))⟩,
            ⟨(some 38), (.op (.load none (.tmp 37))), (some (28, false))⟩,
            ⟨(some 39), (.op (.mv (.tmp 1))), (some (28, false))⟩,
            ⟨(some 40), (.op (.mv (.tmp 4))), (some (28, false))⟩,
            ⟨(some 41), (.op (.idxStr (.tmp 39) (.tmp 40))), (some (28, false))⟩,
            ⟨(some 42), (.op (.bin .neq (some .int) (.tmp 38) (.tmp 41))), (some (28, false))⟩,
            ⟨(some 43), (.op (.pick (.tmp 28) (.cst (.bool true)) (.tmp 42))), none⟩] [0, 1, 2, 3, 4, 5, 6, 7, 8, 9, 10, 11, 12, 13, 14, 15, 16, 17, 18, 19, 20, 21, 22, 23, 24, 25] [[], [], [], [], [], [], [], [], [], [], [], [], [], [], [], [], [], [], [], [], [], [], [], [], [], []] [])
          (.cond (.tmp 43)
            (.seq (.region [
              ⟨(some 44), (.op (.mv (.tmp 0))), none⟩,
              ⟨(some 45), (.op (.nilc (.tmp 44))), none⟩,
              ⟨(some 46), (.op (.faddr 2 (.tmp 45))), none⟩,
              ⟨none, (.op (.store 1 (.tmp 46) (.cst (.bool true)))), none⟩] [])
            .ret)
            .skip))
          (.region [
            ⟨(some 47), (.op (.mv (.tmp 0))), none⟩,
            ⟨(some 48), (.op (.nilc (.tmp 47))), none⟩,
            ⟨(some 49), (.op (.faddr 1 (.tmp 48))), none⟩,
            ⟨(some 50), (.op (.load none (.tmp 49))), none⟩,
            ⟨(some 51), (.op (.bin .add none (.tmp 50) (.cst (.int .i64 1)))), none⟩,
            ⟨(some 52), (.op (.nilc (.tmp 47))), none⟩,
            ⟨(some 53), (.op (.faddr 1 (.tmp 52))), none⟩,
            ⟨none, (.op (.store 1 (.tmp 53) (.tmp 51))), none⟩] [])))
        (.region [
          ⟨(some 16), (.op (.mv (.tmp 4))), none⟩,
          ⟨(some 17), (.op (.bin .add none (.tmp 16) (.cst (.int .i64 1)))), none⟩,
          ⟨(some 4), (.op (.mv (.tmp 17))), none⟩] []))))))⟩
theorem c94 : cFn Tryz.prog [] Tryz.f94 = some h94 := by kernel_rfl
/-- stint/answers.word -/
def h95 : HFn :=
  ⟨14, [(.tmp 2)],
    (.seq (.region [
      ⟨(some 2), (.op (.mv (.cst (.str [])))), none⟩] [])
    (.seq (.region [
      ⟨(some 4), (.op (.build [(.str []), (.str []), (.str []), (.str []), (.str []), (.str []), (.str []), (.str []), (.str []), (.str []), (.str []), (.str []), (.str []), (.str []), (.str []), (.str []), (.str []), (.str []), (.str []), (.str []), (.str []), (.str []), (.str []), (.str [])] [(1, 1, (.cst (.str [73, 78, 83, 69, 82, 84, 69, 68]))), (2, 1, (.cst (.str [85, 83, 73, 78, 71]))), (3, 1, (.cst (.str [82, 69, 83, 69, 82, 86, 69, 68]))), (4, 1, (.cst (.str [68, 69, 65, 68, 76, 73, 78, 69, 95, 83, 79, 79, 78]))), (5, 1, (.cst (.str [84, 73, 77, 69, 68, 95, 79, 85, 84]))), (6, 1, (.cst (.str [68, 69, 76, 69, 84, 69, 68]))), (7, 1, (.cst (.str [82, 69, 76, 69, 65, 83, 69, 68]))), (8, 1, (.cst (.str [66, 85, 82, 73, 69, 68]))), (9, 1, (.cst (.str [84, 79, 85, 67, 72, 69, 68]))), (10, 1, (.cst (.str [87, 65, 84, 67, 72, 73, 78, 71]))), (11, 1, (.cst (.str [78, 79, 84, 95, 73, 71, 78, 79, 82, 69, 68]))), (12, 1, (.cst (.str [70, 79, 85, 78, 68]))), (13, 1, (.cst (.str [75, 73, 67, 75, 69, 68]))), (14, 1, (.cst (.str [75, 73, 67, 75, 69, 68]))), (15, 1, (.cst (.str [80, 65, 85, 83, 69, 68]))), (16, 1, (.cst (.str [79, 75]))), (17, 1, (.cst (.str [78, 79, 84, 95, 70, 79, 85, 78, 68]))), (18, 1, (.cst (.str [79, 85, 84, 95, 79, 70, 95, 77, 69, 77, 79, 82, 89]))), (19, 1, (.cst (.str [66, 65, 68, 95, 70, 79, 82, 77, 65, 84]))), (20, 1, (.cst (.str [85, 78, 75, 78, 79, 87, 78, 95, 67, 79, 77, 77, 65, 78, 68]))), (21, 1, (.cst (.str [69, 88, 80, 69, 67, 84, 69, 68, 95, 67, 82, 76, 70]))), (22, 1, (.cst (.str [74, 79, 66, 95, 84, 79, 79, 95, 66, 73, 71]))), (23, 1, (.cst (.str [68, 82, 65, 73, 78, 73, 78, 71])))])), none⟩,
      ⟨(some 3), (.op (.box (.cst (.agg [(.str []), (.str []), (.str []), (.str []), (.str []), (.str []), (.str []), (.str []), (.str []), (.str []), (.str []), (.str []), (.str []), (.str []), (.str []), (.str []), (.str []), (.str []), (.str []), (.str []), (.str []), (.str []), (.str []), (.str [])])))), none⟩,
      ⟨none, (.op (.store 24 (.tmp 3) (.tmp 4))), none⟩] [])
    (.seq (.seq (.region [
      ⟨(some 5), (.op (.mv (.tmp 0))), none⟩,
      ⟨(some 6), (.op (.bin .lss none (.tmp 5) (.cst (.int .i64 1)))), none⟩,
      ⟨(some 7), (.op (.mv (.tmp 6))), none⟩,
      ⟨(some 8), (.op (.mv (.tmp 0))), (some (7, false))⟩,
      ⟨(some 9), (.op (.bin .geq none (.tmp 8) (.cst (.int .i64 24)))), (some (7, false))⟩,
      ⟨(some 10), (.op (.pick (.tmp 7) (.cst (.bool true)) (.tmp 9))), none⟩] [])
    (.cond (.tmp 10)
      (.seq (.region [
        ⟨(some 2), (.op (.mv (.cst (.str [])))), none⟩] [])
      .ret)
      .skip))
    (.seq (.region [
      ⟨(some 11), (.op (.mv (.tmp 0))), none⟩,
      ⟨(some 12), (.op (.idxA 24 1 (.tmp 3) (.tmp 11))), none⟩,
      ⟨(some 13), (.op (.load none (.tmp 12))), none⟩,
      ⟨(some 2), (.op (.mv (.tmp 13))), none⟩] [])
    .ret))))⟩
theorem c95 : cFn Tryz.prog [] Tryz.f95 = some h95 := by kernel_rfl
/-- (*stint/answers.cursor).number -/
def h96 : HFn :=
  ⟨116, [(.tmp 6)],
    (.seq (.region [
      ⟨(some 6), (.op (.mv (.cst (.int .i64 0)))), none⟩] [])
    (.seq (.draw [
      ⟨(some 10), (.op (.mv (.tmp 0))), none⟩,
      ⟨(some 11), (.op (.nilc (.tmp 10))), none⟩,
      ⟨(some 12), (.op (.faddr 1 (.tmp 11))), none⟩,
      ⟨(some 13), (.op (.load none (.tmp 12))), none⟩,
      ⟨(some 7), (.op (.mv (.cst (.int .i64 0)))), none⟩,
      ⟨(some 8), (.op (.mv (.tmp 13))), none⟩] [0, 1, 2, 3, 4, 5] [[], [], [], [], [], []] [])
    (.seq (.block 0
      (.loop
        (.seq (.seq (.draw [
          ⟨(some 14), (.op (.mv (.tmp 0))), none⟩,
          ⟨(some 15), (.op (.nilc (.tmp 14))), none⟩,
          ⟨(some 16), (.op (.faddr 2 (.tmp 15))), none⟩,
          ⟨(some 17), (.op (.load none (.tmp 16))), none⟩,
          ⟨(some 18), (.op (.un .not (.tmp 17))), none⟩,
          ⟨(some 19), (.op (.mv (.tmp 18))), none⟩,
          ⟨(some 20), (.op (.mv (.tmp 0))), (some (19, true))⟩,
          ⟨(some 21), (.op (.nilc (.tmp 20))), (some (19, true))⟩,
          ⟨(some 22), (.op (.faddr 1 (.tmp 21))), (some (19, true))⟩,
          ⟨(some 23), (.op (.load none (.tmp 22))), (some (19, true))⟩,
          ⟨(some 24), (.op (.mv (.tmp 0))), (some (19, true))⟩,
          ⟨(some 25), (.op (.nilc (.tmp 24))), (some (19, true))⟩,
          ⟨(some 26), (.op (.faddr 0 (.tmp 25))), (some (19, true))⟩,
          ⟨(some 27), (.op (.load none (.tmp 26))), (some (19, true))⟩,
          ⟨(some 28), (.op (.len .slice (.tmp 27))), (some (19, true))⟩,
          ⟨(some 29), (.op (.bin .lss none (.tmp 23) (.tmp 28))), (some (19, true))⟩,
          ⟨(some 30), (.op (.pick (.tmp 19) (.tmp 29) (.cst (.bool false)))), none⟩,
          ⟨(some 31), (.op (.mv (.tmp 30))), none⟩,
          ⟨(some 32), (.op (.mv (.tmp 0))), (some (31, true))⟩,
          ⟨(some 33), (.op (.nilc (.tmp 32))), (some (31, true))⟩,
          ⟨(some 34), (.op (.faddr 0 (.tmp 33))), (some (31, true))⟩,
          ⟨(some 35), (.op (.load none (.tmp 34))), (some (31, true))⟩,
          ⟨(some 36), (.op (.mv (.tmp 0))), (some (31, true))⟩,
          ⟨(some 37), (.op (.nilc (.tmp 36))), (some (31, true))⟩,
          ⟨(some 38), (.op (.faddr 1 (.tmp 37))), (some (31, true))⟩,
          ⟨(some 39), (.op (.load none (.tmp 38))), (some (31, true))⟩,
          ⟨(some 40), (.op (.idxS 1 (.tmp 35) (.tmp 39))), (some (31, true))⟩,
          ⟨(some 41), (.op (.load none (.tmp 40))), (some (31, true))⟩,
          ⟨(some 42), (.op (.bin .geq none (.tmp 41) (.cst (.int .u8 48)))), (some (31, true))⟩,
          ⟨(some 43), (.op (.pick (.tmp 31) (.tmp 42) (.cst (.bool false)))), none⟩,
          ⟨(some 44), (.op (.mv (.tmp 43))), none⟩,
          ⟨(some 45), (.op (.mv (.tmp 0))), (some (44, true))⟩,
          ⟨(some 46), (.op (.nilc (.tmp 45))), (some (44, true))⟩,
          ⟨(some 47), (.op (.faddr 0 (.tmp 46))), (some (44, true))⟩,
          ⟨(some 48), (.op (.load none (.tmp 47))), (some (44, true))⟩,
          ⟨(some 49), (.op (.mv (.tmp 0))), (some (44, true))⟩,
          ⟨(some 50), (.op (.nilc (.tmp 49))), (some (44, true))⟩,
          ⟨(some 51), (.op (.faddr 1 (.tmp 50))), (some (44, true))⟩,
          ⟨(some 52), (.op (.load none (.tmp 51))), (some (44, true))⟩,
          ⟨(some 53), (.op (.idxS 1 (.tmp 48) (.tmp 52))), (some (44, true))⟩,
          ⟨(some 54), (.op (.load none (.tmp 53))), (some (44, true))⟩,
          ⟨(some 55), (.op (.bin .leq none (.tmp 54) (.cst (.int .u8 57)))), (some (44, true))⟩,
          ⟨(some 56), (.op (.pick (.tmp 44) (.tmp 55) (.cst (.bool false)))), none⟩] [0, 1, 2, 3, 4, 5, 6, 7, 8, 9, 10, 11, 12, 13, 14, 15, 16, 17, 18, 19, 20, 21, 22, 23, 24, 25, 26, 27, 28, 29, 30, 31, 32, 33, 34, 35, 36, 37, 38, 39, 40, 41, 42] [[], [], [], [], [], [], [], [], [], [], [], [], [], [], [], [], [], [], [], [], [], [], [], [], [], [], [], [], [], [], [], [], [], [], [], [], [], [], [], [], [], [], []] [])
        (.cond (.tmp 56)
          .skip
          (.exit 0)))
        (.block 1
          (.seq (.draw [
            ⟨(some 57), (.op (.mv (.tmp 7))), none⟩,
            ⟨(some 58), (.op (.bin .mul none (.cst (.int .i64 10)) (.tmp 57))), none⟩,
            ⟨(some 59), (.op (.mv (.tmp 0))), none⟩,
            ⟨(some 60), (.op (.nilc (.tmp 59))), none⟩,
            ⟨(some 61), (.op (.faddr 0 (.tmp 60))), none⟩,
            ⟨(some 62), (.op (.load none (.tmp 61))), none⟩,
            ⟨(some 63), (.op (.mv (.tmp 0))), none⟩,
            ⟨(some 64), (.op (.nilc (.tmp 63))), none⟩,
            ⟨(some 65), (.op (.faddr 1 (.tmp 64))), none⟩,
            ⟨(some 66), (.op (.load none (.tmp 65))), none⟩,
            ⟨(some 67), (.op (.idxS 1 (.tmp 62) (.tmp 66))), none⟩,
            ⟨(some 68), (.op (.load none (.tmp 67))), none⟩,
            ⟨(some 69), (.op (.bin .sub none (.tmp 68) (.cst (.int .u8 48)))), none⟩,
            ⟨(some 70), (.op (.cInt .i64 (.tmp 69))), none⟩,
            ⟨(some 71), (.op (.bin .add none (.tmp 58) (.tmp 70))), none⟩,
            ⟨(some 9), (.op (.mv (.tmp 71))), none⟩] [0, 1, 2, 3, 4, 5, 6, 7, 8, 9, 10, 11, 12, 13, 14, 15] [[], [], [], [], [], [], [], [], [], [], [], [], [], [], [], []] [])
          (.seq (.seq (.region [
            ⟨(some 72), (.op (.mv (.tmp 9))), none⟩,
            ⟨(some 73), (.op (.mv (.tmp 2))), none⟩,
            ⟨(some 74), (.op (.bin .gtr none (.tmp 72) (.tmp 73))), none⟩,
            ⟨(some 75), (.op (.mv (.tmp 74))), none⟩,
            ⟨(some 76), (.op (.mv (.tmp 9))), (some (75, false))⟩,
            ⟨(some 77), (.op (.mv (.tmp 1))), (some (75, false))⟩,
            ⟨(some 78), (.op (.bin .lss none (.tmp 76) (.tmp 77))), (some (75, false))⟩,
            ⟨(some 79), (.op (.pick (.tmp 75) (.cst (.bool true)) (.tmp 78))), none⟩,
            ⟨(some 80), (.op (.mv (.tmp 79))), none⟩,
            ⟨(some 81), (.op (.mv (.tmp 0))), (some (80, false))⟩,
            ⟨(some 82), (.op (.nilc (.tmp 81))), (some (80, false))⟩,
            ⟨(some 83), (.op (.faddr 1 (.tmp 82))), (some (80, false))⟩,
            ⟨(some 84), (.op (.load none (.tmp 83))), (some (80, false))⟩,
            ⟨(some 85), (.op (.mv (.tmp 8))), (some (80, false))⟩,
            ⟨(some 86), (.op (.bin .gtr none (.tmp 84) (.tmp 85))), (some (80, false))⟩,
            ⟨(some 87), (.op (.mv (.tmp 86))), (some (80, false))⟩,
            ⟨(some 88), (.op (.mv (.tmp 7))), (some (87, true))⟩,
            ⟨(some 89), (.op (.bin .eql (some .int) (.tmp 88) (.cst (.int .i64 0)))), (some (87, true))⟩,
            ⟨(some 90), (.op (.pick (.tmp 87) (.tmp 89) (.cst (.bool false)))), (some (80, false))⟩,
            ⟨(some 91), (.op (.pick (.tmp 80) (.cst (.bool true)) (.tmp 90))), none⟩] [])
          (.cond (.tmp 91)
            (.exit 0)
            .skip))
          (.seq (.region [
            ⟨(some 92), (.op (.mv (.tmp 9))), none⟩,
            ⟨(some 7), (.op (.mv (.tmp 92))), none⟩] [])
          (.region [
            ⟨(some 93), (.op (.mv (.tmp 0))), none⟩,
            ⟨(some 94), (.op (.nilc (.tmp 93))), none⟩,
            ⟨(some 95), (.op (.faddr 1 (.tmp 94))), none⟩,
            ⟨(some 96), (.op (.load none (.tmp 95))), none⟩,
            ⟨(some 97), (.op (.bin .add none (.tmp 96) (.cst (.int .i64 1)))), none⟩,
            ⟨(some 98), (.op (.nilc (.tmp 93))), none⟩,
            ⟨(some 99), (.op (.faddr 1 (.tmp 98))), none⟩,
            ⟨none, (.op (.store 1 (.tmp 99) (.tmp 97))), none⟩] []))))))))
    (.seq (.region [
      ⟨(some 100), (.op (.mv (.tmp 0))), none⟩,
      ⟨(some 101), (.op (.mv (.tmp 0))), none⟩,
      ⟨(some 102), (.op (.nilc (.tmp 101))), none⟩,
      ⟨(some 103), (.op (.faddr 2 (.tmp 102))), none⟩,
      ⟨(some 104), (.op (.load none (.tmp 103))), none⟩,
      ⟨(some 105), (.op (.mv (.tmp 104))), none⟩,
      ⟨(some 106), (.op (.mv (.tmp 0))), (some (105, false))⟩,
      ⟨(some 107), (.op (.nilc (.tmp 106))), (some (105, false))⟩,
      ⟨(some 108), (.op (.faddr 1 (.tmp 107))), (some (105, false))⟩,
      ⟨(some 109), (.op (.load none (.tmp 108))), (some (105, false))⟩,
      ⟨(some 110), (.op (.mv (.tmp 8))), (some (105, false))⟩,
      ⟨(some 111), (.op (.bin .eql (some .int) (.tmp 109) (.tmp 110))), (some (105, false))⟩,
      ⟨(some 112), (.op (.pick (.tmp 105) (.cst (.bool true)) (.tmp 111))), none⟩,
      ⟨(some 113), (.op (.nilc (.tmp 100))), none⟩,
      ⟨(some 114), (.op (.faddr 2 (.tmp 113))), none⟩,
      ⟨none, (.op (.store 1 (.tmp 114) (.tmp 112))), none⟩] [])
    (.seq (.region [
      ⟨(some 115), (.op (.mv (.tmp 7))), none⟩,
      ⟨(some 6), (.op (.mv (.tmp 115))), none⟩] [])
    .ret)))))⟩
theorem c96 : cFn Tryz.prog [] Tryz.f96 = some h96 := by kernel_rfl
/-- stint/answers.most -/
def h97 : HFn :=
  ⟨5, [(.tmp 2)],
    (.seq (.region [
      ⟨(some 2), (.op (.mv (.cst (.int .i64 0)))), none⟩] [])
    (.seq (.seq (.region [
      ⟨(some 3), (.op (.mv (.tmp 0))), none⟩,
      ⟨(some 4), (.op (.bin .eql (some .int) (.tmp 3) (.cst (.int .i64 16)))), none⟩] [])
    (.cond (.tmp 4)
      (.seq (.region [
        ⟨(some 2), (.op (.mv (.cst (.int .i64 4294967295)))), none⟩] [])
      .ret)
      .skip))
    (.seq (.region [
      ⟨(some 2), (.op (.mv (.cst (.int .i64 65535)))), none⟩] [])
    .ret)))⟩
theorem c97 : cFn Tryz.prog [] Tryz.f97 = some h97 := by kernel_rfl
/-- (*stint/answers.cursor).bytes -/
def h98 : HFn :=
  ⟨55, [(.tmp 4)],
    (.seq (.region [
      ⟨(some 4), (.op (.mv (.cst .nilSlice))), none⟩] [])
    (.seq (.seq (.region [
      ⟨(some 6), (.op (.mv (.tmp 0))), none⟩,
      ⟨(some 7), (.op (.nilc (.tmp 6))), none⟩,
      ⟨(some 8), (.op (.faddr 2 (.tmp 7))), none⟩,
      ⟨(some 9), (.op (.load none (.tmp 8))), none⟩] [])
    (.cond (.tmp 9)
      (.seq (.region [
        ⟨(some 4), (.op (.mv (.cst .nilSlice))), none⟩] [])
      .ret)
      .skip))
    (.seq (.seq (.draw [
      ⟨(some 10), (.op (.mv (.tmp 0))), none⟩,
      ⟨(some 11), (.op (.nilc (.tmp 10))), none⟩,
      ⟨(some 12), (.op (.faddr 0 (.tmp 11))), none⟩,
      ⟨(some 13), (.op (.load none (.tmp 12))), none⟩,
      ⟨(some 14), (.op (.len .slice (.tmp 13))), none⟩,
      ⟨(some 15), (.op (.mv (.tmp 0))), none⟩,
      ⟨(some 16), (.op (.nilc (.tmp 15))), none⟩,
      ⟨(some 17), (.op (.faddr 1 (.tmp 16))), none⟩,
      ⟨(some 18), (.op (.load none (.tmp 17))), none⟩,
      ⟨(some 19), (.op (.bin .sub none (.tmp 14) (.tmp 18))), none⟩,
      ⟨(some 20), (.op (.mv (.tmp 1))), none⟩,
      ⟨(some 21), (.op (.bin .lss none (.tmp 19) (.tmp 20))), none⟩] [0, 1, 2, 3, 4, 5, 6, 7, 8, 9, 10, 11] [[], [], [], [], [], [], [], [], [], [], [], []] [])
    (.cond (.tmp 21)
      (.seq (.region [
        ⟨(some 22), (.op (.mv (.tmp 0))), none⟩,
        ⟨(some 23), (.op (.mv (.tmp 0))), none⟩,
        ⟨(some 24), (.op (.mv (.tmp 0))), none⟩,
        ⟨(some 25), (.op (.nilc (.tmp 24))), none⟩,
        ⟨(some 26), (.op (.faddr 0 (.tmp 25))), none⟩,
        ⟨(some 27), (.op (.load none (.tmp 26))), none⟩,
        ⟨(some 28), (.op (.len .slice (.tmp 27))), none⟩,
        ⟨(some 29), (.op (.nilc (.tmp 22))), none⟩,
        ⟨(some 30), (.op (.faddr 1 (.tmp 29))), none⟩,
        ⟨none, (.op (.store 1 (.tmp 30) (.tmp 28))), none⟩,
        ⟨(some 31), (.op (.nilc (.tmp 23))), none⟩,
        ⟨(some 32), (.op (.faddr 2 (.tmp 31))), none⟩,
        ⟨none, (.op (.store 1 (.tmp 32) (.cst (.bool true)))), none⟩] [])
      (.seq (.region [
        ⟨(some 4), (.op (.mv (.cst .nilSlice))), none⟩] [])
      .ret))
      .skip))
    (.seq (.region [
      ⟨(some 33), (.op (.mv (.tmp 1))), none⟩,
      ⟨(some 34), (.op (.mkSlice 1 1 [(.int .u8 0)] (.tmp 33) (.tmp 33))), none⟩,
      ⟨(some 5), (.op (.mv (.tmp 34))), none⟩] [])
    (.seq (.draw [
      ⟨(some 35), (.op (.mv (.tmp 5))), none⟩,
      ⟨(some 36), (.op (.mv (.tmp 0))), none⟩,
      ⟨(some 37), (.op (.nilc (.tmp 36))), none⟩,
      ⟨(some 38), (.op (.faddr 0 (.tmp 37))), none⟩,
      ⟨(some 39), (.op (.load none (.tmp 38))), none⟩,
      ⟨(some 40), (.op (.mv (.tmp 0))), none⟩,
      ⟨(some 41), (.op (.nilc (.tmp 40))), none⟩,
      ⟨(some 42), (.op (.faddr 1 (.tmp 41))), none⟩,
      ⟨(some 43), (.op (.load none (.tmp 42))), none⟩,
      ⟨(some 44), (.op (.sliceSl 1 (.tmp 39) (some (.tmp 43)) none none)), none⟩,
      ⟨(some 45), (.op (.copy 1 (.tmp 35) (.tmp 44))), none⟩] [0, 1, 2, 3, 4, 5, 6, 7, 8, 9, 10] [[], [], [], [], [], [], [], [], [], [], [9, 4, 8]] [])
    (.seq (.region [
      ⟨(some 46), (.op (.mv (.tmp 0))), none⟩,
      ⟨(some 47), (.op (.nilc (.tmp 46))), none⟩,
      ⟨(some 48), (.op (.faddr 1 (.tmp 47))), none⟩,
      ⟨(some 49), (.op (.load none (.tmp 48))), none⟩,
      ⟨(some 50), (.op (.mv (.tmp 1))), none⟩,
      ⟨(some 51), (.op (.bin .add none (.tmp 49) (.tmp 50))), none⟩,
      ⟨(some 52), (.op (.nilc (.tmp 46))), none⟩,
      ⟨(some 53), (.op (.faddr 1 (.tmp 52))), none⟩,
      ⟨none, (.op (.store 1 (.tmp 53) (.tmp 51))), none⟩] [])
    (.seq (.region [
      ⟨(some 54), (.op (.mv (.tmp 5))), none⟩,
      ⟨(some 4), (.op (.mv (.tmp 54))), none⟩] [])
    .ret)))))))⟩
theorem c98 : cFn Tryz.prog [] Tryz.f98 = some h98 := by kernel_rfl
/-- (*stint/answers.cursor).name -/
def h99 : HFn :=
  ⟨73, [(.tmp 2)],
    (.seq (.region [
      ⟨(some 2), (.op (.mv (.cst (.str [])))), none⟩] [])
    (.seq (.region [
      ⟨(some 4), (.op (.mv (.tmp 0))), none⟩,
      ⟨(some 5), (.op (.nilc (.tmp 4))), none⟩,
      ⟨(some 6), (.op (.faddr 1 (.tmp 5))), none⟩,
      ⟨(some 7), (.op (.load none (.tmp 6))), none⟩,
      ⟨(some 3), (.op (.mv (.tmp 7))), none⟩] [])
    (.seq (.block 0
      (.loop
        (.seq (.seq (.draw [
          ⟨(some 8), (.op (.mv (.tmp 0))), none⟩,
          ⟨(some 9), (.op (.nilc (.tmp 8))), none⟩,
          ⟨(some 10), (.op (.faddr 2 (.tmp 9))), none⟩,
          ⟨(some 11), (.op (.load none (.tmp 10))), none⟩,
          ⟨(some 12), (.op (.un .not (.tmp 11))), none⟩,
          ⟨(some 13), (.op (.mv (.tmp 12))), none⟩,
          ⟨(some 14), (.op (.mv (.tmp 0))), (some (13, true))⟩,
          ⟨(some 15), (.op (.nilc (.tmp 14))), (some (13, true))⟩,
          ⟨(some 16), (.op (.faddr 1 (.tmp 15))), (some (13, true))⟩,
          ⟨(some 17), (.op (.load none (.tmp 16))), (some (13, true))⟩,
          ⟨(some 18), (.op (.mv (.tmp 0))), (some (13, true))⟩,
          ⟨(some 19), (.op (.nilc (.tmp 18))), (some (13, true))⟩,
          ⟨(some 20), (.op (.faddr 0 (.tmp 19))), (some (13, true))⟩,
          ⟨(some 21), (.op (.load none (.tmp 20))), (some (13, true))⟩,
          ⟨(some 22), (.op (.len .slice (.tmp 21))), (some (13, true))⟩,
          ⟨(some 23), (.op (.bin .lss none (.tmp 17) (.tmp 22))), (some (13, true))⟩,
          ⟨(some 24), (.op (.pick (.tmp 13) (.tmp 23) (.cst (.bool false)))), none⟩,
          ⟨(some 25), (.op (.mv (.tmp 24))), none⟩,
          ⟨(some 26), (.op (.mv (.tmp 0))), (some (25, true))⟩,
          ⟨(some 27), (.op (.nilc (.tmp 26))), (some (25, true))⟩,
          ⟨(some 28), (.op (.faddr 0 (.tmp 27))), (some (25, true))⟩,
          ⟨(some 29), (.op (.load none (.tmp 28))), (some (25, true))⟩,
          ⟨(some 30), (.op (.mv (.tmp 3))), (some (25, true))⟩,
          ⟨(some 31), (.op (.mv (.tmp 0))), (some (25, true))⟩,
          ⟨(some 32), (.op (.nilc (.tmp 31))), (some (25, true))⟩,
          ⟨(some 33), (.op (.faddr 1 (.tmp 32))), (some (25, true))⟩,
          ⟨(some 34), (.op (.load none (.tmp 33))), (some (25, true))⟩,
          ⟨(some 35), (.op (.bin .add none (.tmp 34) (.cst (.int .i64 1)))), (some (25, true))⟩,
          ⟨(some 36), (.op (.sliceSl 1 (.tmp 29) (some (.tmp 30)) (some (.tmp 35)) none)), (some (25, true))⟩,
          ⟨(some 37), (.op (.b2s (.tmp 36))), (some (25, true))⟩,
          ⟨(some 38), (.call (.cst (.func (.func 89) [] [])) [(.tmp 37)]), (some (25, true))⟩,
          ⟨(some 39), (.op (.pick (.tmp 25) (.tmp 38) (.cst (.bool false)))), none⟩] [0, 1, 2, 3, 4, 5, 6, 7, 8, 9, 10, 11, 12, 13, 14, 15, 16, 17, 18, 19, 20, 21, 22, 23, 24, 25, 26, 27, 28, 29, 30, 31] [[], [], [], [], [], [], [], [], [], [], [], [], [], [], [], [], [], [], [], [], [], [], [], [], [], [], [], [], [], [], [29, 28, 21, 3, 9, 14, 13, 26], []] [])
        (.cond (.tmp 39)
          .skip
          (.exit 0)))
        (.block 1
          (.region [
            ⟨(some 40), (.op (.mv (.tmp 0))), none⟩,
            ⟨(some 41), (.op (.nilc (.tmp 40))), none⟩,
            ⟨(some 42), (.op (.faddr 1 (.tmp 41))), none⟩,
            ⟨(some 43), (.op (.load none (.tmp 42))), none⟩,
            ⟨(some 44), (.op (.bin .add none (.tmp 43) (.cst (.int .i64 1)))), none⟩,
            ⟨(some 45), (.op (.nilc (.tmp 40))), none⟩,
            ⟨(some 46), (.op (.faddr 1 (.tmp 45))), none⟩,
            ⟨none, (.op (.store 1 (.tmp 46) (.tmp 44))), none⟩] [])))))
    (.seq (.region [
      ⟨(some 47), (.op (.mv (.tmp 0))), none⟩,
      ⟨(some 48), (.op (.mv (.tmp 0))), none⟩,
      ⟨(some 49), (.op (.nilc (.tmp 48))), none⟩,
      ⟨(some 50), (.op (.faddr 2 (.tmp 49))), none⟩,
      ⟨(some 51), (.op (.load none (.tmp 50))), none⟩,
      ⟨(some 52), (.op (.mv (.tmp 51))), none⟩,
      ⟨(some 53), (.op (.mv (.tmp 0))), (some (52, false))⟩,
      ⟨(some 54), (.op (.nilc (.tmp 53))), (some (52, false))⟩,
      ⟨(some 55), (.op (.faddr 1 (.tmp 54))), (some (52, false))⟩,
      ⟨(some 56), (.op (.load none (.tmp 55))), (some (52, false))⟩,
      ⟨(some 57), (.op (.mv (.tmp 3))), (some (52, false))⟩,
      ⟨(some 58), (.op (.bin .eql (some .int) (.tmp 56) (.tmp 57))), (some (52, false))⟩,
      ⟨(some 59), (.op (.pick (.tmp 52) (.cst (.bool true)) (.tmp 58))), none⟩,
      ⟨(some 60), (.op (.nilc (.tmp 47))), none⟩,
      ⟨(some 61), (.op (.faddr 2 (.tmp 60))), none⟩,
      ⟨none, (.op (.store 1 (.tmp 61) (.tmp 59))), none⟩] [])
    (.seq (.draw [
      ⟨(some 62), (.op (.mv (.tmp 0))), none⟩,
      ⟨(some 63), (.op (.nilc (.tmp 62))), none⟩,
      ⟨(some 64), (.op (.faddr 0 (.tmp 63))), none⟩,
      ⟨(some 65), (.op (.load none (.tmp 64))), none⟩,
      ⟨(some 66), (.op (.mv (.tmp 3))), none⟩,
      ⟨(some 67), (.op (.mv (.tmp 0))), none⟩,
      ⟨(some 68), (.op (.nilc (.tmp 67))), none⟩,
      ⟨(some 69), (.op (.faddr 1 (.tmp 68))), none⟩,
      ⟨(some 70), (.op (.load none (.tmp 69))), none⟩,
      ⟨(some 71), (.op (.sliceSl 1 (.tmp 65) (some (.tmp 66)) (some (.tmp 70)) none)), none⟩,
      ⟨(some 72), (.op (.b2s (.tmp 71))), none⟩,
      ⟨(some 2), (.op (.mv (.tmp 72))), none⟩] [0, 1, 2, 3, 4, 5, 6, 7, 8, 9, 10, 11] [[], [], [], [], [], [], [], [], [], [], [], []] [])
    .ret)))))⟩
theorem c99 : cFn Tryz.prog [] Tryz.f99 = some h99 := by kernel_rfl
/-- container/heap.Push -/
def h101 : HFn :=
  ⟨12, [],
    (.seq (.region [
      ⟨(some 4), (.op (.mv (.tmp 0))), none⟩,
      ⟨(some 5), (.op (.mv (.tmp 1))), none⟩,
      ⟨(some 6), (.inv [(154, 169, none)] (.tmp 4) [(.tmp 5)]), none⟩] [])
    (.region [
      ⟨(some 7), (.op (.mv (.tmp 0))), none⟩,
      ⟨(some 8), (.op (.mv (.tmp 0))), none⟩,
      ⟨(some 9), (.inv [(17, 156, none), (154, 66, (some none)), (159, 66, none)] (.tmp 8) []), none⟩,
      ⟨(some 10), (.op (.bin .sub none (.tmp 9) (.cst (.int .i64 1)))), none⟩,
      ⟨(some 11), (.call (.cst (.func (.func 121) [] [])) [(.tmp 7), (.tmp 10)]), none⟩] []))⟩
theorem c101 : cFn Tryz.prog [] Tryz.f101 = some h101 := by kernel_rfl
/-- strings.genSplit -/
def h118 : HFn :=
  ⟨66, [(.tmp 8)],
    (.seq (.region [
      ⟨(some 8), (.op (.mv (.cst .nilSlice))), none⟩] [])
    (.seq (.seq (.region [
      ⟨(some 12), (.op (.mv (.tmp 3))), none⟩,
      ⟨(some 13), (.op (.bin .eql (some .int) (.tmp 12) (.cst (.int .i64 0)))), none⟩] [])
    (.cond (.tmp 13)
      (.seq (.region [
        ⟨(some 8), (.op (.mv (.cst .nilSlice))), none⟩] [])
      .ret)
      .skip))
    (.seq (.seq (.region [
      ⟨(some 14), (.op (.mv (.tmp 1))), none⟩,
      ⟨(some 15), (.op (.bin .eql (some .str) (.tmp 14) (.cst (.str [])))), none⟩] [])
    (.cond (.tmp 15)
      (.seq (.region [
        ⟨(some 16), (.op (.mv (.tmp 0))), none⟩,
        ⟨(some 17), (.op (.mv (.tmp 3))), none⟩,
        ⟨(some 18), (.call (.cst (.func (.func 132) [] [])) [(.tmp 16), (.tmp 17)]), none⟩,
        ⟨(some 8), (.op (.mv (.tmp 18))), none⟩] [])
      .ret)
      .skip))
    (.seq (.seq (.region [
      ⟨(some 19), (.op (.mv (.tmp 3))), none⟩,
      ⟨(some 20), (.op (.bin .lss none (.tmp 19) (.cst (.int .i64 0)))), none⟩] [])
    (.cond (.tmp 20)
      (.region [
        ⟨(some 21), (.op (.mv (.tmp 0))), none⟩,
        ⟨(some 22), (.op (.mv (.tmp 1))), none⟩,
        ⟨(some 23), (.call (.cst (.func (.func 133) [] [])) [(.tmp 21), (.tmp 22)]), none⟩,
        ⟨(some 24), (.op (.bin .add none (.tmp 23) (.cst (.int .i64 1)))), none⟩,
        ⟨(some 3), (.op (.mv (.tmp 24))), none⟩] [])
      .skip))
    (.seq (.region [
      ⟨(some 25), (.op (.mv (.tmp 3))), none⟩,
      ⟨(some 26), (.op (.mv (.tmp 0))), none⟩,
      ⟨(some 27), (.op (.len .str (.tmp 26))), none⟩,
      ⟨(some 28), (.op (.bin .add none (.tmp 27) (.cst (.int .i64 1)))), none⟩,
      ⟨(some 29), (.op (.minmax true [(.tmp 25), (.tmp 28)])), none⟩,
      ⟨(some 3), (.op (.mv (.tmp 29))), none⟩] [])
    (.seq (.region [
      ⟨(some 30), (.op (.mv (.tmp 3))), none⟩,
      ⟨(some 31), (.op (.mkSlice 1 16 [(.str [])] (.tmp 30) (.tmp 30))), none⟩,
      ⟨(some 9), (.op (.mv (.tmp 31))), none⟩] [])
    (.seq (.region [
      ⟨(some 32), (.op (.mv (.tmp 3))), none⟩,
      ⟨(some 33), (.op (.bin .sub none (.tmp 32) (.cst (.int .i64 1)))), none⟩,
      ⟨(some 3), (.op (.mv (.tmp 33))), none⟩] [])
    (.seq (.region [
      ⟨(some 10), (.op (.mv (.cst (.int .i64 0)))), none⟩] [])
    (.seq (.block 0
      (.loop
        (.seq (.seq (.region [
          ⟨(some 34), (.op (.mv (.tmp 10))), none⟩,
          ⟨(some 35), (.op (.mv (.tmp 3))), none⟩,
          ⟨(some 36), (.op (.bin .lss none (.tmp 34) (.tmp 35))), none⟩] [])
        (.cond (.tmp 36)
          .skip
          (.exit 0)))
        (.block 1
          (.seq (.region [
            ⟨(some 37), (.op (.mv (.tmp 0))), none⟩,
            ⟨(some 38), (.op (.mv (.tmp 1))), none⟩,
            ⟨(some 39), (.call (.cst (.func (.func 134) [] [])) [(.tmp 37), (.tmp 38)]), none⟩,
            ⟨(some 11), (.op (.mv (.tmp 39))), none⟩] [])
          (.seq (.seq (.region [
            ⟨(some 40), (.op (.mv (.tmp 11))), none⟩,
            ⟨(some 41), (.op (.bin .lss none (.tmp 40) (.cst (.int .i64 0)))), none⟩] [])
          (.cond (.tmp 41)
            (.exit 0)
            .skip))
          (.seq (.region [
            ⟨(some 42), (.op (.mv (.tmp 9))), none⟩,
            ⟨(some 43), (.op (.mv (.tmp 10))), none⟩,
            ⟨(some 44), (.op (.mv (.tmp 0))), none⟩,
            ⟨(some 45), (.op (.mv (.tmp 11))), none⟩,
            ⟨(some 46), (.op (.mv (.tmp 2))), none⟩,
            ⟨(some 47), (.op (.bin .add none (.tmp 45) (.tmp 46))), none⟩,
            ⟨(some 48), (.op (.sliceStr (.tmp 44) none (some (.tmp 47)))), none⟩,
            ⟨(some 49), (.op (.idxS 1 (.tmp 42) (.tmp 43))), none⟩,
            ⟨none, (.op (.store 1 (.tmp 49) (.tmp 48))), none⟩] [])
          (.seq (.region [
            ⟨(some 50), (.op (.mv (.tmp 0))), none⟩,
            ⟨(some 51), (.op (.mv (.tmp 11))), none⟩,
            ⟨(some 52), (.op (.mv (.tmp 1))), none⟩,
            ⟨(some 53), (.op (.len .str (.tmp 52))), none⟩,
            ⟨(some 54), (.op (.bin .add none (.tmp 51) (.tmp 53))), none⟩,
            ⟨(some 55), (.op (.sliceStr (.tmp 50) (some (.tmp 54)) none)), none⟩,
            ⟨(some 0), (.op (.mv (.tmp 55))), none⟩] [])
          (.region [
            ⟨(some 56), (.op (.mv (.tmp 10))), none⟩,
            ⟨(some 57), (.op (.bin .add none (.tmp 56) (.cst (.int .i64 1)))), none⟩,
            ⟨(some 10), (.op (.mv (.tmp 57))), none⟩] [])))))))))
    (.seq (.region [
      ⟨(some 58), (.op (.mv (.tmp 9))), none⟩,
      ⟨(some 59), (.op (.mv (.tmp 10))), none⟩,
      ⟨(some 60), (.op (.mv (.tmp 0))), none⟩,
      ⟨(some 61), (.op (.idxS 1 (.tmp 58) (.tmp 59))), none⟩,
      ⟨none, (.op (.store 1 (.tmp 61) (.tmp 60))), none⟩] [])
    (.seq (.region [
      ⟨(some 62), (.op (.mv (.tmp 9))), none⟩,
      ⟨(some 63), (.op (.mv (.tmp 10))), none⟩,
      ⟨(some 64), (.op (.bin .add none (.tmp 63) (.cst (.int .i64 1)))), none⟩,
      ⟨(some 65), (.op (.sliceSl 1 (.tmp 62) none (some (.tmp 64)) none)), none⟩,
      ⟨(some 8), (.op (.mv (.tmp 65))), none⟩] [])
    .ret)))))))))))⟩
theorem c118 : cFn Tryz.prog [] Tryz.f118 = some h118 := by kernel_rfl
/-- stint/digits.Word -/
def h119 : HFn :=
  ⟨18, [(.tmp 2)],
    (.seq (.region [
      ⟨(some 2), (.op (.mv (.cst (.bool false)))), none⟩] [])
    (.seq (.seq (.region [
      ⟨(some 5), (.op (.mv (.tmp 0))), none⟩,
      ⟨(some 6), (.op (.rangeStr (.tmp 5))), none⟩] [])
    (.block 0
      (.loop
        (.seq (.region [
          ⟨(some 7), (.op (.nextStr (.tmp 6))), none⟩,
          ⟨(some 8), (.op (.ext 0 (.tmp 7))), none⟩] [])
        (.seq (.cond (.tmp 8)
          .skip
          (.exit 0))
        (.block 1
          (.seq (.region [
            ⟨(some 9), (.op (.ext 2 (.tmp 7))), none⟩,
            ⟨(some 4), (.op (.mv (.tmp 9))), none⟩] [])
          (.seq (.region [
            ⟨(some 10), (.op (.mv (.tmp 4))), none⟩,
            ⟨(some 11), (.op (.bin .lss none (.tmp 10) (.cst (.int .i32 33)))), none⟩,
            ⟨(some 12), (.op (.mv (.tmp 11))), none⟩,
            ⟨(some 13), (.op (.mv (.tmp 4))), (some (12, false))⟩,
            ⟨(some 14), (.op (.bin .gtr none (.tmp 13) (.cst (.int .i32 126)))), (some (12, false))⟩,
            ⟨(some 15), (.op (.pick (.tmp 12) (.cst (.bool true)) (.tmp 14))), none⟩] [])
          (.cond (.tmp 15)
            (.seq (.region [
              ⟨(some 2), (.op (.mv (.cst (.bool false)))), none⟩] [])
            .ret)
            .skip)))))))))
    (.seq (.region [
      ⟨(some 16), (.op (.mv (.tmp 0))), none⟩,
      ⟨(some 17), (.op (.bin .neq (some .str) (.tmp 16) (.cst (.str [])))), none⟩,
      ⟨(some 2), (.op (.mv (.tmp 17))), none⟩] [])
    .ret)))⟩
theorem c119 : cFn Tryz.prog [] Tryz.f119 = some h119 := by kernel_rfl
/-- container/heap.up -/
def h121 : HFn :=
  ⟨23, [],
    (.block 0
      (.loop
        (.block 1
          (.seq (.region [
            ⟨(some 5), (.op (.mv (.tmp 1))), none⟩,
            ⟨(some 6), (.op (.bin .sub none (.tmp 5) (.cst (.int .i64 1)))), none⟩,
            ⟨(some 7), (.op (.bin .quo none (.tmp 6) (.cst (.int .i64 2)))), none⟩,
            ⟨(some 4), (.op (.mv (.tmp 7))), none⟩] [])
          (.seq (.seq (.region [
            ⟨(some 8), (.op (.mv (.tmp 4))), none⟩,
            ⟨(some 9), (.op (.mv (.tmp 1))), none⟩,
            ⟨(some 10), (.op (.bin .eql (some .int) (.tmp 8) (.tmp 9))), none⟩,
            ⟨(some 11), (.op (.mv (.tmp 10))), none⟩,
            ⟨(some 12), (.op (.mv (.tmp 0))), (some (11, false))⟩,
            ⟨(some 13), (.op (.mv (.tmp 1))), (some (11, false))⟩,
            ⟨(some 14), (.op (.mv (.tmp 4))), (some (11, false))⟩,
            ⟨(some 15), (.inv [(154, 167, (some none)), (159, 167, none)] (.tmp 12) [(.tmp 13), (.tmp 14)]), (some (11, false))⟩,
            ⟨(some 16), (.op (.un .not (.tmp 15))), (some (11, false))⟩,
            ⟨(some 17), (.op (.pick (.tmp 11) (.cst (.bool true)) (.tmp 16))), none⟩] [])
          (.cond (.tmp 17)
            (.exit 0)
            .skip))
          (.seq (.region [
            ⟨(some 18), (.op (.mv (.tmp 0))), none⟩,
            ⟨(some 19), (.op (.mv (.tmp 4))), none⟩,
            ⟨(some 20), (.op (.mv (.tmp 1))), none⟩,
            ⟨(some 21), (.inv [(154, 170, (some none)), (159, 170, none)] (.tmp 18) [(.tmp 19), (.tmp 20)]), none⟩] [])
          (.region [
            ⟨(some 22), (.op (.mv (.tmp 4))), none⟩,
            ⟨(some 1), (.op (.mv (.tmp 22))), none⟩] [])))))))⟩
theorem c121 : cFn Tryz.prog [] Tryz.f121 = some h121 := by kernel_rfl
/-- strings.Count -/
def h133 : HFn :=
  ⟨34, [(.tmp 4)],
    (.seq (.region [
      ⟨(some 4), (.op (.mv (.cst (.int .i64 0)))), none⟩] [])
    (.seq (.seq (.region [
      ⟨(some 7), (.op (.mv (.tmp 1))), none⟩,
      ⟨(some 8), (.op (.len .str (.tmp 7))), none⟩,
      ⟨(some 9), (.op (.bin .eql (some .int) (.tmp 8) (.cst (.int .i64 0)))), none⟩] [])
    (.cond (.tmp 9)
      (.seq (.region [
        ⟨(some 10), (.op (.mv (.tmp 0))), none⟩,
        ⟨(some 11), (.call (.cst (.func (.func 139) [] [])) [(.tmp 10)]), none⟩,
        ⟨(some 12), (.op (.bin .add none (.tmp 11) (.cst (.int .i64 1)))), none⟩,
        ⟨(some 4), (.op (.mv (.tmp 12))), none⟩] [])
      .ret)
      .skip))
    (.seq (.seq (.region [
      ⟨(some 13), (.op (.mv (.tmp 1))), none⟩,
      ⟨(some 14), (.op (.len .str (.tmp 13))), none⟩,
      ⟨(some 15), (.op (.bin .eql (some .int) (.tmp 14) (.cst (.int .i64 1)))), none⟩] [])
    (.cond (.tmp 15)
      (.seq (.region [
        ⟨(some 16), (.op (.mv (.tmp 0))), none⟩,
        ⟨(some 17), (.op (.mv (.tmp 1))), none⟩,
        ⟨(some 18), (.op (.idxStr (.tmp 17) (.cst (.int .i64 0)))), none⟩,
        ⟨(some 19), (.call (.cst (.func (.func 141) [] [])) [(.tmp 16), (.tmp 18)]), none⟩,
        ⟨(some 4), (.op (.mv (.tmp 19))), none⟩] [])
      .ret)
      .skip))
    (.seq (.region [
      ⟨(some 5), (.op (.mv (.cst (.int .i64 0)))), none⟩] [])
    (.block 0
      (.loop
        (.block 1
          (.seq (.region [
            ⟨(some 20), (.op (.mv (.tmp 0))), none⟩,
            ⟨(some 21), (.op (.mv (.tmp 1))), none⟩,
            ⟨(some 22), (.call (.cst (.func (.func 134) [] [])) [(.tmp 20), (.tmp 21)]), none⟩,
            ⟨(some 6), (.op (.mv (.tmp 22))), none⟩] [])
          (.seq (.seq (.region [
            ⟨(some 23), (.op (.mv (.tmp 6))), none⟩,
            ⟨(some 24), (.op (.bin .eql (some .int) (.tmp 23) (.cst (.int .i64 (-1))))), none⟩] [])
          (.cond (.tmp 24)
            (.seq (.region [
              ⟨(some 25), (.op (.mv (.tmp 5))), none⟩,
              ⟨(some 4), (.op (.mv (.tmp 25))), none⟩] [])
            .ret)
            .skip))
          (.seq (.region [
            ⟨(some 26), (.op (.mv (.tmp 5))), none⟩,
            ⟨(some 27), (.op (.bin .add none (.tmp 26) (.cst (.int .i64 1)))), none⟩,
            ⟨(some 5), (.op (.mv (.tmp 27))), none⟩] [])
          (.region [
            ⟨(some 28), (.op (.mv (.tmp 0))), none⟩,
            ⟨(some 29), (.op (.mv (.tmp 6))), none⟩,
            ⟨(some 30), (.op (.mv (.tmp 1))), none⟩,
            ⟨(some 31), (.op (.len .str (.tmp 30))), none⟩,
            ⟨(some 32), (.op (.bin .add none (.tmp 29) (.tmp 31))), none⟩,
            ⟨(some 33), (.op (.sliceStr (.tmp 28) (some (.tmp 32)) none)), none⟩,
            ⟨(some 0), (.op (.mv (.tmp 33))), none⟩] [])))))))))))⟩
theorem c133 : cFn Tryz.prog [] Tryz.f133 = some h133 := by kernel_rfl
/-- strings.Index -/
def h134 : HFn :=
  ⟨8, [(.tmp 4)],
    (.seq (.region [
      ⟨(some 4), (.op (.mv (.cst (.int .i64 0)))), none⟩] [])
    (.seq (.region [
      ⟨(some 5), (.op (.mv (.tmp 0))), none⟩,
      ⟨(some 6), (.op (.mv (.tmp 1))), none⟩,
      ⟨(some 7), (.call (.cst (.func (.func 117) [] [])) [(.tmp 5), (.tmp 6)]), none⟩,
      ⟨(some 4), (.op (.mv (.tmp 7))), none⟩] [])
    .ret))⟩
theorem c134 : cFn Tryz.prog [] Tryz.f134 = some h134 := by kernel_rfl
/-- (stint/judge.oneOf).may -/
def h161 : HFn :=
  ⟨9, [(.tmp 4)],
    (.seq (.region [
      ⟨(some 3), (.op (.box (.tmp 1))), none⟩,
      ⟨(some 4), (.op (.mv (.cst (.bool false)))), none⟩] [])
    (.seq (.region [
      ⟨(some 5), (.op (.mv (.tmp 0))), none⟩,
      ⟨(some 6), (.op (.faddr 0 (.tmp 3))), none⟩,
      ⟨(some 7), (.op (.load none (.tmp 6))), none⟩,
      ⟨(some 8), (.call (.cst (.func (.func 162) [] [])) [(.tmp 5), (.tmp 7)]), none⟩,
      ⟨(some 4), (.op (.mv (.tmp 8))), none⟩] [])
    .ret))⟩
theorem c161 : cFn Tryz.prog [] Tryz.f161 = some h161 := by kernel_rfl
/-- slices.Contains[stint/judge.oneOf,int] -/
def h162 : HFn :=
  ⟨9, [(.tmp 4)],
    (.seq (.region [
      ⟨(some 4), (.op (.mv (.cst (.bool false)))), none⟩] [])
    (.seq (.region [
      ⟨(some 5), (.op (.mv (.tmp 0))), none⟩,
      ⟨(some 6), (.op (.mv (.tmp 1))), none⟩,
      ⟨(some 7), (.call (.cst (.func (.func 163) [] [])) [(.tmp 5), (.tmp 6)]), none⟩,
      ⟨(some 8), (.op (.bin .geq none (.tmp 7) (.cst (.int .i64 0)))), none⟩,
      ⟨(some 4), (.op (.mv (.tmp 8))), none⟩] [])
    .ret))⟩
theorem c162 : cFn Tryz.prog [] Tryz.f162 = some h162 := by kernel_rfl
/-- slices.Index[stint/judge.oneOf,int] -/
def h163 : HFn :=
  ⟨19, [(.tmp 4)],
    (.seq (.region [
      ⟨(some 4), (.op (.mv (.cst (.int .i64 0)))), none⟩] [])
    (.seq (.seq (.region [
      ⟨(some 6), (.op (.mv (.tmp 0))), none⟩,
      ⟨(some 7), (.op (.len .slice (.tmp 6))), none⟩,
      ⟨(some 8), (.op (.mv (.cst (.int .i64 0)))), none⟩] [])
    (.block 0
      (.loop
        (.seq (.region [
          ⟨(some 9), (.op (.bin .lss none (.tmp 8) (.tmp 7))), none⟩] [])
        (.seq (.cond (.tmp 9)
          .skip
          (.exit 0))
        (.seq (.block 1
          (.seq (.region [
            ⟨(some 10), (.op (.mv (.tmp 8))), none⟩,
            ⟨(some 5), (.op (.mv (.tmp 10))), none⟩] [])
          (.seq (.region [
            ⟨(some 11), (.op (.mv (.tmp 1))), none⟩,
            ⟨(some 12), (.op (.mv (.tmp 0))), none⟩,
            ⟨(some 13), (.op (.mv (.tmp 5))), none⟩,
            ⟨(some 14), (.op (.idxS 1 (.tmp 12) (.tmp 13))), none⟩,
            ⟨(some 15), (.op (.load none (.tmp 14))), none⟩,
            ⟨(some 16), (.op (.bin .eql (some .int) (.tmp 11) (.tmp 15))), none⟩] [])
          (.cond (.tmp 16)
            (.seq (.region [
              ⟨(some 17), (.op (.mv (.tmp 5))), none⟩,
              ⟨(some 4), (.op (.mv (.tmp 17))), none⟩] [])
            .ret)
            .skip))))
        (.region [
          ⟨(some 18), (.op (.bin .add none (.tmp 8) (.cst (.int .i64 1)))), none⟩,
          ⟨(some 8), (.op (.mv (.tmp 18))), none⟩] [])))))))
    (.seq (.region [
      ⟨(some 4), (.op (.mv (.cst (.int .i64 (-1))))), none⟩] [])
    .ret)))⟩
theorem c163 : cFn Tryz.prog [] Tryz.f163 = some h163 := by kernel_rfl
/-- (*stint/judge.ranking).Push -/
def h169 : HFn :=
  ⟨13, [],
    (.draw [
      ⟨(some 4), (.op (.mv (.tmp 0))), none⟩,
      ⟨(some 5), (.op (.mv (.tmp 0))), none⟩,
      ⟨(some 6), (.op (.nilc (.tmp 5))), none⟩,
      ⟨(some 7), (.op (.load none (.tmp 6))), none⟩,
      ⟨(some 8), (.op (.mv (.tmp 1))), none⟩,
      ⟨(some 9), (.op (.assert 157 (.agg [(.int .i64 0), (.int .i64 0), (.int .i64 0)]) false (.tmp 8))), none⟩,
      ⟨(some 10), (.op (.bslice 3 1 [(.int .i64 0), (.int .i64 0), (.int .i64 0)] [(0, 3, (.tmp 9))])), none⟩,
      ⟨(some 11), (.op (.append 3 24 (.tmp 7) (.tmp 10))), none⟩,
      ⟨(some 12), (.op (.nilc (.tmp 4))), none⟩,
      ⟨none, (.op (.store 1 (.tmp 12) (.tmp 11))), none⟩] [0, 1, 2, 3, 4, 5, 6, 7, 8, 9] [[], [], [], [], [], [], [], [3], [], [3]] [])⟩
theorem c169 : cFn Tryz.prog [] Tryz.f169 = some h169 := by kernel_rfl
def F : FuncId → Option HFn
  | 4 => some h4
  | 6 => some h6
  | 8 => some h8
  | 10 => some h10
  | 11 => some h11
  | 12 => some h12
  | 13 => some h13
  | 14 => some h14
  | 15 => some h15
  | 16 => some h16
  | 17 => some h17
  | 18 => some h18
  | 19 => some h19
  | 20 => some h20
  | 21 => some h21
  | 23 => some h23
  | 24 => some h24
  | 29 => some h29
  | 30 => some h30
  | 31 => some h31
  | 32 => some h32
  | 36 => some h36
  | 37 => some h37
  | 38 => some h38
  | 41 => some h41
  | 42 => some h42
  | 47 => some h47
  | 48 => some h48
  | 57 => some h57
  | 58 => some h58
  | 59 => some h59
  | 60 => some h60
  | 61 => some h61
  | 62 => some h62
  | 63 => some h63
  | 64 => some h64
  | 65 => some h65
  | 66 => some h66
  | 68 => some h68
  | 70 => some h70
  | 84 => some h84
  | 85 => some h85
  | 86 => some h86
  | 87 => some h87
  | 88 => some h88
  | 90 => some h90
  | 91 => some h91
  | 92 => some h92
  | 94 => some h94
  | 95 => some h95
  | 96 => some h96
  | 97 => some h97
  | 98 => some h98
  | 99 => some h99
  | 101 => some h101
  | 118 => some h118
  | 119 => some h119
  | 121 => some h121
  | 133 => some h133
  | 134 => some h134
  | 161 => some h161
  | 162 => some h162
  | 163 => some h163
  | 169 => some h169
  | _ => none
theorem F_ok : FOk Tryz.prog F := by
  intro f hf h
  unfold F at h
  split at h
  · simp at h; subst h; exact ⟨_, [], Tryz.func4, c4⟩
  · simp at h; subst h; exact ⟨_, [], Tryz.func6, c6⟩
  · simp at h; subst h; exact ⟨_, [], Tryz.func8, c8⟩
  · simp at h; subst h; exact ⟨_, [], Tryz.func10, c10⟩
  · simp at h; subst h; exact ⟨_, [], Tryz.func11, c11⟩
  · simp at h; subst h; exact ⟨_, [], Tryz.func12, c12⟩
  · simp at h; subst h; exact ⟨_, [], Tryz.func13, c13⟩
  · simp at h; subst h; exact ⟨_, [], Tryz.func14, c14⟩
  · simp at h; subst h; exact ⟨_, [], Tryz.func15, c15⟩
  · simp at h; subst h; exact ⟨_, [], Tryz.func16, c16⟩
  · simp at h; subst h; exact ⟨_, [], Tryz.func17, c17⟩
  · simp at h; subst h; exact ⟨_, [], Tryz.func18, c18⟩
  · simp at h; subst h; exact ⟨_, [], Tryz.func19, c19⟩
  · simp at h; subst h; exact ⟨_, [], Tryz.func20, c20⟩
  · simp at h; subst h; exact ⟨_, [], Tryz.func21, c21⟩
  · simp at h; subst h; exact ⟨_, [], Tryz.func23, c23⟩
  · simp at h; subst h; exact ⟨_, [], Tryz.func24, c24⟩
  · simp at h; subst h; exact ⟨_, [], Tryz.func29, c29⟩
  · simp at h; subst h; exact ⟨_, [], Tryz.func30, c30⟩
  · simp at h; subst h; exact ⟨_, [], Tryz.func31, c31⟩
  · simp at h; subst h; exact ⟨_, [], Tryz.func32, c32⟩
  · simp at h; subst h; exact ⟨_, [], Tryz.func36, c36⟩
  · simp at h; subst h; exact ⟨_, [], Tryz.func37, c37⟩
  · simp at h; subst h; exact ⟨_, [], Tryz.func38, c38⟩
  · simp at h; subst h; exact ⟨_, [], Tryz.func41, c41⟩
  · simp at h; subst h; exact ⟨_, [], Tryz.func42, c42⟩
  · simp at h; subst h; exact ⟨_, [], Tryz.func47, c47⟩
  · simp at h; subst h; exact ⟨_, [], Tryz.func48, c48⟩
  · simp at h; subst h; exact ⟨_, [], Tryz.func57, c57⟩
  · simp at h; subst h; exact ⟨_, [], Tryz.func58, c58⟩
  · simp at h; subst h; exact ⟨_, [], Tryz.func59, c59⟩
  · simp at h; subst h; exact ⟨_, [], Tryz.func60, c60⟩
  · simp at h; subst h; exact ⟨_, [], Tryz.func61, c61⟩
  · simp at h; subst h; exact ⟨_, [], Tryz.func62, c62⟩
  · simp at h; subst h; exact ⟨_, [], Tryz.func63, c63⟩
  · simp at h; subst h; exact ⟨_, [], Tryz.func64, c64⟩
  · simp at h; subst h; exact ⟨_, [], Tryz.func65, c65⟩
  · simp at h; subst h; exact ⟨_, [], Tryz.func66, c66⟩
  · simp at h; subst h; exact ⟨_, [], Tryz.func68, c68⟩
  · simp at h; subst h; exact ⟨_, [], Tryz.func70, c70⟩
  · simp at h; subst h; exact ⟨_, [], Tryz.func84, c84⟩
  · simp at h; subst h; exact ⟨_, [], Tryz.func85, c85⟩
  · simp at h; subst h; exact ⟨_, [], Tryz.func86, c86⟩
  · simp at h; subst h; exact ⟨_, [], Tryz.func87, c87⟩
  · simp at h; subst h; exact ⟨_, [], Tryz.func88, c88⟩
  · simp at h; subst h; exact ⟨_, [], Tryz.func90, c90⟩
  · simp at h; subst h; exact ⟨_, [], Tryz.func91, c91⟩
  · simp at h; subst h; exact ⟨_, [], Tryz.func92, c92⟩
  · simp at h; subst h; exact ⟨_, [], Tryz.func94, c94⟩
  · simp at h; subst h; exact ⟨_, [], Tryz.func95, c95⟩
  · simp at h; subst h; exact ⟨_, [], Tryz.func96, c96⟩
  · simp at h; subst h; exact ⟨_, [], Tryz.func97, c97⟩
  · simp at h; subst h; exact ⟨_, [], Tryz.func98, c98⟩
  · simp at h; subst h; exact ⟨_, [], Tryz.func99, c99⟩
  · simp at h; subst h; exact ⟨_, [], Tryz.func101, c101⟩
  · simp at h; subst h; exact ⟨_, [], Tryz.func118, c118⟩
  · simp at h; subst h; exact ⟨_, [], Tryz.func119, c119⟩
  · simp at h; subst h; exact ⟨_, [], Tryz.func121, c121⟩
  · simp at h; subst h; exact ⟨_, [], Tryz.func133, c133⟩
  · simp at h; subst h; exact ⟨_, [], Tryz.func134, c134⟩
  · simp at h; subst h; exact ⟨_, [], Tryz.func161, c161⟩
  · simp at h; subst h; exact ⟨_, [], Tryz.func162, c162⟩
  · simp at h; subst h; exact ⟨_, [], Tryz.func163, c163⟩
  · simp at h; subst h; exact ⟨_, [], Tryz.func169, c169⟩
  · simp at h
end Go.Proofs.YthokgpjlndmaaaaGreatDoor
