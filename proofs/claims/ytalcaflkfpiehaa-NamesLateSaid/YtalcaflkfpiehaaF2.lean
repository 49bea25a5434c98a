import Derived.Test.YtalcaflkfpiehaaHLRound
import Derived.Test.YtalcaflkfpiehaaProg
import Derived.KernelRfl
/- The functions, turned (written by program, each checked by the kernel). -/
namespace Go.Proofs.Ytalcaflkfpiehaa.P2
open Go Go.HL
/-- stint/stintlaw05.NamesLate -/
noncomputable def h7 : HFn :=
  ⟨102, [(.cell 4 none)],
    (.seq (.region [
      ⟨(some 4), (.op (.box (.cst (.bool false)))), none⟩] [])
    (.seq (.seq (.region [
      ⟨(some 13), (.call (.cst (.func (.func 8) [] [])) []), none⟩,
      ⟨(some 14), (.op (.un .not (.tmp 13))), none⟩] [])
    (.cond (.tmp 14)
      (.seq (.region [
        ⟨none, (.op (.store 1 (.tmp 4) (.cst (.bool false)))), none⟩] [])
      .ret)
      .skip))
    (.seq (.region [
      ⟨(some 15), (.call (.cst (.func (.func 11) [] [])) []), none⟩,
      ⟨(some 16), (.call (.cst (.func (.func 17) [] [])) []), none⟩,
      ⟨(some 17), (.op (.build [.nilPtr, .nilPtr] [(0, 1, (.tmp 15)), (1, 1, (.tmp 16))])), none⟩,
      ⟨(some 5), (.op (.box (.cst (.agg [.nilPtr, .nilPtr])))), none⟩,
      ⟨none, (.op (.store 2 (.tmp 5) (.tmp 17))), none⟩] [])
    (.seq (.seq (.region [
      ⟨(some 18), (.op (.faddr 0 (.tmp 5))), none⟩,
      ⟨(some 19), (.op (.load none (.tmp 18))), none⟩,
      ⟨(some 20), (.op (.bin .eql (some .ptrN) (.tmp 19) (.cst .nilPtr))), none⟩] [])
    (.cond (.tmp 20)
      (.seq (.region [
        ⟨none, (.op (.store 1 (.tmp 4) (.cst (.bool false)))), none⟩] [])
      .ret)
      .skip))
    (.seq (.seq (.region [
      ⟨(some 6), (.op (.mv (.cst (.int .i64 0)))), none⟩] [])
    (.block 0
      (.loop
        (.seq (.seq (.region [
          ⟨(some 21), (.op (.mv (.tmp 6))), none⟩,
          ⟨(some 22), (.op (.mv (.tmp 0))), none⟩,
          ⟨(some 23), (.op (.len .slice (.tmp 22))), none⟩,
          ⟨(some 24), (.op (.bin .lss none (.tmp 21) (.tmp 23))), none⟩] [])
        (.cond (.tmp 24)
          .skip
          (.exit 0)))
        (.seq (.block 1
          (.seq (.draw [
            ⟨(some 27), (.op (.load (some 2) (.tmp 5))), none⟩,
            ⟨(some 28), (.op (.mv (.tmp 0))), none⟩,
            ⟨(some 29), (.op (.mv (.tmp 6))), none⟩,
            ⟨(some 30), (.op (.idxS 4 (.tmp 28) (.tmp 29))), none⟩,
            ⟨(some 31), (.op (.faddr 2 (.tmp 30))), none⟩,
            ⟨(some 32), (.op (.load none (.tmp 31))), none⟩,
            ⟨(some 33), (.op (.mv (.tmp 0))), none⟩,
            ⟨(some 34), (.op (.mv (.tmp 6))), none⟩,
            ⟨(some 35), (.op (.idxS 4 (.tmp 33) (.tmp 34))), none⟩,
            ⟨(some 36), (.op (.faddr 1 (.tmp 35))), none⟩,
            ⟨(some 37), (.op (.load none (.tmp 36))), none⟩,
            ⟨(some 38), (.op (.bin .and none (.tmp 37) (.cst (.int .i64 1)))), none⟩,
            ⟨(some 39), (.op (.bin .add none (.cst (.int .i64 1)) (.tmp 38))), none⟩,
            ⟨(some 40), (.call (.cst (.func (.func 24) [] [])) [(.tmp 27), (.tmp 32), (.tmp 39)]), none⟩,
            ⟨(some 41), (.op (.un .not (.tmp 40))), none⟩] [0, 1, 2, 3, 4, 5, 6, 7, 8, 9, 10, 11, 12, 13, 14] [[], [], [], [], [], [], [], [], [], [], [], [], [], [0, 5, 3, 10, 8], []] [])
          (.cond (.tmp 41)
            (.seq (.region [
              ⟨none, (.op (.store 1 (.tmp 4) (.cst (.bool false)))), none⟩] [])
            .ret)
            .skip)))
        (.region [
          ⟨(some 25), (.op (.mv (.tmp 6))), none⟩,
          ⟨(some 26), (.op (.bin .add none (.tmp 25) (.cst (.int .i64 1)))), none⟩,
          ⟨(some 6), (.op (.mv (.tmp 26))), none⟩] []))))))
    (.seq (.region [
      ⟨(some 42), (.op (.faddr 0 (.tmp 5))), none⟩,
      ⟨(some 43), (.op (.load none (.tmp 42))), none⟩,
      ⟨(some 44), (.call (.cst (.func (.func 25) [] [])) [(.tmp 43)]), none⟩,
      ⟨(some 7), (.op (.mv (.tmp 44))), none⟩] [])
    (.seq (.seq (.region [
      ⟨(some 45), (.op (.mv (.tmp 7))), none⟩,
      ⟨(some 46), (.op (.bin .eql (some .func) (.tmp 45) (.cst .nilFunc))), none⟩] [])
    (.cond (.tmp 46)
      (.seq (.region [
        ⟨none, (.op (.store 1 (.tmp 4) (.cst (.bool false)))), none⟩] [])
      .ret)
      .skip))
    (.seq (.seq (.region [
      ⟨(some 8), (.op (.mv (.cst (.int .i64 0)))), none⟩] [])
    (.block 2
      (.loop
        (.seq (.seq (.region [
          ⟨(some 47), (.op (.mv (.tmp 8))), none⟩,
          ⟨(some 48), (.op (.mv (.tmp 1))), none⟩,
          ⟨(some 49), (.op (.len .slice (.tmp 48))), none⟩,
          ⟨(some 50), (.op (.bin .lss none (.tmp 47) (.tmp 49))), none⟩] [])
        (.cond (.tmp 50)
          .skip
          (.exit 2)))
        (.seq (.block 3
          (.seq (.draw [
            ⟨(some 53), (.op (.load (some 2) (.tmp 5))), none⟩,
            ⟨(some 54), (.op (.mv (.tmp 1))), none⟩,
            ⟨(some 55), (.op (.mv (.tmp 8))), none⟩,
            ⟨(some 56), (.op (.idxS 4 (.tmp 54) (.tmp 55))), none⟩,
            ⟨(some 57), (.op (.faddr 2 (.tmp 56))), none⟩,
            ⟨(some 58), (.op (.load none (.tmp 57))), none⟩,
            ⟨(some 59), (.op (.mv (.tmp 1))), none⟩,
            ⟨(some 60), (.op (.mv (.tmp 8))), none⟩,
            ⟨(some 61), (.op (.idxS 4 (.tmp 59) (.tmp 60))), none⟩,
            ⟨(some 62), (.op (.faddr 1 (.tmp 61))), none⟩,
            ⟨(some 63), (.op (.load none (.tmp 62))), none⟩,
            ⟨(some 64), (.op (.bin .and none (.tmp 63) (.cst (.int .i64 1)))), none⟩,
            ⟨(some 65), (.op (.bin .add none (.cst (.int .i64 1)) (.tmp 64))), none⟩,
            ⟨(some 66), (.call (.cst (.func (.func 24) [] [])) [(.tmp 53), (.tmp 58), (.tmp 65)]), none⟩,
            ⟨(some 67), (.op (.un .not (.tmp 66))), none⟩] [0, 1, 2, 3, 4, 5, 6, 7, 8, 9, 10, 11, 12, 13, 14] [[], [], [], [], [], [], [], [], [], [], [], [], [], [0, 5, 3, 10, 8], []] [])
          (.cond (.tmp 67)
            (.seq (.region [
              ⟨none, (.op (.store 1 (.tmp 4) (.cst (.bool false)))), none⟩] [])
            .ret)
            .skip)))
        (.region [
          ⟨(some 51), (.op (.mv (.tmp 8))), none⟩,
          ⟨(some 52), (.op (.bin .add none (.tmp 51) (.cst (.int .i64 1)))), none⟩,
          ⟨(some 8), (.op (.mv (.tmp 52))), none⟩] []))))))
    (.seq (.region [
      ⟨(some 68), (.op (.faddr 1 (.tmp 5))), none⟩,
      ⟨(some 69), (.op (.load none (.tmp 68))), none⟩,
      ⟨(some 70), (.call (.cst (.func (.func 26) [] [])) [(.tmp 69)]), none⟩,
      ⟨(some 9), (.op (.box (.cst .nilSlice))), none⟩,
      ⟨none, (.op (.store 1 (.tmp 9) (.tmp 70))), none⟩] [])
    (.seq (.region [
      ⟨(some 10), (.op (.box (.cst (.int .i64 0)))), none⟩,
      ⟨none, (.op (.store 1 (.tmp 10) (.cst (.int .i64 0)))), none⟩] [])
    (.seq (.seq (.region [
      ⟨(some 71), (.op (.mv (.tmp 7))), none⟩] [])
    (.block 4
      (.rangeFunc (.tmp 71) [72, 73] (rfA Try.f7 0) (rfB Try.f7 0))))
    (.seq (.region [
      ⟨(some 98), (.op (.load none (.tmp 10))), none⟩,
      ⟨(some 99), (.op (.load none (.tmp 9))), none⟩,
      ⟨(some 100), (.op (.len .slice (.tmp 99))), none⟩,
      ⟨(some 101), (.op (.bin .eql (some .int) (.tmp 98) (.tmp 100))), none⟩,
      ⟨none, (.op (.store 1 (.tmp 4) (.tmp 101))), none⟩] [])
    .ret))))))))))))⟩
theorem c7 : cFn Try.prog [] Try.f7 = some h7 := by kernel_rfl
/-- stint/stintref05.New -/
def h17 : HFn :=
  ⟨3, [(.tmp 0)],
    (.seq (.region [
      ⟨(some 0), (.op (.mv (.cst .nilPtr))), none⟩] [])
    (.seq (.region [
      ⟨(some 1), (.op (.build [.nilSlice] [])), none⟩,
      ⟨(some 2), (.op (.box (.tmp 1))), none⟩,
      ⟨(some 0), (.op (.mv (.tmp 2))), none⟩] [])
    .ret))⟩
theorem c17 : cFn Try.prog [] Try.f17 = some h17 := by kernel_rfl
/-- (*stint/stintref05.Book).Clone -/
def h19 : HFn :=
  ⟨11, [(.tmp 2)],
    (.seq (.region [
      ⟨(some 2), (.op (.mv (.cst .nilPtr))), none⟩] [])
    (.seq (.region [
      ⟨(some 3), (.op (.bslice 2 0 [] [])), none⟩,
      ⟨(some 4), (.op (.mv (.tmp 0))), none⟩,
      ⟨(some 5), (.op (.nilc (.tmp 4))), none⟩,
      ⟨(some 6), (.op (.faddr 0 (.tmp 5))), none⟩,
      ⟨(some 7), (.op (.load none (.tmp 6))), none⟩,
      ⟨(some 8), (.op (.append 2 24 (.tmp 3) (.tmp 7))), none⟩,
      ⟨(some 9), (.op (.build [.nilSlice] [(0, 1, (.tmp 8))])), none⟩,
      ⟨(some 10), (.op (.box (.tmp 9))), none⟩,
      ⟨(some 2), (.op (.mv (.tmp 10))), none⟩] [])
    .ret))⟩
theorem c19 : cFn Try.prog [] Try.f19 = some h19 := by kernel_rfl
/-- stint/stintlaw05.turn -/
def h24 : HFn :=
  ⟨64, [(.tmp 6)],
    (.seq (.region [
      ⟨(some 3), (.op (.box (.tmp 0))), none⟩,
      ⟨(some 6), (.op (.mv (.cst (.bool false)))), none⟩] [])
    (.seq (.seq (.region [
      ⟨(some 15), (.op (.mv (.tmp 2))), none⟩] [])
    (.block 0
      (.seq (.region [
        ⟨(some 17), (.op (.bin .eql (some .int) (.tmp 15) (.cst (.int .i64 1)))), none⟩,
        ⟨(some 16), (.op (.mv (.tmp 17))), none⟩] [])
      (.cond (.tmp 16)
        (.seq (.region [
          ⟨(some 19), (.op (.faddr 0 (.tmp 3))), none⟩,
          ⟨(some 20), (.op (.load none (.tmp 19))), none⟩,
          ⟨(some 21), (.op (.mv (.tmp 1))), none⟩,
          ⟨(some 22), (.call (.cst (.func (.func 13) [] [])) [(.tmp 20), (.tmp 21)]), none⟩,
          ⟨(some 18), (.op (.mv (.tmp 22))), none⟩,
          ⟨(some 23), (.op (.ext 0 (.tmp 18))), none⟩,
          ⟨(some 24), (.op (.ext 1 (.tmp 18))), none⟩,
          ⟨(some 7), (.op (.mv (.tmp 23))), none⟩,
          ⟨(some 8), (.op (.mv (.tmp 24))), none⟩] [])
        (.seq (.region [
          ⟨(some 26), (.op (.faddr 1 (.tmp 3))), none⟩,
          ⟨(some 27), (.op (.load none (.tmp 26))), none⟩,
          ⟨(some 28), (.op (.mv (.tmp 1))), none⟩,
          ⟨(some 29), (.call (.cst (.func (.func 37) [] [])) [(.tmp 27), (.tmp 28)]), none⟩,
          ⟨(some 25), (.op (.mv (.tmp 29))), none⟩,
          ⟨(some 30), (.op (.ext 0 (.tmp 25))), none⟩,
          ⟨(some 31), (.op (.ext 1 (.tmp 25))), none⟩,
          ⟨(some 9), (.op (.mv (.tmp 30))), none⟩,
          ⟨(some 10), (.op (.mv (.tmp 31))), none⟩] [])
        (.seq (.region [
          ⟨(some 32), (.op (.mv (.tmp 7))), none⟩,
          ⟨(some 33), (.op (.mv (.tmp 9))), none⟩,
          ⟨(some 34), (.op (.bin .eql (some .int) (.tmp 32) (.tmp 33))), none⟩,
          ⟨(some 35), (.op (.mv (.tmp 34))), none⟩,
          ⟨(some 36), (.op (.mv (.tmp 8))), (some (35, true))⟩,
          ⟨(some 37), (.op (.mv (.tmp 10))), (some (35, true))⟩,
          ⟨(some 38), (.op (.bin .eql (some .int) (.tmp 36) (.tmp 37))), (some (35, true))⟩,
          ⟨(some 39), (.op (.pick (.tmp 35) (.tmp 38) (.cst (.bool false)))), none⟩,
          ⟨(some 6), (.op (.mv (.tmp 39))), none⟩] [])
        .ret)))
        (.seq (.region [
          ⟨(some 41), (.op (.bin .eql (some .int) (.tmp 15) (.cst (.int .i64 2)))), none⟩,
          ⟨(some 40), (.op (.mv (.tmp 41))), none⟩] [])
        (.cond (.tmp 40)
          (.seq (.region [
            ⟨(some 43), (.op (.faddr 0 (.tmp 3))), none⟩,
            ⟨(some 44), (.op (.load none (.tmp 43))), none⟩,
            ⟨(some 45), (.op (.mv (.tmp 1))), none⟩,
            ⟨(some 46), (.call (.cst (.func (.func 14) [] [])) [(.tmp 44), (.tmp 45)]), none⟩,
            ⟨(some 42), (.op (.mv (.tmp 46))), none⟩,
            ⟨(some 47), (.op (.ext 0 (.tmp 42))), none⟩,
            ⟨(some 48), (.op (.ext 1 (.tmp 42))), none⟩,
            ⟨(some 11), (.op (.mv (.tmp 47))), none⟩,
            ⟨(some 12), (.op (.mv (.tmp 48))), none⟩] [])
          (.seq (.region [
            ⟨(some 50), (.op (.faddr 1 (.tmp 3))), none⟩,
            ⟨(some 51), (.op (.load none (.tmp 50))), none⟩,
            ⟨(some 52), (.op (.mv (.tmp 1))), none⟩,
            ⟨(some 53), (.call (.cst (.func (.func 38) [] [])) [(.tmp 51), (.tmp 52)]), none⟩,
            ⟨(some 49), (.op (.mv (.tmp 53))), none⟩,
            ⟨(some 54), (.op (.ext 0 (.tmp 49))), none⟩,
            ⟨(some 55), (.op (.ext 1 (.tmp 49))), none⟩,
            ⟨(some 13), (.op (.mv (.tmp 54))), none⟩,
            ⟨(some 14), (.op (.mv (.tmp 55))), none⟩] [])
          (.seq (.region [
            ⟨(some 56), (.op (.mv (.tmp 11))), none⟩,
            ⟨(some 57), (.op (.mv (.tmp 13))), none⟩,
            ⟨(some 58), (.op (.bin .eql (some .int) (.tmp 56) (.tmp 57))), none⟩,
            ⟨(some 59), (.op (.mv (.tmp 58))), none⟩,
            ⟨(some 60), (.op (.mv (.tmp 12))), (some (59, true))⟩,
            ⟨(some 61), (.op (.mv (.tmp 14))), (some (59, true))⟩,
            ⟨(some 62), (.op (.bin .eql (some .bool) (.tmp 60) (.tmp 61))), (some (59, true))⟩,
            ⟨(some 63), (.op (.pick (.tmp 59) (.tmp 62) (.cst (.bool false)))), none⟩,
            ⟨(some 6), (.op (.mv (.tmp 63))), none⟩] [])
          .ret)))
          .skip))))))
    (.seq (.region [
      ⟨(some 6), (.op (.mv (.cst (.bool true)))), none⟩] [])
    .ret)))⟩
theorem c24 : cFn Try.prog [] Try.f24 = some h24 := by kernel_rfl
/-- (*stint/names.Book).All -/
def h25 : HFn :=
  ⟨4, [(.tmp 2)],
    (.seq (.region [
      ⟨(some 1), (.op (.box (.tmp 0))), none⟩,
      ⟨(some 2), (.op (.mv (.cst .nilFunc))), none⟩] [])
    (.seq (.region [
      ⟨(some 3), (.op (.mkfn (.func 39) [] [(.tmp 1)])), none⟩,
      ⟨(some 2), (.op (.mv (.tmp 3))), none⟩] [])
    .ret))⟩
theorem c25 : cFn Try.prog [] Try.f25 = some h25 := by kernel_rfl
/-- (*stint/stintref05.Book).All -/
def h26 : HFn :=
  ⟨9, [(.tmp 2)],
    (.seq (.region [
      ⟨(some 2), (.op (.mv (.cst .nilSlice))), none⟩] [])
    (.seq (.region [
      ⟨(some 3), (.op (.bslice 2 0 [] [])), none⟩,
      ⟨(some 4), (.op (.mv (.tmp 0))), none⟩,
      ⟨(some 5), (.op (.nilc (.tmp 4))), none⟩,
      ⟨(some 6), (.op (.faddr 0 (.tmp 5))), none⟩,
      ⟨(some 7), (.op (.load none (.tmp 6))), none⟩,
      ⟨(some 8), (.op (.append 2 24 (.tmp 3) (.tmp 7))), none⟩,
      ⟨(some 2), (.op (.mv (.tmp 8))), none⟩] [])
    .ret))⟩
theorem c26 : cFn Try.prog [] Try.f26 = some h26 := by kernel_rfl
/-- (*stint/stintref05.Book).Count -/
def h30 : HFn :=
  ⟨23, [(.tmp 4)],
    (.seq (.region [
      ⟨(some 4), (.op (.mv (.cst (.int .i64 0)))), none⟩] [])
    (.seq (.region [
      ⟨(some 8), (.op (.mv (.tmp 0))), none⟩,
      ⟨(some 9), (.op (.mv (.tmp 1))), none⟩,
      ⟨(some 10), (.call (.cst (.func (.func 44) [] [])) [(.tmp 8), (.tmp 9)]), none⟩,
      ⟨(some 7), (.op (.mv (.tmp 10))), none⟩,
      ⟨(some 11), (.op (.ext 0 (.tmp 7))), none⟩,
      ⟨(some 12), (.op (.ext 1 (.tmp 7))), none⟩,
      ⟨(some 5), (.op (.mv (.tmp 11))), none⟩,
      ⟨(some 6), (.op (.mv (.tmp 12))), none⟩] [])
    (.seq (.seq (.region [
      ⟨(some 13), (.op (.mv (.tmp 6))), none⟩,
      ⟨(some 14), (.op (.un .not (.tmp 13))), none⟩] [])
    (.cond (.tmp 14)
      (.seq (.region [
        ⟨(some 4), (.op (.mv (.cst (.int .i64 0)))), none⟩] [])
      .ret)
      .skip))
    (.seq (.region [
      ⟨(some 15), (.op (.mv (.tmp 0))), none⟩,
      ⟨(some 16), (.op (.nilc (.tmp 15))), none⟩,
      ⟨(some 17), (.op (.faddr 0 (.tmp 16))), none⟩,
      ⟨(some 18), (.op (.load none (.tmp 17))), none⟩,
      ⟨(some 19), (.op (.mv (.tmp 5))), none⟩,
      ⟨(some 20), (.op (.idxS 2 (.tmp 18) (.tmp 19))), none⟩,
      ⟨(some 21), (.op (.faddr 1 (.tmp 20))), none⟩,
      ⟨(some 22), (.op (.load none (.tmp 21))), none⟩,
      ⟨(some 4), (.op (.mv (.tmp 22))), none⟩] [])
    .ret))))⟩
theorem c30 : cFn Try.prog [] Try.f30 = some h30 := by kernel_rfl
/-- (*stint/stintref05.Book).Len -/
def h31 : HFn :=
  ⟨8, [(.tmp 2)],
    (.seq (.region [
      ⟨(some 2), (.op (.mv (.cst (.int .i64 0)))), none⟩] [])
    (.seq (.region [
      ⟨(some 3), (.op (.mv (.tmp 0))), none⟩,
      ⟨(some 4), (.op (.nilc (.tmp 3))), none⟩,
      ⟨(some 5), (.op (.faddr 0 (.tmp 4))), none⟩,
      ⟨(some 6), (.op (.load none (.tmp 5))), none⟩,
      ⟨(some 7), (.op (.len .slice (.tmp 6))), none⟩,
      ⟨(some 2), (.op (.mv (.tmp 7))), none⟩] [])
    .ret))⟩
theorem c31 : cFn Try.prog [] Try.f31 = some h31 := by kernel_rfl
/-- (*stint/stintref05.Book).Names -/
def h33 : HFn :=
  ⟨27, [(.tmp 2)],
    (.seq (.region [
      ⟨(some 2), (.op (.mv (.cst .nilSlice))), none⟩] [])
    (.seq (.region [
      ⟨(some 5), (.op (.bslice 1 0 [] [])), none⟩,
      ⟨(some 3), (.op (.mv (.tmp 5))), none⟩] [])
    (.seq (.seq (.region [
      ⟨(some 4), (.op (.mv (.cst (.int .i64 0)))), none⟩] [])
    (.block 0
      (.loop
        (.seq (.seq (.region [
          ⟨(some 6), (.op (.mv (.tmp 4))), none⟩,
          ⟨(some 7), (.op (.mv (.tmp 0))), none⟩,
          ⟨(some 8), (.op (.nilc (.tmp 7))), none⟩,
          ⟨(some 9), (.op (.faddr 0 (.tmp 8))), none⟩,
          ⟨(some 10), (.op (.load none (.tmp 9))), none⟩,
          ⟨(some 11), (.op (.len .slice (.tmp 10))), none⟩,
          ⟨(some 12), (.op (.bin .lss none (.tmp 6) (.tmp 11))), none⟩] [])
        (.cond (.tmp 12)
          .skip
          (.exit 0)))
        (.seq (.block 1
          (.region [
            ⟨(some 15), (.op (.mv (.tmp 3))), none⟩,
            ⟨(some 16), (.op (.mv (.tmp 0))), none⟩,
            ⟨(some 17), (.op (.nilc (.tmp 16))), none⟩,
            ⟨(some 18), (.op (.faddr 0 (.tmp 17))), none⟩,
            ⟨(some 19), (.op (.load none (.tmp 18))), none⟩,
            ⟨(some 20), (.op (.mv (.tmp 4))), none⟩,
            ⟨(some 21), (.op (.idxS 2 (.tmp 19) (.tmp 20))), none⟩,
            ⟨(some 22), (.op (.faddr 0 (.tmp 21))), none⟩,
            ⟨(some 23), (.op (.load none (.tmp 22))), none⟩,
            ⟨(some 24), (.op (.bslice 1 1 [(.str [])] [(0, 1, (.tmp 23))])), none⟩,
            ⟨(some 25), (.op (.append 1 16 (.tmp 15) (.tmp 24))), none⟩,
            ⟨(some 3), (.op (.mv (.tmp 25))), none⟩] []))
        (.region [
          ⟨(some 13), (.op (.mv (.tmp 4))), none⟩,
          ⟨(some 14), (.op (.bin .add none (.tmp 13) (.cst (.int .i64 1)))), none⟩,
          ⟨(some 4), (.op (.mv (.tmp 14))), none⟩] []))))))
    (.seq (.region [
      ⟨(some 26), (.op (.mv (.tmp 3))), none⟩,
      ⟨(some 2), (.op (.mv (.tmp 26))), none⟩] [])
    .ret))))⟩
theorem c33 : cFn Try.prog [] Try.f33 = some h33 := by kernel_rfl
/-- (*stint/stintref05.Book).Hold -/
def h37 : HFn :=
  ⟨62, [(.tmp 4), (.tmp 5)],
    (.seq (.region [
      ⟨(some 4), (.op (.mv (.cst (.int .i64 0)))), none⟩,
      ⟨(some 5), (.op (.mv (.cst (.int .i64 0)))), none⟩] [])
    (.seq (.seq (.region [
      ⟨(some 9), (.op (.mv (.tmp 1))), none⟩,
      ⟨(some 10), (.call (.cst (.func (.func 10) [] [])) [(.tmp 9)]), none⟩,
      ⟨(some 11), (.op (.un .not (.tmp 10))), none⟩] [])
    (.cond (.tmp 11)
      (.seq (.region [
        ⟨(some 4), (.op (.mv (.cst (.int .i64 0)))), none⟩,
        ⟨(some 5), (.op (.mv (.cst (.int .i64 50)))), none⟩] [])
      .ret)
      .skip))
    (.seq (.region [
      ⟨(some 13), (.op (.mv (.tmp 0))), none⟩,
      ⟨(some 14), (.op (.mv (.tmp 1))), none⟩,
      ⟨(some 15), (.call (.cst (.func (.func 44) [] [])) [(.tmp 13), (.tmp 14)]), none⟩,
      ⟨(some 12), (.op (.mv (.tmp 15))), none⟩,
      ⟨(some 16), (.op (.ext 0 (.tmp 12))), none⟩,
      ⟨(some 17), (.op (.ext 1 (.tmp 12))), none⟩,
      ⟨(some 6), (.op (.mv (.tmp 16))), none⟩,
      ⟨(some 7), (.op (.mv (.tmp 17))), none⟩] [])
    (.seq (.seq (.region [
      ⟨(some 18), (.op (.mv (.tmp 7))), none⟩] [])
    (.cond (.tmp 18)
      (.seq (.region [
        ⟨(some 19), (.op (.mv (.tmp 0))), none⟩,
        ⟨(some 20), (.op (.nilc (.tmp 19))), none⟩,
        ⟨(some 21), (.op (.faddr 0 (.tmp 20))), none⟩,
        ⟨(some 22), (.op (.load none (.tmp 21))), none⟩,
        ⟨(some 23), (.op (.mv (.tmp 6))), none⟩,
        ⟨(some 24), (.op (.idxS 2 (.tmp 22) (.tmp 23))), none⟩,
        ⟨(some 25), (.op (.faddr 1 (.tmp 24))), none⟩,
        ⟨(some 26), (.op (.load none (.tmp 25))), none⟩,
        ⟨(some 27), (.op (.bin .add none (.tmp 26) (.cst (.int .i64 1)))), none⟩,
        ⟨(some 28), (.op (.idxS 2 (.tmp 22) (.tmp 23))), none⟩,
        ⟨(some 29), (.op (.faddr 1 (.tmp 28))), none⟩,
        ⟨none, (.op (.store 1 (.tmp 29) (.tmp 27))), none⟩] [])
      (.seq (.region [
        ⟨(some 30), (.op (.mv (.tmp 0))), none⟩,
        ⟨(some 31), (.op (.nilc (.tmp 30))), none⟩,
        ⟨(some 32), (.op (.faddr 0 (.tmp 31))), none⟩,
        ⟨(some 33), (.op (.load none (.tmp 32))), none⟩,
        ⟨(some 34), (.op (.mv (.tmp 6))), none⟩,
        ⟨(some 35), (.op (.idxS 2 (.tmp 33) (.tmp 34))), none⟩,
        ⟨(some 36), (.op (.faddr 1 (.tmp 35))), none⟩,
        ⟨(some 37), (.op (.load none (.tmp 36))), none⟩,
        ⟨(some 4), (.op (.mv (.tmp 37))), none⟩,
        ⟨(some 5), (.op (.mv (.cst (.int .i64 0)))), none⟩] [])
      .ret))
      .skip))
    (.seq (.region [
      ⟨(some 38), (.op (.bslice 2 0 [] [])), none⟩,
      ⟨(some 39), (.op (.mv (.tmp 0))), none⟩,
      ⟨(some 40), (.op (.nilc (.tmp 39))), none⟩,
      ⟨(some 41), (.op (.faddr 0 (.tmp 40))), none⟩,
      ⟨(some 42), (.op (.load none (.tmp 41))), none⟩,
      ⟨(some 43), (.op (.mv (.tmp 6))), none⟩,
      ⟨(some 44), (.op (.sliceSl 2 (.tmp 42) none (some (.tmp 43)) none)), none⟩,
      ⟨(some 45), (.op (.append 2 24 (.tmp 38) (.tmp 44))), none⟩,
      ⟨(some 8), (.op (.mv (.tmp 45))), none⟩] [])
    (.seq (.region [
      ⟨(some 46), (.op (.mv (.tmp 8))), none⟩,
      ⟨(some 47), (.op (.mv (.tmp 1))), none⟩,
      ⟨(some 48), (.op (.build [(.str []), (.int .i64 0)] [(0, 1, (.tmp 47)), (1, 1, (.cst (.int .i64 1)))])), none⟩,
      ⟨(some 49), (.op (.bslice 2 1 [(.str []), (.int .i64 0)] [(0, 2, (.tmp 48))])), none⟩,
      ⟨(some 50), (.op (.append 2 24 (.tmp 46) (.tmp 49))), none⟩,
      ⟨(some 8), (.op (.mv (.tmp 50))), none⟩] [])
    (.seq (.region [
      ⟨(some 51), (.op (.mv (.tmp 0))), none⟩,
      ⟨(some 52), (.op (.mv (.tmp 8))), none⟩,
      ⟨(some 53), (.op (.mv (.tmp 0))), none⟩,
      ⟨(some 54), (.op (.nilc (.tmp 53))), none⟩,
      ⟨(some 55), (.op (.faddr 0 (.tmp 54))), none⟩,
      ⟨(some 56), (.op (.load none (.tmp 55))), none⟩,
      ⟨(some 57), (.op (.mv (.tmp 6))), none⟩,
      ⟨(some 58), (.op (.sliceSl 2 (.tmp 56) (some (.tmp 57)) none none)), none⟩,
      ⟨(some 59), (.op (.append 2 24 (.tmp 52) (.tmp 58))), none⟩,
      ⟨(some 60), (.op (.nilc (.tmp 51))), none⟩,
      ⟨(some 61), (.op (.faddr 0 (.tmp 60))), none⟩,
      ⟨none, (.op (.store 1 (.tmp 61) (.tmp 59))), none⟩] [])
    (.seq (.region [
      ⟨(some 4), (.op (.mv (.cst (.int .i64 1)))), none⟩,
      ⟨(some 5), (.op (.mv (.cst (.int .i64 0)))), none⟩] [])
    .ret))))))))⟩
theorem c37 : cFn Try.prog [] Try.f37 = some h37 := by kernel_rfl
/-- (*stint/stintref05.Book).Drop -/
def h38 : HFn :=
  ⟨58, [(.tmp 4), (.tmp 5)],
    (.seq (.region [
      ⟨(some 4), (.op (.mv (.cst (.int .i64 0)))), none⟩,
      ⟨(some 5), (.op (.mv (.cst (.bool false)))), none⟩] [])
    (.seq (.region [
      ⟨(some 11), (.op (.mv (.tmp 0))), none⟩,
      ⟨(some 12), (.op (.mv (.tmp 1))), none⟩,
      ⟨(some 13), (.call (.cst (.func (.func 44) [] [])) [(.tmp 11), (.tmp 12)]), none⟩,
      ⟨(some 10), (.op (.mv (.tmp 13))), none⟩,
      ⟨(some 14), (.op (.ext 0 (.tmp 10))), none⟩,
      ⟨(some 15), (.op (.ext 1 (.tmp 10))), none⟩,
      ⟨(some 6), (.op (.mv (.tmp 14))), none⟩,
      ⟨(some 7), (.op (.mv (.tmp 15))), none⟩] [])
    (.seq (.seq (.region [
      ⟨(some 16), (.op (.mv (.tmp 7))), none⟩,
      ⟨(some 17), (.op (.un .not (.tmp 16))), none⟩] [])
    (.cond (.tmp 17)
      (.seq (.region [
        ⟨(some 4), (.op (.mv (.cst (.int .i64 0)))), none⟩,
        ⟨(some 5), (.op (.mv (.cst (.bool false)))), none⟩] [])
      .ret)
      .skip))
    (.seq (.region [
      ⟨(some 18), (.op (.mv (.tmp 0))), none⟩,
      ⟨(some 19), (.op (.nilc (.tmp 18))), none⟩,
      ⟨(some 20), (.op (.faddr 0 (.tmp 19))), none⟩,
      ⟨(some 21), (.op (.load none (.tmp 20))), none⟩,
      ⟨(some 22), (.op (.mv (.tmp 6))), none⟩,
      ⟨(some 23), (.op (.idxS 2 (.tmp 21) (.tmp 22))), none⟩,
      ⟨(some 24), (.op (.faddr 1 (.tmp 23))), none⟩,
      ⟨(some 25), (.op (.load none (.tmp 24))), none⟩,
      ⟨(some 26), (.op (.bin .sub none (.tmp 25) (.cst (.int .i64 1)))), none⟩,
      ⟨(some 8), (.op (.mv (.tmp 26))), none⟩] [])
    (.seq (.seq (.region [
      ⟨(some 27), (.op (.mv (.tmp 8))), none⟩,
      ⟨(some 28), (.op (.bin .gtr none (.tmp 27) (.cst (.int .i64 0)))), none⟩] [])
    (.cond (.tmp 28)
      (.seq (.region [
        ⟨(some 29), (.op (.mv (.tmp 0))), none⟩,
        ⟨(some 30), (.op (.nilc (.tmp 29))), none⟩,
        ⟨(some 31), (.op (.faddr 0 (.tmp 30))), none⟩,
        ⟨(some 32), (.op (.load none (.tmp 31))), none⟩,
        ⟨(some 33), (.op (.mv (.tmp 6))), none⟩,
        ⟨(some 34), (.op (.mv (.tmp 8))), none⟩,
        ⟨(some 35), (.op (.idxS 2 (.tmp 32) (.tmp 33))), none⟩,
        ⟨(some 36), (.op (.faddr 1 (.tmp 35))), none⟩,
        ⟨none, (.op (.store 1 (.tmp 36) (.tmp 34))), none⟩] [])
      (.seq (.region [
        ⟨(some 37), (.op (.mv (.tmp 8))), none⟩,
        ⟨(some 4), (.op (.mv (.tmp 37))), none⟩,
        ⟨(some 5), (.op (.mv (.cst (.bool true)))), none⟩] [])
      .ret))
      .skip))
    (.seq (.region [
      ⟨(some 38), (.op (.bslice 2 0 [] [])), none⟩,
      ⟨(some 39), (.op (.mv (.tmp 0))), none⟩,
      ⟨(some 40), (.op (.nilc (.tmp 39))), none⟩,
      ⟨(some 41), (.op (.faddr 0 (.tmp 40))), none⟩,
      ⟨(some 42), (.op (.load none (.tmp 41))), none⟩,
      ⟨(some 43), (.op (.mv (.tmp 6))), none⟩,
      ⟨(some 44), (.op (.sliceSl 2 (.tmp 42) none (some (.tmp 43)) none)), none⟩,
      ⟨(some 45), (.op (.append 2 24 (.tmp 38) (.tmp 44))), none⟩,
      ⟨(some 9), (.op (.mv (.tmp 45))), none⟩] [])
    (.seq (.region [
      ⟨(some 46), (.op (.mv (.tmp 0))), none⟩,
      ⟨(some 47), (.op (.mv (.tmp 9))), none⟩,
      ⟨(some 48), (.op (.mv (.tmp 0))), none⟩,
      ⟨(some 49), (.op (.nilc (.tmp 48))), none⟩,
      ⟨(some 50), (.op (.faddr 0 (.tmp 49))), none⟩,
      ⟨(some 51), (.op (.load none (.tmp 50))), none⟩,
      ⟨(some 52), (.op (.mv (.tmp 6))), none⟩,
      ⟨(some 53), (.op (.bin .add none (.tmp 52) (.cst (.int .i64 1)))), none⟩,
      ⟨(some 54), (.op (.sliceSl 2 (.tmp 51) (some (.tmp 53)) none none)), none⟩,
      ⟨(some 55), (.op (.append 2 24 (.tmp 47) (.tmp 54))), none⟩,
      ⟨(some 56), (.op (.nilc (.tmp 46))), none⟩,
      ⟨(some 57), (.op (.faddr 0 (.tmp 56))), none⟩,
      ⟨none, (.op (.store 1 (.tmp 57) (.tmp 55))), none⟩] [])
    (.seq (.region [
      ⟨(some 4), (.op (.mv (.cst (.int .i64 0)))), none⟩,
      ⟨(some 5), (.op (.mv (.cst (.bool true)))), none⟩] [])
    .ret))))))))⟩
theorem c38 : cFn Try.prog [] Try.f38 = some h38 := by kernel_rfl
/-- (*stint/names.Book).All$1 -/
def h39 : HFn :=
  ⟨26, [],
    (.seq (.region [
      ⟨(some 6), (.op (.load none (.tmp 1))), none⟩,
      ⟨(some 7), (.call (.cst (.func (.func 18) [] [])) [(.tmp 6)]), none⟩,
      ⟨(some 3), (.op (.mv (.tmp 7))), none⟩] [])
    (.seq (.region [
      ⟨(some 8), (.op (.mv (.tmp 3))), none⟩,
      ⟨(some 9), (.call (.cst (.func (.func 15) [] [])) [(.tmp 8)]), none⟩,
      ⟨(some 10), (.op (.len .slice (.tmp 9))), none⟩,
      ⟨(some 11), (.op (.mv (.cst (.int .i64 0)))), none⟩] [])
    (.block 0
      (.loop
        (.seq (.region [
          ⟨(some 12), (.op (.bin .lss none (.tmp 11) (.tmp 10))), none⟩] [])
        (.seq (.cond (.tmp 12)
          .skip
          (.exit 0))
        (.seq (.block 1
          (.seq (.region [
            ⟨(some 13), (.op (.idxS 1 (.tmp 9) (.tmp 11))), none⟩,
            ⟨(some 14), (.op (.load none (.tmp 13))), none⟩,
            ⟨(some 5), (.op (.mv (.tmp 14))), none⟩] [])
          (.seq (.region [
            ⟨(some 15), (.op (.mv (.tmp 0))), none⟩,
            ⟨(some 16), (.op (.mv (.tmp 5))), none⟩,
            ⟨(some 17), (.op (.mv (.tmp 3))), none⟩,
            ⟨(some 18), (.op (.nilc (.tmp 17))), none⟩,
            ⟨(some 19), (.op (.faddr 0 (.tmp 18))), none⟩,
            ⟨(some 20), (.op (.load none (.tmp 19))), none⟩,
            ⟨(some 21), (.op (.mv (.tmp 5))), none⟩,
            ⟨(some 22), (.op (.lookup .str (.int .i64 0) false (.tmp 20) (.tmp 21))), none⟩,
            ⟨(some 23), (.call (.tmp 15) [(.tmp 16), (.tmp 22)]), none⟩,
            ⟨(some 24), (.op (.un .not (.tmp 23))), none⟩] [])
          (.cond (.tmp 24)
            .ret
            .skip))))
        (.region [
          ⟨(some 25), (.op (.bin .add none (.tmp 11) (.cst (.int .i64 1)))), none⟩,
          ⟨(some 11), (.op (.mv (.tmp 25))), none⟩] []))))))))⟩
theorem c39 : cFn Try.prog [] Try.f39 = some h39 := by kernel_rfl
/-- (*stint/stintref05.Book).place -/
def h44 : HFn :=
  ⟨42, [(.tmp 4), (.tmp 5)],
    (.seq (.region [
      ⟨(some 4), (.op (.mv (.cst (.int .i64 0)))), none⟩,
      ⟨(some 5), (.op (.mv (.cst (.bool false)))), none⟩] [])
    (.seq (.seq (.region [
      ⟨(some 6), (.op (.mv (.cst (.int .i64 0)))), none⟩] [])
    (.block 0
      (.loop
        (.seq (.seq (.region [
          ⟨(some 7), (.op (.mv (.tmp 6))), none⟩,
          ⟨(some 8), (.op (.mv (.tmp 0))), none⟩,
          ⟨(some 9), (.op (.nilc (.tmp 8))), none⟩,
          ⟨(some 10), (.op (.faddr 0 (.tmp 9))), none⟩,
          ⟨(some 11), (.op (.load none (.tmp 10))), none⟩,
          ⟨(some 12), (.op (.len .slice (.tmp 11))), none⟩,
          ⟨(some 13), (.op (.bin .lss none (.tmp 7) (.tmp 12))), none⟩] [])
        (.cond (.tmp 13)
          .skip
          (.exit 0)))
        (.seq (.block 1
          (.seq (.region [
            ⟨(some 16), (.op (.mv (.tmp 0))), none⟩,
            ⟨(some 17), (.op (.nilc (.tmp 16))), none⟩,
            ⟨(some 18), (.op (.faddr 0 (.tmp 17))), none⟩,
            ⟨(some 19), (.op (.load none (.tmp 18))), none⟩,
            ⟨(some 20), (.op (.mv (.tmp 6))), none⟩,
            ⟨(some 21), (.op (.idxS 2 (.tmp 19) (.tmp 20))), none⟩,
            ⟨(some 22), (.op (.faddr 0 (.tmp 21))), none⟩,
            ⟨(some 23), (.op (.load none (.tmp 22))), none⟩,
            ⟨(some 24), (.op (.mv (.tmp 1))), none⟩,
            ⟨(some 25), (.op (.bin .geq none (.tmp 23) (.tmp 24))), none⟩] [])
          (.cond (.tmp 25)
            (.seq (.draw [
              ⟨(some 26), (.op (.mv (.tmp 6))), none⟩,
              ⟨(some 27), (.op (.mv (.tmp 0))), none⟩,
              ⟨(some 28), (.op (.nilc (.tmp 27))), none⟩,
              ⟨(some 29), (.op (.faddr 0 (.tmp 28))), none⟩,
              ⟨(some 30), (.op (.load none (.tmp 29))), none⟩,
              ⟨(some 31), (.op (.mv (.tmp 6))), none⟩,
              ⟨(some 32), (.op (.idxS 2 (.tmp 30) (.tmp 31))), none⟩,
              ⟨(some 33), (.op (.faddr 0 (.tmp 32))), none⟩,
              ⟨(some 34), (.op (.load none (.tmp 33))), none⟩,
              ⟨(some 35), (.op (.mv (.tmp 1))), none⟩,
              ⟨(some 36), (.op (.bin .eql (some .str) (.tmp 34) (.tmp 35))), none⟩,
              ⟨(some 4), (.op (.mv (.tmp 26))), none⟩,
              ⟨(some 5), (.op (.mv (.tmp 36))), none⟩] [0, 1, 2, 3, 4, 5, 6, 7, 8, 9, 10, 11, 12] [[], [], [], [], [], [], [], [], [], [], [], [], []] [])
            .ret)
            .skip)))
        (.region [
          ⟨(some 14), (.op (.mv (.tmp 6))), none⟩,
          ⟨(some 15), (.op (.bin .add none (.tmp 14) (.cst (.int .i64 1)))), none⟩,
          ⟨(some 6), (.op (.mv (.tmp 15))), none⟩] []))))))
    (.seq (.region [
      ⟨(some 37), (.op (.mv (.tmp 0))), none⟩,
      ⟨(some 38), (.op (.nilc (.tmp 37))), none⟩,
      ⟨(some 39), (.op (.faddr 0 (.tmp 38))), none⟩,
      ⟨(some 40), (.op (.load none (.tmp 39))), none⟩,
      ⟨(some 41), (.op (.len .slice (.tmp 40))), none⟩,
      ⟨(some 4), (.op (.mv (.tmp 41))), none⟩,
      ⟨(some 5), (.op (.mv (.cst (.bool false)))), none⟩] [])
    .ret)))⟩
theorem c44 : cFn Try.prog [] Try.f44 = some h44 := by kernel_rfl
noncomputable def F : FuncId → Option HFn
  | 7 => some h7
  | 17 => some h17
  | 19 => some h19
  | 24 => some h24
  | 25 => some h25
  | 26 => some h26
  | 30 => some h30
  | 31 => some h31
  | 33 => some h33
  | 37 => some h37
  | 38 => some h38
  | 39 => some h39
  | 44 => some h44
  | _ => none
theorem F_ok : FOk Try.prog F := by
  intro f hf h
  unfold F at h
  split at h
  · simp at h; subst h; exact ⟨_, [], Try.func7, c7⟩
  · simp at h; subst h; exact ⟨_, [], Try.func17, c17⟩
  · simp at h; subst h; exact ⟨_, [], Try.func19, c19⟩
  · simp at h; subst h; exact ⟨_, [], Try.func24, c24⟩
  · simp at h; subst h; exact ⟨_, [], Try.func25, c25⟩
  · simp at h; subst h; exact ⟨_, [], Try.func26, c26⟩
  · simp at h; subst h; exact ⟨_, [], Try.func30, c30⟩
  · simp at h; subst h; exact ⟨_, [], Try.func31, c31⟩
  · simp at h; subst h; exact ⟨_, [], Try.func33, c33⟩
  · simp at h; subst h; exact ⟨_, [], Try.func37, c37⟩
  · simp at h; subst h; exact ⟨_, [], Try.func38, c38⟩
  · simp at h; subst h; exact ⟨_, [], Try.func39, c39⟩
  · simp at h; subst h; exact ⟨_, [], Try.func44, c44⟩
  · simp at h
end Go.Proofs.Ytalcaflkfpiehaa.P2
