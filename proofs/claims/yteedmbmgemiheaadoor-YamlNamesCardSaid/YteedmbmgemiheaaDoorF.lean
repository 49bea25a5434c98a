import Derived.Test.YteedmbmgemiheaaDoorHLFun
import Derived.Test.YteedmbmgemiheaaDoorProg
import Derived.KernelRfl
/- The functions, turned (written by program, each checked by the kernel). -/
namespace Go.Proofs.YteedmbmgemiheaaDoor
open Go Go.HL
/-- stint/stintlaw09.YamlNames -/
def h7 : HFn :=
  ⟨14, [(.tmp 0)],
    (.seq (.region [
      ⟨(some 0), (.op (.mv (.cst (.bool false)))), none⟩] [])
    (.seq (.region [
      ⟨(some 1), (.call (.cst (.func (.func 9) [] [])) []), none⟩,
      ⟨(some 2), (.op (.mv (.tmp 1))), none⟩,
      ⟨(some 3), (.op (.pick (.tmp 2) (.cst (.bool true)) (.cst (.bool false)))), none⟩,
      ⟨(some 4), (.op (.mv (.tmp 3))), none⟩,
      ⟨(some 5), (.op (.pick (.tmp 4) (.cst (.bool true)) (.cst (.bool false)))), none⟩,
      ⟨(some 6), (.op (.mv (.tmp 5))), none⟩,
      ⟨(some 7), (.op (.pick (.tmp 6) (.cst (.bool true)) (.cst (.bool false)))), none⟩,
      ⟨(some 8), (.op (.mv (.tmp 7))), none⟩,
      ⟨(some 9), (.op (.pick (.tmp 8) (.cst (.bool true)) (.cst (.bool false)))), none⟩,
      ⟨(some 10), (.op (.mv (.tmp 9))), none⟩,
      ⟨(some 11), (.op (.pick (.tmp 10) (.cst (.bool true)) (.cst (.bool false)))), none⟩,
      ⟨(some 12), (.op (.mv (.tmp 11))), none⟩,
      ⟨(some 13), (.op (.pick (.tmp 12) (.cst (.bool true)) (.cst (.bool false)))), none⟩,
      ⟨(some 0), (.op (.mv (.tmp 13))), none⟩] [])
    .ret))⟩
theorem c7 : cFn Tryd.prog [] Tryd.f7 = some h7 := by kernel_rfl
/-- stint/stintlaw09.shown -/
def h9 : HFn :=
  ⟨79, [(.tmp 0)],
    (.seq (.region [
      ⟨(some 0), (.op (.mv (.cst (.bool false)))), none⟩] [])
    (.seq (.region [
      ⟨(some 10), (.op (.bslice 1 2 [(.str []), (.str [])] [(0, 1, (.cst (.str [100, 101, 102, 97, 117, 108, 116]))), (1, 1, (.cst (.str [97])))])), none⟩,
      ⟨(some 11), (.call (.cst (.func (.func 27) [] [])) [(.tmp 10)]), none⟩,
      ⟨(some 9), (.op (.mv (.tmp 11))), none⟩,
      ⟨(some 12), (.op (.ext 0 (.tmp 9))), none⟩,
      ⟨(some 13), (.op (.ext 1 (.tmp 9))), none⟩,
      ⟨(some 1), (.op (.mv (.tmp 12))), none⟩,
      ⟨(some 2), (.op (.mv (.tmp 13))), none⟩] [])
    (.seq (.region [
      ⟨(some 15), (.op (.build [(.str []), (.str [])] [(0, 1, (.cst (.str [110, 97, 109, 101]))), (1, 1, (.cst (.str [97, 58, 98])))])), none⟩,
      ⟨(some 16), (.op (.bslice 2 1 [(.str []), (.str [])] [(0, 2, (.tmp 15))])), none⟩,
      ⟨(some 17), (.call (.cst (.func (.func 29) [] [])) [(.tmp 16)]), none⟩,
      ⟨(some 14), (.op (.mv (.tmp 17))), none⟩,
      ⟨(some 18), (.op (.ext 0 (.tmp 14))), none⟩,
      ⟨(some 19), (.op (.ext 1 (.tmp 14))), none⟩,
      ⟨(some 3), (.op (.mv (.tmp 18))), none⟩,
      ⟨(some 4), (.op (.mv (.tmp 19))), none⟩] [])
    (.seq (.region [
      ⟨(some 21), (.op (.bslice 1 8 [(.int .u8 0), (.int .u8 0), (.int .u8 0), (.int .u8 0), (.int .u8 0), (.int .u8 0), (.int .u8 0), (.int .u8 0)] [(0, 1, (.cst (.int .u8 45))), (1, 1, (.cst (.int .u8 45))), (2, 1, (.cst (.int .u8 45))), (3, 1, (.cst (.int .u8 10))), (4, 1, (.cst (.int .u8 45))), (5, 1, (.cst (.int .u8 32))), (6, 1, (.cst (.int .u8 97))), (7, 1, (.cst (.int .u8 10)))])), none⟩,
      ⟨(some 22), (.op (.mark (.tmp 21))), none⟩,
      ⟨(some 23), (.call (.cst (.func (.func 15) [] [])) [(.tmp 22)]), none⟩,
      ⟨(some 20), (.op (.mv (.tmp 23))), none⟩,
      ⟨(some 24), (.op (.ext 0 (.tmp 20))), none⟩,
      ⟨(some 25), (.op (.ext 1 (.tmp 20))), none⟩,
      ⟨(some 5), (.op (.mv (.tmp 24))), none⟩,
      ⟨(some 6), (.op (.mv (.tmp 25))), none⟩] [])
    (.seq (.region [
      ⟨(some 27), (.op (.bslice 1 9 [(.int .u8 0), (.int .u8 0), (.int .u8 0), (.int .u8 0), (.int .u8 0), (.int .u8 0), (.int .u8 0), (.int .u8 0), (.int .u8 0)] [(0, 1, (.cst (.int .u8 45))), (1, 1, (.cst (.int .u8 45))), (2, 1, (.cst (.int .u8 45))), (3, 1, (.cst (.int .u8 10))), (4, 1, (.cst (.int .u8 107))), (5, 1, (.cst (.int .u8 58))), (6, 1, (.cst (.int .u8 32))), (7, 1, (.cst (.int .u8 118))), (8, 1, (.cst (.int .u8 10)))])), none⟩,
      ⟨(some 28), (.op (.mark (.tmp 27))), none⟩,
      ⟨(some 29), (.call (.cst (.func (.func 21) [] [])) [(.tmp 28)]), none⟩,
      ⟨(some 26), (.op (.mv (.tmp 29))), none⟩,
      ⟨(some 30), (.op (.ext 0 (.tmp 26))), none⟩,
      ⟨(some 31), (.op (.ext 1 (.tmp 26))), none⟩,
      ⟨(some 7), (.op (.mv (.tmp 30))), none⟩,
      ⟨(some 8), (.op (.mv (.tmp 31))), none⟩] [])
    (.seq (.region [
      ⟨(some 32), (.op (.mv (.tmp 1))), none⟩,
      ⟨(some 33), (.op (.b2s (.tmp 32))), none⟩,
      ⟨(some 34), (.op (.bin .eql (some .str) (.tmp 33) (.cst (.str [45, 45, 45, 10, 45, 32, 100, 101, 102, 97, 117, 108, 116, 10, 45, 32, 97, 10])))), none⟩,
      ⟨(some 35), (.op (.mv (.tmp 34))), none⟩,
      ⟨(some 36), (.op (.mv (.tmp 3))), (some (35, true))⟩,
      ⟨(some 37), (.op (.b2s (.tmp 36))), (some (35, true))⟩,
      ⟨(some 38), (.op (.bin .eql (some .str) (.tmp 37) (.cst (.str [45, 45, 45, 10, 110, 97, 109, 101, 58, 32, 97, 58, 98, 10])))), (some (35, true))⟩,
      ⟨(some 39), (.op (.pick (.tmp 35) (.tmp 38) (.cst (.bool false)))), none⟩,
      ⟨(some 40), (.op (.mv (.tmp 39))), none⟩,
      ⟨(some 41), (.op (.mv (.tmp 5))), (some (40, true))⟩,
      ⟨(some 42), (.op (.len .slice (.tmp 41))), (some (40, true))⟩,
      ⟨(some 43), (.op (.bin .eql (some .int) (.tmp 42) (.cst (.int .i64 1)))), (some (40, true))⟩,
      ⟨(some 44), (.op (.pick (.tmp 40) (.tmp 43) (.cst (.bool false)))), none⟩,
      ⟨(some 45), (.op (.mv (.tmp 44))), none⟩,
      ⟨(some 46), (.op (.mv (.tmp 5))), (some (45, true))⟩,
      ⟨(some 47), (.op (.idxS 1 (.tmp 46) (.cst (.int .i64 0)))), (some (45, true))⟩,
      ⟨(some 48), (.op (.load none (.tmp 47))), (some (45, true))⟩,
      ⟨(some 49), (.op (.bin .eql (some .str) (.tmp 48) (.cst (.str [97])))), (some (45, true))⟩,
      ⟨(some 50), (.op (.pick (.tmp 45) (.tmp 49) (.cst (.bool false)))), none⟩,
      ⟨(some 51), (.op (.mv (.tmp 50))), none⟩,
      ⟨(some 52), (.op (.mv (.tmp 7))), (some (51, true))⟩,
      ⟨(some 53), (.op (.len .slice (.tmp 52))), (some (51, true))⟩,
      ⟨(some 54), (.op (.bin .eql (some .int) (.tmp 53) (.cst (.int .i64 1)))), (some (51, true))⟩,
      ⟨(some 55), (.op (.pick (.tmp 51) (.tmp 54) (.cst (.bool false)))), none⟩,
      ⟨(some 56), (.op (.mv (.tmp 55))), none⟩,
      ⟨(some 57), (.op (.mv (.tmp 7))), (some (56, true))⟩,
      ⟨(some 58), (.op (.idxS 2 (.tmp 57) (.cst (.int .i64 0)))), (some (56, true))⟩,
      ⟨(some 59), (.op (.load (some 2) (.tmp 58))), (some (56, true))⟩,
      ⟨(some 60), (.op (.build [(.str []), (.str [])] [(0, 1, (.cst (.str [107]))), (1, 1, (.cst (.str [118])))])), (some (56, true))⟩,
      ⟨(some 61), (.op (.bin .eql (some (.struct [(0, none, .str), (1, none, .str)])) (.tmp 59) (.tmp 60))), (some (56, true))⟩,
      ⟨(some 62), (.op (.pick (.tmp 56) (.tmp 61) (.cst (.bool false)))), none⟩,
      ⟨(some 63), (.op (.mv (.tmp 62))), none⟩,
      ⟨(some 64), (.op (.mv (.tmp 2))), (some (63, true))⟩,
      ⟨(some 65), (.op (.bin .eql (some .int) (.tmp 64) (.cst (.int .i64 0)))), (some (63, true))⟩,
      ⟨(some 66), (.op (.pick (.tmp 63) (.tmp 65) (.cst (.bool false)))), none⟩,
      ⟨(some 67), (.op (.mv (.tmp 66))), none⟩,
      ⟨(some 68), (.op (.mv (.tmp 4))), (some (67, true))⟩,
      ⟨(some 69), (.op (.bin .eql (some .int) (.tmp 68) (.cst (.int .i64 0)))), (some (67, true))⟩,
      ⟨(some 70), (.op (.pick (.tmp 67) (.tmp 69) (.cst (.bool false)))), none⟩,
      ⟨(some 71), (.op (.mv (.tmp 70))), none⟩,
      ⟨(some 72), (.op (.mv (.tmp 6))), (some (71, true))⟩,
      ⟨(some 73), (.op (.bin .eql (some .int) (.tmp 72) (.cst (.int .i64 0)))), (some (71, true))⟩,
      ⟨(some 74), (.op (.pick (.tmp 71) (.tmp 73) (.cst (.bool false)))), none⟩,
      ⟨(some 75), (.op (.mv (.tmp 74))), none⟩,
      ⟨(some 76), (.op (.mv (.tmp 8))), (some (75, true))⟩,
      ⟨(some 77), (.op (.bin .eql (some .int) (.tmp 76) (.cst (.int .i64 0)))), (some (75, true))⟩,
      ⟨(some 78), (.op (.pick (.tmp 75) (.tmp 77) (.cst (.bool false)))), none⟩,
      ⟨(some 0), (.op (.mv (.tmp 78))), none⟩] [])
    .ret))))))⟩
theorem c9 : cFn Tryd.prog [] Tryd.f9 = some h9 := by kernel_rfl
/-- stint/yaml.ReadList -/
def h15 : HFn :=
  ⟨55, [(.tmp 2), (.tmp 3)],
    (.seq (.region [
      ⟨(some 2), (.op (.mv (.cst .nilSlice))), none⟩,
      ⟨(some 3), (.op (.mv (.cst (.int .i64 0)))), none⟩] [])
    (.scope
      (.seq (.region [
        ⟨(some 14), (.op (.mv (.tmp 0))), none⟩,
        ⟨(some 15), (.op (.b2s (.tmp 14))), none⟩,
        ⟨(some 16), (.call (.cst (.func (.func 34) [] [])) [(.tmp 15), (.cst (.str [45, 45, 45, 10]))]), none⟩,
        ⟨(some 13), (.op (.mv (.tmp 16))), none⟩,
        ⟨(some 17), (.op (.ext 0 (.tmp 13))), none⟩,
        ⟨(some 18), (.op (.ext 1 (.tmp 13))), none⟩,
        ⟨(some 4), (.op (.mv (.tmp 17))), none⟩,
        ⟨(some 5), (.op (.mv (.tmp 18))), none⟩] [])
      (.seq (.region [
        ⟨(some 6), (.op (.mv (.cst .nilSlice))), none⟩] [])
      (.seq .lab
      (.seq (.block 0
        (.loop
          (.seq (.seq (.region [
            ⟨(some 19), (.op (.mv (.tmp 5))), none⟩,
            ⟨(some 20), (.op (.mv (.tmp 19))), none⟩,
            ⟨(some 21), (.op (.mv (.tmp 4))), (some (20, true))⟩,
            ⟨(some 22), (.op (.bin .neq (some .str) (.tmp 21) (.cst (.str [])))), (some (20, true))⟩,
            ⟨(some 23), (.op (.pick (.tmp 20) (.tmp 22) (.cst (.bool false)))), none⟩] [])
          (.cond (.tmp 23)
            .skip
            (.exit 0)))
          (.block 1
            (.seq (.region [
              ⟨(some 25), (.op (.mv (.tmp 4))), none⟩,
              ⟨(some 26), (.call (.cst (.func (.func 35) [] [])) [(.tmp 25)]), none⟩,
              ⟨(some 24), (.op (.mv (.tmp 26))), none⟩,
              ⟨(some 27), (.op (.ext 0 (.tmp 24))), none⟩,
              ⟨(some 28), (.op (.ext 1 (.tmp 24))), none⟩,
              ⟨(some 29), (.op (.ext 2 (.tmp 24))), none⟩,
              ⟨(some 7), (.op (.mv (.tmp 27))), none⟩,
              ⟨(some 8), (.op (.mv (.tmp 28))), none⟩,
              ⟨(some 9), (.op (.mv (.tmp 29))), none⟩] [])
            (.seq (.seq (.region [
              ⟨(some 30), (.op (.mv (.tmp 9))), none⟩,
              ⟨(some 31), (.op (.un .not (.tmp 30))), none⟩,
              ⟨(some 32), (.op (.mv (.tmp 7))), none⟩,
              ⟨(some 33), (.call (.cst (.func (.func 36) [] [])) [(.tmp 32), (.cst (.str [45, 32]))]), none⟩,
              ⟨(some 34), (.op (.un .not (.tmp 33))), none⟩,
              ⟨(some 35), (.op (.bslice 1 2 [(.bool false), (.bool false)] [(0, 1, (.tmp 31)), (1, 1, (.tmp 34))])), none⟩,
              ⟨(some 36), (.op (.len .slice (.tmp 35))), none⟩,
              ⟨(some 37), (.op (.mv (.cst (.int .i64 0)))), none⟩] [])
            (.block 2
              (.loop
                (.seq (.region [
                  ⟨(some 38), (.op (.bin .lss none (.tmp 37) (.tmp 36))), none⟩] [])
                (.seq (.cond (.tmp 38)
                  .skip
                  (.exit 2))
                (.seq (.block 3
                  (.seq (.region [
                    ⟨(some 39), (.op (.idxS 1 (.tmp 35) (.tmp 37))), none⟩,
                    ⟨(some 40), (.op (.load none (.tmp 39))), none⟩,
                    ⟨(some 11), (.op (.mv (.tmp 40))), none⟩] [])
                  (.seq (.region [
                    ⟨(some 41), (.op (.mv (.tmp 11))), none⟩] [])
                  (.cond (.tmp 41)
                    (.seq (.region [
                      ⟨(some 5), (.op (.mv (.cst (.bool false)))), none⟩] [])
                    (.exit 0))
                    .skip))))
                (.region [
                  ⟨(some 42), (.op (.bin .add none (.tmp 37) (.cst (.int .i64 1)))), none⟩,
                  ⟨(some 37), (.op (.mv (.tmp 42))), none⟩] [])))))))
            (.seq (.region [
              ⟨(some 43), (.op (.mv (.tmp 7))), none⟩,
              ⟨(some 44), (.op (.sliceStr (.tmp 43) (some (.cst (.int .i64 2))) none)), none⟩,
              ⟨(some 12), (.op (.mv (.tmp 44))), none⟩] [])
            (.seq (.region [
              ⟨(some 45), (.op (.mv (.tmp 12))), none⟩,
              ⟨(some 46), (.call (.cst (.func (.func 37) [] [])) [(.tmp 45)]), none⟩,
              ⟨(some 5), (.op (.mv (.tmp 46))), none⟩] [])
            (.seq (.region [
              ⟨(some 47), (.op (.mv (.tmp 6))), none⟩,
              ⟨(some 48), (.op (.mv (.tmp 12))), none⟩,
              ⟨(some 49), (.op (.bslice 1 1 [(.str [])] [(0, 1, (.tmp 48))])), none⟩,
              ⟨(some 50), (.op (.append 1 16 (.tmp 47) (.tmp 49))), none⟩,
              ⟨(some 6), (.op (.mv (.tmp 50))), none⟩] [])
            (.region [
              ⟨(some 51), (.op (.mv (.tmp 8))), none⟩,
              ⟨(some 4), (.op (.mv (.tmp 51))), none⟩] []))))))))))
      (.seq (.seq (.region [
        ⟨(some 52), (.op (.mv (.tmp 5))), none⟩,
        ⟨(some 53), (.op (.un .not (.tmp 52))), none⟩] [])
      (.cond (.tmp 53)
        (.seq (.region [
          ⟨(some 2), (.op (.mv (.cst .nilSlice))), none⟩,
          ⟨(some 3), (.op (.mv (.cst (.int .i64 92)))), none⟩] [])
        .ret)
        .skip))
      (.seq (.region [
        ⟨(some 54), (.op (.mv (.tmp 6))), none⟩,
        ⟨(some 2), (.op (.mv (.tmp 54))), none⟩,
        ⟨(some 3), (.op (.mv (.cst (.int .i64 0)))), none⟩] [])
      .ret))))))))⟩
theorem c15 : cFn Tryd.prog [] Tryd.f15 = some h15 := by kernel_rfl
/-- stint/yaml.ReadDict -/
def h21 : HFn :=
  ⟨69, [(.tmp 2), (.tmp 3)],
    (.seq (.region [
      ⟨(some 2), (.op (.mv (.cst .nilSlice))), none⟩,
      ⟨(some 3), (.op (.mv (.cst (.int .i64 0)))), none⟩] [])
    (.seq (.region [
      ⟨(some 14), (.op (.mv (.tmp 0))), none⟩,
      ⟨(some 15), (.op (.b2s (.tmp 14))), none⟩,
      ⟨(some 16), (.call (.cst (.func (.func 34) [] [])) [(.tmp 15), (.cst (.str [45, 45, 45, 10]))]), none⟩,
      ⟨(some 13), (.op (.mv (.tmp 16))), none⟩,
      ⟨(some 17), (.op (.ext 0 (.tmp 13))), none⟩,
      ⟨(some 18), (.op (.ext 1 (.tmp 13))), none⟩,
      ⟨(some 4), (.op (.mv (.tmp 17))), none⟩,
      ⟨(some 5), (.op (.mv (.tmp 18))), none⟩] [])
    (.seq (.region [
      ⟨(some 6), (.op (.mv (.cst .nilSlice))), none⟩] [])
    (.seq (.block 0
      (.loop
        (.seq (.seq (.region [
          ⟨(some 19), (.op (.mv (.tmp 5))), none⟩,
          ⟨(some 20), (.op (.mv (.tmp 19))), none⟩,
          ⟨(some 21), (.op (.mv (.tmp 4))), (some (20, true))⟩,
          ⟨(some 22), (.op (.bin .neq (some .str) (.tmp 21) (.cst (.str [])))), (some (20, true))⟩,
          ⟨(some 23), (.op (.pick (.tmp 20) (.tmp 22) (.cst (.bool false)))), none⟩] [])
        (.cond (.tmp 23)
          .skip
          (.exit 0)))
        (.block 1
          (.seq (.region [
            ⟨(some 25), (.op (.mv (.tmp 4))), none⟩,
            ⟨(some 26), (.call (.cst (.func (.func 35) [] [])) [(.tmp 25)]), none⟩,
            ⟨(some 24), (.op (.mv (.tmp 26))), none⟩,
            ⟨(some 27), (.op (.ext 0 (.tmp 24))), none⟩,
            ⟨(some 28), (.op (.ext 1 (.tmp 24))), none⟩,
            ⟨(some 29), (.op (.ext 2 (.tmp 24))), none⟩,
            ⟨(some 7), (.op (.mv (.tmp 27))), none⟩,
            ⟨(some 8), (.op (.mv (.tmp 28))), none⟩,
            ⟨(some 9), (.op (.mv (.tmp 29))), none⟩] [])
          (.seq (.region [
            ⟨(some 31), (.op (.mv (.tmp 7))), none⟩,
            ⟨(some 32), (.call (.cst (.func (.func 40) [] [])) [(.tmp 31), (.cst (.str [58, 32]))]), none⟩,
            ⟨(some 30), (.op (.mv (.tmp 32))), none⟩,
            ⟨(some 33), (.op (.ext 0 (.tmp 30))), none⟩,
            ⟨(some 34), (.op (.ext 1 (.tmp 30))), none⟩,
            ⟨(some 35), (.op (.ext 2 (.tmp 30))), none⟩,
            ⟨(some 10), (.op (.mv (.tmp 33))), none⟩,
            ⟨(some 11), (.op (.mv (.tmp 34))), none⟩,
            ⟨(some 12), (.op (.mv (.tmp 35))), none⟩] [])
          (.seq (.region [
            ⟨(some 36), (.op (.mv (.tmp 9))), none⟩,
            ⟨(some 37), (.op (.mv (.tmp 36))), none⟩,
            ⟨(some 38), (.op (.mv (.tmp 12))), (some (37, true))⟩,
            ⟨(some 39), (.op (.pick (.tmp 37) (.tmp 38) (.cst (.bool false)))), none⟩,
            ⟨(some 40), (.op (.mv (.tmp 39))), none⟩,
            ⟨(some 41), (.op (.mv (.tmp 10))), (some (40, true))⟩,
            ⟨(some 42), (.call (.cst (.func (.func 41) [] [])) [(.tmp 41)]), (some (40, true))⟩,
            ⟨(some 43), (.op (.pick (.tmp 40) (.tmp 42) (.cst (.bool false)))), none⟩,
            ⟨(some 44), (.op (.mv (.tmp 43))), none⟩,
            ⟨(some 45), (.op (.mv (.tmp 11))), (some (44, true))⟩,
            ⟨(some 46), (.call (.cst (.func (.func 37) [] [])) [(.tmp 45)]), (some (44, true))⟩,
            ⟨(some 47), (.op (.pick (.tmp 44) (.tmp 46) (.cst (.bool false)))), none⟩,
            ⟨(some 48), (.op (.mv (.tmp 47))), none⟩,
            ⟨(some 49), (.op (.mv (.tmp 6))), (some (48, true))⟩,
            ⟨(some 50), (.op (.mv (.tmp 10))), (some (48, true))⟩,
            ⟨(some 51), (.call (.cst (.func (.func 42) [] [])) [(.tmp 49), (.tmp 50)]), (some (48, true))⟩,
            ⟨(some 52), (.op (.un .not (.tmp 51))), (some (48, true))⟩,
            ⟨(some 53), (.op (.pick (.tmp 48) (.tmp 52) (.cst (.bool false)))), none⟩,
            ⟨(some 54), (.op (.mv (.tmp 53))), none⟩,
            ⟨(some 55), (.op (.mv (.tmp 6))), (some (54, true))⟩,
            ⟨(some 56), (.op (.len .slice (.tmp 55))), (some (54, true))⟩,
            ⟨(some 57), (.op (.bin .lss none (.tmp 56) (.cst (.int .i64 256)))), (some (54, true))⟩,
            ⟨(some 58), (.op (.pick (.tmp 54) (.tmp 57) (.cst (.bool false)))), none⟩,
            ⟨(some 5), (.op (.mv (.tmp 58))), none⟩] [])
          (.seq (.region [
            ⟨(some 59), (.op (.mv (.tmp 6))), none⟩,
            ⟨(some 60), (.op (.mv (.tmp 10))), none⟩,
            ⟨(some 61), (.op (.mv (.tmp 11))), none⟩,
            ⟨(some 62), (.op (.build [(.str []), (.str [])] [(0, 1, (.tmp 60)), (1, 1, (.tmp 61))])), none⟩,
            ⟨(some 63), (.op (.bslice 2 1 [(.str []), (.str [])] [(0, 2, (.tmp 62))])), none⟩,
            ⟨(some 64), (.op (.append 2 32 (.tmp 59) (.tmp 63))), none⟩,
            ⟨(some 6), (.op (.mv (.tmp 64))), none⟩] [])
          (.region [
            ⟨(some 65), (.op (.mv (.tmp 8))), none⟩,
            ⟨(some 4), (.op (.mv (.tmp 65))), none⟩] [])))))))))
    (.seq (.seq (.region [
      ⟨(some 66), (.op (.mv (.tmp 5))), none⟩,
      ⟨(some 67), (.op (.un .not (.tmp 66))), none⟩] [])
    (.cond (.tmp 67)
      (.seq (.region [
        ⟨(some 2), (.op (.mv (.cst .nilSlice))), none⟩,
        ⟨(some 3), (.op (.mv (.cst (.int .i64 92)))), none⟩] [])
      .ret)
      .skip))
    (.seq (.region [
      ⟨(some 68), (.op (.mv (.tmp 6))), none⟩,
      ⟨(some 2), (.op (.mv (.tmp 68))), none⟩,
      ⟨(some 3), (.op (.mv (.cst (.int .i64 0)))), none⟩] [])
    .ret))))))⟩
theorem c21 : cFn Tryd.prog [] Tryd.f21 = some h21 := by kernel_rfl
/-- stint/yaml.List -/
def h27 : HFn :=
  ⟨22, [(.tmp 2), (.tmp 3)],
    (.seq (.region [
      ⟨(some 2), (.op (.mv (.cst .nilSlice))), none⟩,
      ⟨(some 3), (.op (.mv (.cst (.int .i64 0)))), none⟩] [])
    (.seq (.region [
      ⟨(some 4), (.op (.box (.cst (.agg [.nilSlice, (.int .i64 0), (.int .i8 0)])))), none⟩] [])
    (.seq (.region [
      ⟨(some 7), (.call (.cst (.func (.func 46) [] [])) [(.tmp 4), (.cst (.str [45, 45, 45, 10]))]), none⟩] [])
    (.seq (.seq (.region [
      ⟨(some 8), (.op (.mv (.tmp 0))), none⟩,
      ⟨(some 9), (.op (.len .slice (.tmp 8))), none⟩,
      ⟨(some 10), (.op (.mv (.cst (.int .i64 0)))), none⟩] [])
    (.block 0
      (.loop
        (.seq (.region [
          ⟨(some 11), (.op (.bin .lss none (.tmp 10) (.tmp 9))), none⟩] [])
        (.seq (.cond (.tmp 11)
          .skip
          (.exit 0))
        (.seq (.block 1
          (.seq (.region [
            ⟨(some 12), (.op (.idxS 1 (.tmp 8) (.tmp 10))), none⟩,
            ⟨(some 13), (.op (.load none (.tmp 12))), none⟩,
            ⟨(some 6), (.op (.mv (.tmp 13))), none⟩] [])
          (.seq (.seq (.region [
            ⟨(some 14), (.op (.mv (.tmp 6))), none⟩,
            ⟨(some 15), (.call (.cst (.func (.func 37) [] [])) [(.tmp 14)]), none⟩,
            ⟨(some 16), (.op (.un .not (.tmp 15))), none⟩] [])
          (.cond (.tmp 16)
            (.seq (.region [
              ⟨(some 2), (.op (.mv (.cst .nilSlice))), none⟩,
              ⟨(some 3), (.op (.mv (.cst (.int .i64 91)))), none⟩] [])
            .ret)
            .skip))
          (.region [
            ⟨(some 17), (.op (.mv (.tmp 6))), none⟩,
            ⟨(some 18), (.op (.bslice 1 2 [(.str []), (.str [])] [(0, 1, (.cst (.str [45, 32]))), (1, 1, (.tmp 17))])), none⟩,
            ⟨(some 19), (.call (.cst (.func (.func 47) [] [])) [(.tmp 4), (.tmp 18)]), none⟩] []))))
        (.region [
          ⟨(some 20), (.op (.bin .add none (.tmp 10) (.cst (.int .i64 1)))), none⟩,
          ⟨(some 10), (.op (.mv (.tmp 20))), none⟩] [])))))))
    (.seq (.region [
      ⟨(some 21), (.call (.cst (.func (.func 48) [] [])) [(.tmp 4)]), none⟩,
      ⟨(some 2), (.op (.mv (.tmp 21))), none⟩,
      ⟨(some 3), (.op (.mv (.cst (.int .i64 0)))), none⟩] [])
    .ret)))))⟩
theorem c27 : cFn Tryd.prog [] Tryd.f27 = some h27 := by kernel_rfl
/-- stint/yaml.Dict -/
def h29 : HFn :=
  ⟨42, [(.tmp 2), (.tmp 3)],
    (.seq (.region [
      ⟨(some 2), (.op (.mv (.cst .nilSlice))), none⟩,
      ⟨(some 3), (.op (.mv (.cst (.int .i64 0)))), none⟩] [])
    (.seq (.seq (.region [
      ⟨(some 7), (.op (.mv (.tmp 0))), none⟩,
      ⟨(some 8), (.op (.len .slice (.tmp 7))), none⟩,
      ⟨(some 9), (.op (.bin .gtr none (.tmp 8) (.cst (.int .i64 256)))), none⟩] [])
    (.cond (.tmp 9)
      (.seq (.region [
        ⟨(some 2), (.op (.mv (.cst .nilSlice))), none⟩,
        ⟨(some 3), (.op (.mv (.cst (.int .i64 1)))), none⟩] [])
      .ret)
      .skip))
    (.seq (.region [
      ⟨(some 4), (.op (.box (.cst (.agg [.nilSlice, (.int .i64 0), (.int .i8 0)])))), none⟩] [])
    (.seq (.region [
      ⟨(some 10), (.call (.cst (.func (.func 46) [] [])) [(.tmp 4), (.cst (.str [45, 45, 45, 10]))]), none⟩] [])
    (.seq (.seq (.region [
      ⟨(some 11), (.op (.mv (.tmp 0))), none⟩,
      ⟨(some 12), (.op (.len .slice (.tmp 11))), none⟩,
      ⟨(some 13), (.op (.mv (.cst (.int .i64 0)))), none⟩] [])
    (.block 0
      (.loop
        (.seq (.region [
          ⟨(some 14), (.op (.bin .lss none (.tmp 13) (.tmp 12))), none⟩] [])
        (.seq (.cond (.tmp 14)
          .skip
          (.exit 0))
        (.seq (.block 1
          (.seq (.region [
            ⟨(some 15), (.op (.mv (.tmp 13))), none⟩,
            ⟨(some 16), (.op (.idxS 2 (.tmp 11) (.tmp 13))), none⟩,
            ⟨(some 17), (.op (.load (some 2) (.tmp 16))), none⟩,
            ⟨(some 6), (.op (.box (.cst (.agg [(.str []), (.str [])])))), none⟩,
            ⟨(some 5), (.op (.mv (.tmp 15))), none⟩,
            ⟨none, (.op (.store 2 (.tmp 6) (.tmp 17))), none⟩] [])
          (.seq (.seq (.draw [
            ⟨(some 18), (.op (.faddr 0 (.tmp 6))), none⟩,
            ⟨(some 19), (.op (.load none (.tmp 18))), none⟩,
            ⟨(some 20), (.call (.cst (.func (.func 41) [] [])) [(.tmp 19)]), none⟩,
            ⟨(some 21), (.op (.un .not (.tmp 20))), none⟩,
            ⟨(some 22), (.op (.mv (.tmp 21))), none⟩,
            ⟨(some 23), (.op (.mv (.tmp 0))), (some (22, false))⟩,
            ⟨(some 24), (.op (.mv (.tmp 5))), (some (22, false))⟩,
            ⟨(some 25), (.op (.sliceSl 2 (.tmp 23) none (some (.tmp 24)) none)), (some (22, false))⟩,
            ⟨(some 26), (.op (.faddr 0 (.tmp 6))), (some (22, false))⟩,
            ⟨(some 27), (.op (.load none (.tmp 26))), (some (22, false))⟩,
            ⟨(some 28), (.call (.cst (.func (.func 42) [] [])) [(.tmp 25), (.tmp 27)]), (some (22, false))⟩,
            ⟨(some 29), (.op (.pick (.tmp 22) (.cst (.bool true)) (.tmp 28))), none⟩] [0, 1, 2, 3, 4, 5, 6, 7, 8, 9, 10, 11] [[], [], [1], [], [], [], [], [], [], [], [7, 1, 9], []] [])
          (.cond (.tmp 29)
            (.seq (.region [
              ⟨(some 2), (.op (.mv (.cst .nilSlice))), none⟩,
              ⟨(some 3), (.op (.mv (.cst (.int .i64 90)))), none⟩] [])
            .ret)
            .skip))
          (.seq (.seq (.region [
            ⟨(some 30), (.op (.faddr 1 (.tmp 6))), none⟩,
            ⟨(some 31), (.op (.load none (.tmp 30))), none⟩,
            ⟨(some 32), (.call (.cst (.func (.func 37) [] [])) [(.tmp 31)]), none⟩,
            ⟨(some 33), (.op (.un .not (.tmp 32))), none⟩] [])
          (.cond (.tmp 33)
            (.seq (.region [
              ⟨(some 2), (.op (.mv (.cst .nilSlice))), none⟩,
              ⟨(some 3), (.op (.mv (.cst (.int .i64 91)))), none⟩] [])
            .ret)
            .skip))
          (.region [
            ⟨(some 34), (.op (.faddr 0 (.tmp 6))), none⟩,
            ⟨(some 35), (.op (.load none (.tmp 34))), none⟩,
            ⟨(some 36), (.op (.faddr 1 (.tmp 6))), none⟩,
            ⟨(some 37), (.op (.load none (.tmp 36))), none⟩,
            ⟨(some 38), (.op (.bslice 1 3 [(.str []), (.str []), (.str [])] [(0, 1, (.tmp 35)), (1, 1, (.cst (.str [58, 32]))), (2, 1, (.tmp 37))])), none⟩,
            ⟨(some 39), (.call (.cst (.func (.func 47) [] [])) [(.tmp 4), (.tmp 38)]), none⟩] [])))))
        (.region [
          ⟨(some 40), (.op (.bin .add none (.tmp 13) (.cst (.int .i64 1)))), none⟩,
          ⟨(some 13), (.op (.mv (.tmp 40))), none⟩] [])))))))
    (.seq (.region [
      ⟨(some 41), (.call (.cst (.func (.func 48) [] [])) [(.tmp 4)]), none⟩,
      ⟨(some 2), (.op (.mv (.tmp 41))), none⟩,
      ⟨(some 3), (.op (.mv (.cst (.int .i64 0)))), none⟩] [])
    .ret))))))⟩
theorem c29 : cFn Tryd.prog [] Tryd.f29 = some h29 := by kernel_rfl
/-- strings.CutPrefix -/
def h34 : HFn :=
  ⟨11, [(.tmp 4), (.tmp 5)],
    (.seq (.region [
      ⟨(some 4), (.op (.mv (.cst (.str [])))), none⟩,
      ⟨(some 5), (.op (.mv (.cst (.bool false)))), none⟩] [])
    (.seq (.region [
      ⟨(some 6), (.op (.mv (.tmp 0))), none⟩,
      ⟨(some 7), (.op (.mv (.tmp 1))), none⟩,
      ⟨(some 8), (.call (.cst (.func (.func 49) [] [])) [(.tmp 6), (.tmp 7)]), none⟩,
      ⟨(some 9), (.op (.ext 0 (.tmp 8))), none⟩,
      ⟨(some 10), (.op (.ext 1 (.tmp 8))), none⟩,
      ⟨(some 4), (.op (.mv (.tmp 9))), none⟩,
      ⟨(some 5), (.op (.mv (.tmp 10))), none⟩] [])
    .ret))⟩
theorem c34 : cFn Tryd.prog [] Tryd.f34 = some h34 := by kernel_rfl
/-- stint/yaml.cut -/
def h35 : HFn :=
  ⟨10, [(.tmp 2), (.tmp 3), (.tmp 4)],
    (.seq (.region [
      ⟨(some 2), (.op (.mv (.cst (.str [])))), none⟩,
      ⟨(some 3), (.op (.mv (.cst (.str [])))), none⟩,
      ⟨(some 4), (.op (.mv (.cst (.bool false)))), none⟩] [])
    (.seq (.region [
      ⟨(some 5), (.op (.mv (.tmp 0))), none⟩,
      ⟨(some 6), (.call (.cst (.func (.func 40) [] [])) [(.tmp 5), (.cst (.str [10]))]), none⟩,
      ⟨(some 7), (.op (.ext 0 (.tmp 6))), none⟩,
      ⟨(some 8), (.op (.ext 1 (.tmp 6))), none⟩,
      ⟨(some 9), (.op (.ext 2 (.tmp 6))), none⟩,
      ⟨(some 2), (.op (.mv (.tmp 7))), none⟩,
      ⟨(some 3), (.op (.mv (.tmp 8))), none⟩,
      ⟨(some 4), (.op (.mv (.tmp 9))), none⟩] [])
    .ret))⟩
theorem c35 : cFn Tryd.prog [] Tryd.f35 = some h35 := by kernel_rfl
/-- strings.HasPrefix -/
def h36 : HFn :=
  ⟨8, [(.tmp 4)],
    (.seq (.region [
      ⟨(some 4), (.op (.mv (.cst (.bool false)))), none⟩] [])
    (.seq (.region [
      ⟨(some 5), (.op (.mv (.tmp 0))), none⟩,
      ⟨(some 6), (.op (.mv (.tmp 1))), none⟩,
      ⟨(some 7), (.call (.cst (.func (.func 50) [] [])) [(.tmp 5), (.tmp 6)]), none⟩,
      ⟨(some 4), (.op (.mv (.tmp 7))), none⟩] [])
    .ret))⟩
theorem c36 : cFn Tryd.prog [] Tryd.f36 = some h36 := by kernel_rfl
/-- stint/yaml.plain -/
def h37 : HFn :=
  ⟨26, [(.tmp 2)],
    (.seq (.region [
      ⟨(some 2), (.op (.mv (.cst (.bool false)))), none⟩] [])
    (.seq (.seq (.region [
      ⟨(some 5), (.op (.mv (.tmp 0))), none⟩,
      ⟨(some 6), (.op (.s2b (.tmp 5))), none⟩,
      ⟨(some 7), (.op (.len .slice (.tmp 6))), none⟩,
      ⟨(some 8), (.op (.mv (.cst (.int .i64 0)))), none⟩] [])
    (.block 0
      (.loop
        (.seq (.region [
          ⟨(some 9), (.op (.bin .lss none (.tmp 8) (.tmp 7))), none⟩] [])
        (.seq (.cond (.tmp 9)
          .skip
          (.exit 0))
        (.seq (.block 1
          (.seq (.region [
            ⟨(some 10), (.op (.idxS 1 (.tmp 6) (.tmp 8))), none⟩,
            ⟨(some 11), (.op (.load none (.tmp 10))), none⟩,
            ⟨(some 4), (.op (.mv (.tmp 11))), none⟩] [])
          (.seq (.region [
            ⟨(some 12), (.op (.mv (.tmp 4))), none⟩,
            ⟨(some 13), (.op (.bin .lss none (.tmp 12) (.cst (.int .u8 33)))), none⟩,
            ⟨(some 14), (.op (.mv (.tmp 13))), none⟩,
            ⟨(some 15), (.op (.mv (.tmp 4))), (some (14, false))⟩,
            ⟨(some 16), (.op (.bin .gtr none (.tmp 15) (.cst (.int .u8 126)))), (some (14, false))⟩,
            ⟨(some 17), (.op (.pick (.tmp 14) (.cst (.bool true)) (.tmp 16))), none⟩] [])
          (.cond (.tmp 17)
            (.seq (.region [
              ⟨(some 2), (.op (.mv (.cst (.bool false)))), none⟩] [])
            .ret)
            .skip))))
        (.region [
          ⟨(some 18), (.op (.bin .add none (.tmp 8) (.cst (.int .i64 1)))), none⟩,
          ⟨(some 8), (.op (.mv (.tmp 18))), none⟩] [])))))))
    (.seq (.region [
      ⟨(some 19), (.op (.mv (.tmp 0))), none⟩,
      ⟨(some 20), (.op (.bin .neq (some .str) (.tmp 19) (.cst (.str [])))), none⟩,
      ⟨(some 21), (.op (.mv (.tmp 20))), none⟩,
      ⟨(some 22), (.op (.mv (.tmp 0))), (some (21, true))⟩,
      ⟨(some 23), (.op (.len .str (.tmp 22))), (some (21, true))⟩,
      ⟨(some 24), (.op (.bin .leq none (.tmp 23) (.cst (.int .i64 4096)))), (some (21, true))⟩,
      ⟨(some 25), (.op (.pick (.tmp 21) (.tmp 24) (.cst (.bool false)))), none⟩,
      ⟨(some 2), (.op (.mv (.tmp 25))), none⟩] [])
    .ret)))⟩
theorem c37 : cFn Tryd.prog [] Tryd.f37 = some h37 := by kernel_rfl
/-- strings.Cut -/
def h40 : HFn :=
  ⟨13, [(.tmp 4), (.tmp 5), (.tmp 6)],
    (.seq (.region [
      ⟨(some 4), (.op (.mv (.cst (.str [])))), none⟩,
      ⟨(some 5), (.op (.mv (.cst (.str [])))), none⟩,
      ⟨(some 6), (.op (.mv (.cst (.bool false)))), none⟩] [])
    (.seq (.region [
      ⟨(some 7), (.op (.mv (.tmp 0))), none⟩,
      ⟨(some 8), (.op (.mv (.tmp 1))), none⟩,
      ⟨(some 9), (.call (.cst (.func (.func 51) [] [])) [(.tmp 7), (.tmp 8)]), none⟩,
      ⟨(some 10), (.op (.ext 0 (.tmp 9))), none⟩,
      ⟨(some 11), (.op (.ext 1 (.tmp 9))), none⟩,
      ⟨(some 12), (.op (.ext 2 (.tmp 9))), none⟩,
      ⟨(some 4), (.op (.mv (.tmp 10))), none⟩,
      ⟨(some 5), (.op (.mv (.tmp 11))), none⟩,
      ⟨(some 6), (.op (.mv (.tmp 12))), none⟩] [])
    .ret))⟩
theorem c40 : cFn Tryd.prog [] Tryd.f40 = some h40 := by kernel_rfl
/-- stint/yaml.right -/
def h41 : HFn :=
  ⟨38, [(.tmp 2)],
    (.seq (.region [
      ⟨(some 2), (.op (.mv (.cst (.bool false)))), none⟩] [])
    (.seq (.seq (.region [
      ⟨(some 5), (.op (.mv (.tmp 0))), none⟩,
      ⟨(some 6), (.op (.s2b (.tmp 5))), none⟩,
      ⟨(some 7), (.op (.len .slice (.tmp 6))), none⟩,
      ⟨(some 8), (.op (.mv (.cst (.int .i64 0)))), none⟩] [])
    (.block 0
      (.loop
        (.seq (.region [
          ⟨(some 9), (.op (.bin .lss none (.tmp 8) (.tmp 7))), none⟩] [])
        (.seq (.cond (.tmp 9)
          .skip
          (.exit 0))
        (.seq (.block 1
          (.seq (.region [
            ⟨(some 10), (.op (.idxS 1 (.tmp 6) (.tmp 8))), none⟩,
            ⟨(some 11), (.op (.load none (.tmp 10))), none⟩,
            ⟨(some 4), (.op (.mv (.tmp 11))), none⟩] [])
          (.seq (.region [
            ⟨(some 12), (.op (.mv (.tmp 4))), none⟩,
            ⟨(some 13), (.op (.bin .neq (some .int) (.tmp 12) (.cst (.int .u8 45)))), none⟩,
            ⟨(some 14), (.op (.mv (.tmp 13))), none⟩,
            ⟨(some 15), (.op (.mv (.tmp 4))), (some (14, true))⟩,
            ⟨(some 16), (.op (.bin .lss none (.tmp 15) (.cst (.int .u8 48)))), (some (14, true))⟩,
            ⟨(some 17), (.op (.mv (.tmp 16))), (some (14, true))⟩,
            ⟨(some 18), (.op (.mv (.tmp 4))), (some (17, false))⟩,
            ⟨(some 19), (.op (.bin .gtr none (.tmp 18) (.cst (.int .u8 57)))), (some (17, false))⟩,
            ⟨(some 20), (.op (.pick (.tmp 17) (.cst (.bool true)) (.tmp 19))), (some (14, true))⟩,
            ⟨(some 21), (.op (.pick (.tmp 14) (.tmp 20) (.cst (.bool false)))), none⟩,
            ⟨(some 22), (.op (.mv (.tmp 21))), none⟩,
            ⟨(some 23), (.op (.mv (.tmp 4))), (some (22, true))⟩,
            ⟨(some 24), (.op (.bin .lss none (.tmp 23) (.cst (.int .u8 97)))), (some (22, true))⟩,
            ⟨(some 25), (.op (.mv (.tmp 24))), (some (22, true))⟩,
            ⟨(some 26), (.op (.mv (.tmp 4))), (some (25, false))⟩,
            ⟨(some 27), (.op (.bin .gtr none (.tmp 26) (.cst (.int .u8 122)))), (some (25, false))⟩,
            ⟨(some 28), (.op (.pick (.tmp 25) (.cst (.bool true)) (.tmp 27))), (some (22, true))⟩,
            ⟨(some 29), (.op (.pick (.tmp 22) (.tmp 28) (.cst (.bool false)))), none⟩] [])
          (.cond (.tmp 29)
            (.seq (.region [
              ⟨(some 2), (.op (.mv (.cst (.bool false)))), none⟩] [])
            .ret)
            .skip))))
        (.region [
          ⟨(some 30), (.op (.bin .add none (.tmp 8) (.cst (.int .i64 1)))), none⟩,
          ⟨(some 8), (.op (.mv (.tmp 30))), none⟩] [])))))))
    (.seq (.region [
      ⟨(some 31), (.op (.mv (.tmp 0))), none⟩,
      ⟨(some 32), (.op (.bin .neq (some .str) (.tmp 31) (.cst (.str [])))), none⟩,
      ⟨(some 33), (.op (.mv (.tmp 32))), none⟩,
      ⟨(some 34), (.op (.mv (.tmp 0))), (some (33, true))⟩,
      ⟨(some 35), (.op (.len .str (.tmp 34))), (some (33, true))⟩,
      ⟨(some 36), (.op (.bin .leq none (.tmp 35) (.cst (.int .i64 64)))), (some (33, true))⟩,
      ⟨(some 37), (.op (.pick (.tmp 33) (.tmp 36) (.cst (.bool false)))), none⟩,
      ⟨(some 2), (.op (.mv (.tmp 37))), none⟩] [])
    .ret)))⟩
theorem c41 : cFn Tryd.prog [] Tryd.f41 = some h41 := by kernel_rfl
/-- stint/yaml.has -/
def h42 : HFn :=
  ⟨18, [(.tmp 4)],
    (.seq (.region [
      ⟨(some 4), (.op (.mv (.cst (.bool false)))), none⟩] [])
    (.seq (.seq (.region [
      ⟨(some 7), (.op (.mv (.tmp 0))), none⟩,
      ⟨(some 8), (.op (.len .slice (.tmp 7))), none⟩,
      ⟨(some 9), (.op (.mv (.cst (.int .i64 0)))), none⟩] [])
    (.block 0
      (.loop
        (.seq (.region [
          ⟨(some 10), (.op (.bin .lss none (.tmp 9) (.tmp 8))), none⟩] [])
        (.seq (.cond (.tmp 10)
          .skip
          (.exit 0))
        (.seq (.block 1
          (.seq (.region [
            ⟨(some 11), (.op (.idxS 2 (.tmp 7) (.tmp 9))), none⟩,
            ⟨(some 12), (.op (.load (some 2) (.tmp 11))), none⟩,
            ⟨(some 6), (.op (.box (.cst (.agg [(.str []), (.str [])])))), none⟩,
            ⟨none, (.op (.store 2 (.tmp 6) (.tmp 12))), none⟩] [])
          (.seq (.region [
            ⟨(some 13), (.op (.faddr 0 (.tmp 6))), none⟩,
            ⟨(some 14), (.op (.load none (.tmp 13))), none⟩,
            ⟨(some 15), (.op (.mv (.tmp 1))), none⟩,
            ⟨(some 16), (.op (.bin .eql (some .str) (.tmp 14) (.tmp 15))), none⟩] [])
          (.cond (.tmp 16)
            (.seq (.region [
              ⟨(some 4), (.op (.mv (.cst (.bool true)))), none⟩] [])
            .ret)
            .skip))))
        (.region [
          ⟨(some 17), (.op (.bin .add none (.tmp 9) (.cst (.int .i64 1)))), none⟩,
          ⟨(some 9), (.op (.mv (.tmp 17))), none⟩] [])))))))
    (.seq (.region [
      ⟨(some 4), (.op (.mv (.cst (.bool false)))), none⟩] [])
    .ret)))⟩
theorem c42 : cFn Tryd.prog [] Tryd.f42 = some h42 := by kernel_rfl
/-- (*bytes.Buffer).WriteString -/
def h46 : HFn :=
  ⟨32, [(.tmp 4), (.tmp 5)],
    (.seq (.region [
      ⟨(some 4), (.op (.mv (.cst (.int .i64 0)))), none⟩,
      ⟨(some 5), (.op (.mv (.cst .nilIface))), none⟩] [])
    (.seq (.region [
      ⟨(some 8), (.op (.mv (.tmp 0))), none⟩,
      ⟨(some 9), (.op (.nilc (.tmp 8))), none⟩,
      ⟨(some 10), (.op (.faddr 2 (.tmp 9))), none⟩,
      ⟨none, (.op (.store 1 (.tmp 10) (.cst (.int .i8 0)))), none⟩] [])
    (.seq (.region [
      ⟨(some 12), (.op (.mv (.tmp 0))), none⟩,
      ⟨(some 13), (.op (.mv (.tmp 1))), none⟩,
      ⟨(some 14), (.op (.len .str (.tmp 13))), none⟩,
      ⟨(some 15), (.call (.cst (.func (.func 52) [] [])) [(.tmp 12), (.tmp 14)]), none⟩,
      ⟨(some 11), (.op (.mv (.tmp 15))), none⟩,
      ⟨(some 16), (.op (.ext 0 (.tmp 11))), none⟩,
      ⟨(some 17), (.op (.ext 1 (.tmp 11))), none⟩,
      ⟨(some 6), (.op (.mv (.tmp 16))), none⟩,
      ⟨(some 7), (.op (.mv (.tmp 17))), none⟩] [])
    (.seq (.seq (.region [
      ⟨(some 18), (.op (.mv (.tmp 7))), none⟩,
      ⟨(some 19), (.op (.un .not (.tmp 18))), none⟩] [])
    (.cond (.tmp 19)
      (.region [
        ⟨(some 20), (.op (.mv (.tmp 0))), none⟩,
        ⟨(some 21), (.op (.mv (.tmp 1))), none⟩,
        ⟨(some 22), (.op (.len .str (.tmp 21))), none⟩,
        ⟨(some 23), (.call (.cst (.func (.func 53) [] [])) [(.tmp 20), (.tmp 22)]), none⟩,
        ⟨(some 6), (.op (.mv (.tmp 23))), none⟩] [])
      .skip))
    (.seq (.region [
      ⟨(some 24), (.op (.mv (.tmp 0))), none⟩,
      ⟨(some 25), (.op (.nilc (.tmp 24))), none⟩,
      ⟨(some 26), (.op (.faddr 0 (.tmp 25))), none⟩,
      ⟨(some 27), (.op (.load none (.tmp 26))), none⟩,
      ⟨(some 28), (.op (.mv (.tmp 6))), none⟩,
      ⟨(some 29), (.op (.sliceSl 1 (.tmp 27) (some (.tmp 28)) none none)), none⟩,
      ⟨(some 30), (.op (.mv (.tmp 1))), none⟩,
      ⟨(some 31), (.op (.copy 1 (.tmp 29) (.tmp 30))), none⟩,
      ⟨(some 4), (.op (.mv (.tmp 31))), none⟩,
      ⟨(some 5), (.op (.mv (.cst .nilIface))), none⟩] [])
    .ret)))))⟩
theorem c46 : cFn Tryd.prog [] Tryd.f46 = some h46 := by kernel_rfl
/-- stint/yaml.line -/
def h47 : HFn :=
  ⟨18, [],
    (.seq (.seq (.region [
      ⟨(some 6), (.op (.mv (.tmp 1))), none⟩,
      ⟨(some 7), (.op (.len .slice (.tmp 6))), none⟩,
      ⟨(some 8), (.op (.mv (.cst (.int .i64 0)))), none⟩] [])
    (.block 0
      (.loop
        (.seq (.region [
          ⟨(some 9), (.op (.bin .lss none (.tmp 8) (.tmp 7))), none⟩] [])
        (.seq (.cond (.tmp 9)
          .skip
          (.exit 0))
        (.seq (.block 1
          (.seq (.region [
            ⟨(some 10), (.op (.idxS 1 (.tmp 6) (.tmp 8))), none⟩,
            ⟨(some 11), (.op (.load none (.tmp 10))), none⟩,
            ⟨(some 5), (.op (.mv (.tmp 11))), none⟩] [])
          (.region [
            ⟨(some 12), (.op (.mv (.tmp 0))), none⟩,
            ⟨(some 13), (.op (.mv (.tmp 5))), none⟩,
            ⟨(some 14), (.call (.cst (.func (.func 46) [] [])) [(.tmp 12), (.tmp 13)]), none⟩] [])))
        (.region [
          ⟨(some 15), (.op (.bin .add none (.tmp 8) (.cst (.int .i64 1)))), none⟩,
          ⟨(some 8), (.op (.mv (.tmp 15))), none⟩] [])))))))
    (.region [
      ⟨(some 16), (.op (.mv (.tmp 0))), none⟩,
      ⟨(some 17), (.call (.cst (.func (.func 54) [] [])) [(.tmp 16), (.cst (.int .u8 10))]), none⟩] []))⟩
theorem c47 : cFn Tryd.prog [] Tryd.f47 = some h47 := by kernel_rfl
/-- (*bytes.Buffer).Bytes -/
def h48 : HFn :=
  ⟨12, [(.tmp 2)],
    (.seq (.region [
      ⟨(some 2), (.op (.mv (.cst .nilSlice))), none⟩] [])
    (.seq (.draw [
      ⟨(some 3), (.op (.mv (.tmp 0))), none⟩,
      ⟨(some 4), (.op (.nilc (.tmp 3))), none⟩,
      ⟨(some 5), (.op (.faddr 0 (.tmp 4))), none⟩,
      ⟨(some 6), (.op (.load none (.tmp 5))), none⟩,
      ⟨(some 7), (.op (.mv (.tmp 0))), none⟩,
      ⟨(some 8), (.op (.nilc (.tmp 7))), none⟩,
      ⟨(some 9), (.op (.faddr 1 (.tmp 8))), none⟩,
      ⟨(some 10), (.op (.load none (.tmp 9))), none⟩,
      ⟨(some 11), (.op (.sliceSl 1 (.tmp 6) (some (.tmp 10)) none none)), none⟩,
      ⟨(some 2), (.op (.mv (.tmp 11))), none⟩] [0, 1, 2, 3, 4, 5, 6, 7, 8, 9] [[], [], [], [], [], [], [], [], [], []] [])
    .ret))⟩
theorem c48 : cFn Tryd.prog [] Tryd.f48 = some h48 := by kernel_rfl
/-- internal/stringslite.CutPrefix -/
def h49 : HFn :=
  ⟨15, [(.tmp 4), (.tmp 5)],
    (.seq (.region [
      ⟨(some 4), (.op (.mv (.cst (.str [])))), none⟩,
      ⟨(some 5), (.op (.mv (.cst (.bool false)))), none⟩] [])
    (.seq (.seq (.region [
      ⟨(some 6), (.op (.mv (.tmp 0))), none⟩,
      ⟨(some 7), (.op (.mv (.tmp 1))), none⟩,
      ⟨(some 8), (.call (.cst (.func (.func 50) [] [])) [(.tmp 6), (.tmp 7)]), none⟩,
      ⟨(some 9), (.op (.un .not (.tmp 8))), none⟩] [])
    (.cond (.tmp 9)
      (.seq (.region [
        ⟨(some 10), (.op (.mv (.tmp 0))), none⟩,
        ⟨(some 4), (.op (.mv (.tmp 10))), none⟩,
        ⟨(some 5), (.op (.mv (.cst (.bool false)))), none⟩] [])
      .ret)
      .skip))
    (.seq (.region [
      ⟨(some 11), (.op (.mv (.tmp 0))), none⟩,
      ⟨(some 12), (.op (.mv (.tmp 1))), none⟩,
      ⟨(some 13), (.op (.len .str (.tmp 12))), none⟩,
      ⟨(some 14), (.op (.sliceStr (.tmp 11) (some (.tmp 13)) none)), none⟩,
      ⟨(some 4), (.op (.mv (.tmp 14))), none⟩,
      ⟨(some 5), (.op (.mv (.cst (.bool true)))), none⟩] [])
    .ret)))⟩
theorem c49 : cFn Tryd.prog [] Tryd.f49 = some h49 := by kernel_rfl
/-- internal/stringslite.HasPrefix -/
def h50 : HFn :=
  ⟨18, [(.tmp 4)],
    (.seq (.region [
      ⟨(some 4), (.op (.mv (.cst (.bool false)))), none⟩] [])
    (.seq (.region [
      ⟨(some 5), (.op (.mv (.tmp 0))), none⟩,
      ⟨(some 6), (.op (.len .str (.tmp 5))), none⟩,
      ⟨(some 7), (.op (.mv (.tmp 1))), none⟩,
      ⟨(some 8), (.op (.len .str (.tmp 7))), none⟩,
      ⟨(some 9), (.op (.bin .geq none (.tmp 6) (.tmp 8))), none⟩,
      ⟨(some 10), (.op (.mv (.tmp 9))), none⟩,
      ⟨(some 11), (.op (.mv (.tmp 0))), (some (10, true))⟩,
      ⟨(some 12), (.op (.mv (.tmp 1))), (some (10, true))⟩,
      ⟨(some 13), (.op (.len .str (.tmp 12))), (some (10, true))⟩,
      ⟨(some 14), (.op (.sliceStr (.tmp 11) none (some (.tmp 13)))), (some (10, true))⟩,
      ⟨(some 15), (.op (.mv (.tmp 1))), (some (10, true))⟩,
      ⟨(some 16), (.op (.bin .eql (some .str) (.tmp 14) (.tmp 15))), (some (10, true))⟩,
      ⟨(some 17), (.op (.pick (.tmp 10) (.tmp 16) (.cst (.bool false)))), none⟩,
      ⟨(some 4), (.op (.mv (.tmp 17))), none⟩] [])
    .ret))⟩
theorem c50 : cFn Tryd.prog [] Tryd.f50 = some h50 := by kernel_rfl
/-- internal/stringslite.Cut -/
def h51 : HFn :=
  ⟨23, [(.tmp 4), (.tmp 5), (.tmp 6)],
    (.seq (.region [
      ⟨(some 4), (.op (.mv (.cst (.str [])))), none⟩,
      ⟨(some 5), (.op (.mv (.cst (.str [])))), none⟩,
      ⟨(some 6), (.op (.mv (.cst (.bool false)))), none⟩] [])
    (.seq (.seq (.region [
      ⟨(some 8), (.op (.mv (.tmp 0))), none⟩,
      ⟨(some 9), (.op (.mv (.tmp 1))), none⟩,
      ⟨(some 10), (.call (.cst (.func (.func 55) [] [])) [(.tmp 8), (.tmp 9)]), none⟩,
      ⟨(some 7), (.op (.mv (.tmp 10))), none⟩] [])
    (.seq (.region [
      ⟨(some 11), (.op (.mv (.tmp 7))), none⟩,
      ⟨(some 12), (.op (.bin .geq none (.tmp 11) (.cst (.int .i64 0)))), none⟩] [])
    (.cond (.tmp 12)
      (.seq (.draw [
        ⟨(some 13), (.op (.mv (.tmp 0))), none⟩,
        ⟨(some 14), (.op (.mv (.tmp 7))), none⟩,
        ⟨(some 15), (.op (.sliceStr (.tmp 13) none (some (.tmp 14)))), none⟩,
        ⟨(some 16), (.op (.mv (.tmp 0))), none⟩,
        ⟨(some 17), (.op (.mv (.tmp 7))), none⟩,
        ⟨(some 18), (.op (.mv (.tmp 1))), none⟩,
        ⟨(some 19), (.op (.len .str (.tmp 18))), none⟩,
        ⟨(some 20), (.op (.bin .add none (.tmp 17) (.tmp 19))), none⟩,
        ⟨(some 21), (.op (.sliceStr (.tmp 16) (some (.tmp 20)) none)), none⟩,
        ⟨(some 4), (.op (.mv (.tmp 15))), none⟩,
        ⟨(some 5), (.op (.mv (.tmp 21))), none⟩,
        ⟨(some 6), (.op (.mv (.cst (.bool true)))), none⟩] [0, 1, 2, 3, 4, 5, 6, 7, 8, 9, 10, 11] [[], [], [], [], [], [], [], [], [], [], [], []] [])
      .ret)
      .skip)))
    (.seq (.region [
      ⟨(some 22), (.op (.mv (.tmp 0))), none⟩,
      ⟨(some 4), (.op (.mv (.tmp 22))), none⟩,
      ⟨(some 5), (.op (.mv (.cst (.str [])))), none⟩,
      ⟨(some 6), (.op (.mv (.cst (.bool false)))), none⟩] [])
    .ret)))⟩
theorem c51 : cFn Tryd.prog [] Tryd.f51 = some h51 := by kernel_rfl
/-- (*bytes.Buffer).tryGrowByReslice -/
def h52 : HFn :=
  ⟨33, [(.tmp 4), (.tmp 5)],
    (.seq (.region [
      ⟨(some 4), (.op (.mv (.cst (.int .i64 0)))), none⟩,
      ⟨(some 5), (.op (.mv (.cst (.bool false)))), none⟩] [])
    (.seq (.seq (.region [
      ⟨(some 7), (.op (.mv (.tmp 0))), none⟩,
      ⟨(some 8), (.op (.nilc (.tmp 7))), none⟩,
      ⟨(some 9), (.op (.faddr 0 (.tmp 8))), none⟩,
      ⟨(some 10), (.op (.load none (.tmp 9))), none⟩,
      ⟨(some 11), (.op (.len .slice (.tmp 10))), none⟩,
      ⟨(some 6), (.op (.mv (.tmp 11))), none⟩] [])
    (.seq (.region [
      ⟨(some 12), (.op (.mv (.tmp 1))), none⟩,
      ⟨(some 13), (.op (.mv (.tmp 0))), none⟩,
      ⟨(some 14), (.op (.nilc (.tmp 13))), none⟩,
      ⟨(some 15), (.op (.faddr 0 (.tmp 14))), none⟩,
      ⟨(some 16), (.op (.load none (.tmp 15))), none⟩,
      ⟨(some 17), (.op (.cap (.tmp 16))), none⟩,
      ⟨(some 18), (.op (.mv (.tmp 6))), none⟩,
      ⟨(some 19), (.op (.bin .sub none (.tmp 17) (.tmp 18))), none⟩,
      ⟨(some 20), (.op (.bin .leq none (.tmp 12) (.tmp 19))), none⟩] [])
    (.cond (.tmp 20)
      (.seq (.region [
        ⟨(some 21), (.op (.mv (.tmp 0))), none⟩,
        ⟨(some 22), (.op (.mv (.tmp 0))), none⟩,
        ⟨(some 23), (.op (.nilc (.tmp 22))), none⟩,
        ⟨(some 24), (.op (.faddr 0 (.tmp 23))), none⟩,
        ⟨(some 25), (.op (.load none (.tmp 24))), none⟩,
        ⟨(some 26), (.op (.mv (.tmp 6))), none⟩,
        ⟨(some 27), (.op (.mv (.tmp 1))), none⟩,
        ⟨(some 28), (.op (.bin .add none (.tmp 26) (.tmp 27))), none⟩,
        ⟨(some 29), (.op (.sliceSl 1 (.tmp 25) none (some (.tmp 28)) none)), none⟩,
        ⟨(some 30), (.op (.nilc (.tmp 21))), none⟩,
        ⟨(some 31), (.op (.faddr 0 (.tmp 30))), none⟩,
        ⟨none, (.op (.store 1 (.tmp 31) (.tmp 29))), none⟩] [])
      (.seq (.region [
        ⟨(some 32), (.op (.mv (.tmp 6))), none⟩,
        ⟨(some 4), (.op (.mv (.tmp 32))), none⟩,
        ⟨(some 5), (.op (.mv (.cst (.bool true)))), none⟩] [])
      .ret))
      .skip)))
    (.seq (.region [
      ⟨(some 4), (.op (.mv (.cst (.int .i64 0)))), none⟩,
      ⟨(some 5), (.op (.mv (.cst (.bool false)))), none⟩] [])
    .ret)))⟩
theorem c52 : cFn Tryd.prog [] Tryd.f52 = some h52 := by kernel_rfl
/-- (*bytes.Buffer).grow -/
def h53 : HFn :=
  ⟨110, [(.tmp 4)],
    (.seq (.region [
      ⟨(some 4), (.op (.mv (.cst (.int .i64 0)))), none⟩] [])
    (.seq (.region [
      ⟨(some 9), (.op (.mv (.tmp 0))), none⟩,
      ⟨(some 10), (.call (.cst (.func (.func 56) [] [])) [(.tmp 9)]), none⟩,
      ⟨(some 5), (.op (.mv (.tmp 10))), none⟩] [])
    (.seq (.seq (.region [
      ⟨(some 11), (.op (.mv (.tmp 5))), none⟩,
      ⟨(some 12), (.op (.bin .eql (some .int) (.tmp 11) (.cst (.int .i64 0)))), none⟩,
      ⟨(some 13), (.op (.mv (.tmp 12))), none⟩,
      ⟨(some 14), (.op (.mv (.tmp 0))), (some (13, true))⟩,
      ⟨(some 15), (.op (.nilc (.tmp 14))), (some (13, true))⟩,
      ⟨(some 16), (.op (.faddr 1 (.tmp 15))), (some (13, true))⟩,
      ⟨(some 17), (.op (.load none (.tmp 16))), (some (13, true))⟩,
      ⟨(some 18), (.op (.bin .neq (some .int) (.tmp 17) (.cst (.int .i64 0)))), (some (13, true))⟩,
      ⟨(some 19), (.op (.pick (.tmp 13) (.tmp 18) (.cst (.bool false)))), none⟩] [])
    (.cond (.tmp 19)
      (.region [
        ⟨(some 20), (.op (.mv (.tmp 0))), none⟩,
        ⟨(some 21), (.call (.cst (.func (.func 57) [] [])) [(.tmp 20)]), none⟩] [])
      .skip))
    (.seq (.seq (.region [
      ⟨(some 23), (.op (.mv (.tmp 0))), none⟩,
      ⟨(some 24), (.op (.mv (.tmp 1))), none⟩,
      ⟨(some 25), (.call (.cst (.func (.func 52) [] [])) [(.tmp 23), (.tmp 24)]), none⟩,
      ⟨(some 22), (.op (.mv (.tmp 25))), none⟩,
      ⟨(some 26), (.op (.ext 0 (.tmp 22))), none⟩,
      ⟨(some 27), (.op (.ext 1 (.tmp 22))), none⟩,
      ⟨(some 6), (.op (.mv (.tmp 26))), none⟩,
      ⟨(some 7), (.op (.mv (.tmp 27))), none⟩] [])
    (.seq (.region [
      ⟨(some 28), (.op (.mv (.tmp 7))), none⟩] [])
    (.cond (.tmp 28)
      (.seq (.region [
        ⟨(some 29), (.op (.mv (.tmp 6))), none⟩,
        ⟨(some 4), (.op (.mv (.tmp 29))), none⟩] [])
      .ret)
      .skip)))
    (.seq (.seq (.region [
      ⟨(some 30), (.op (.mv (.tmp 0))), none⟩,
      ⟨(some 31), (.op (.nilc (.tmp 30))), none⟩,
      ⟨(some 32), (.op (.faddr 0 (.tmp 31))), none⟩,
      ⟨(some 33), (.op (.load none (.tmp 32))), none⟩,
      ⟨(some 34), (.op (.bin .eql (some .slice) (.tmp 33) (.cst .nilSlice))), none⟩,
      ⟨(some 35), (.op (.mv (.tmp 34))), none⟩,
      ⟨(some 36), (.op (.mv (.tmp 1))), (some (35, true))⟩,
      ⟨(some 37), (.op (.bin .leq none (.tmp 36) (.cst (.int .i64 64)))), (some (35, true))⟩,
      ⟨(some 38), (.op (.pick (.tmp 35) (.tmp 37) (.cst (.bool false)))), none⟩] [])
    (.cond (.tmp 38)
      (.seq (.region [
        ⟨(some 39), (.op (.mv (.tmp 0))), none⟩,
        ⟨(some 40), (.op (.mv (.tmp 1))), none⟩,
        ⟨(some 41), (.op (.mkSlice 1 1 [(.int .u8 0)] (.tmp 40) (.cst (.int .i64 64)))), none⟩,
        ⟨(some 42), (.op (.nilc (.tmp 39))), none⟩,
        ⟨(some 43), (.op (.faddr 0 (.tmp 42))), none⟩,
        ⟨none, (.op (.store 1 (.tmp 43) (.tmp 41))), none⟩] [])
      (.seq (.region [
        ⟨(some 4), (.op (.mv (.cst (.int .i64 0)))), none⟩] [])
      .ret))
      .skip))
    (.seq (.region [
      ⟨(some 44), (.op (.mv (.tmp 0))), none⟩,
      ⟨(some 45), (.op (.nilc (.tmp 44))), none⟩,
      ⟨(some 46), (.op (.faddr 0 (.tmp 45))), none⟩,
      ⟨(some 47), (.op (.load none (.tmp 46))), none⟩,
      ⟨(some 48), (.op (.cap (.tmp 47))), none⟩,
      ⟨(some 8), (.op (.mv (.tmp 48))), none⟩] [])
    (.seq (.seq (.region [
      ⟨(some 49), (.op (.mv (.tmp 1))), none⟩,
      ⟨(some 50), (.op (.mv (.tmp 8))), none⟩,
      ⟨(some 51), (.op (.bin .quo none (.tmp 50) (.cst (.int .i64 2)))), none⟩,
      ⟨(some 52), (.op (.mv (.tmp 5))), none⟩,
      ⟨(some 53), (.op (.bin .sub none (.tmp 51) (.tmp 52))), none⟩,
      ⟨(some 54), (.op (.bin .leq none (.tmp 49) (.tmp 53))), none⟩] [])
    (.cond (.tmp 54)
      (.draw [
        ⟨(some 55), (.op (.mv (.tmp 0))), none⟩,
        ⟨(some 56), (.op (.nilc (.tmp 55))), none⟩,
        ⟨(some 57), (.op (.faddr 0 (.tmp 56))), none⟩,
        ⟨(some 58), (.op (.load none (.tmp 57))), none⟩,
        ⟨(some 59), (.op (.mv (.tmp 0))), none⟩,
        ⟨(some 60), (.op (.nilc (.tmp 59))), none⟩,
        ⟨(some 61), (.op (.faddr 0 (.tmp 60))), none⟩,
        ⟨(some 62), (.op (.load none (.tmp 61))), none⟩,
        ⟨(some 63), (.op (.mv (.tmp 0))), none⟩,
        ⟨(some 64), (.op (.nilc (.tmp 63))), none⟩,
        ⟨(some 65), (.op (.faddr 1 (.tmp 64))), none⟩,
        ⟨(some 66), (.op (.load none (.tmp 65))), none⟩,
        ⟨(some 67), (.op (.sliceSl 1 (.tmp 62) (some (.tmp 66)) none none)), none⟩,
        ⟨(some 68), (.op (.copy 1 (.tmp 58) (.tmp 67))), none⟩] [0, 1, 2, 3, 4, 5, 6, 7, 8, 9, 10, 11, 12, 13] [[], [], [], [], [], [], [], [], [], [], [], [], [], [3, 12, 7, 11]] [])
      (.seq (.region [
        ⟨(some 69), (.op (.mv (.tmp 8))), none⟩,
        ⟨(some 70), (.op (.mv (.tmp 8))), none⟩,
        ⟨(some 71), (.op (.bin .sub none (.cst (.int .i64 9223372036854775807)) (.tmp 70))), none⟩,
        ⟨(some 72), (.op (.mv (.tmp 1))), none⟩,
        ⟨(some 73), (.op (.bin .sub none (.tmp 71) (.tmp 72))), none⟩,
        ⟨(some 74), (.op (.bin .gtr none (.tmp 69) (.tmp 73))), none⟩] [])
      (.cond (.tmp 74)
        (.region [
          ⟨(some 75), (.op (.gload none 0)), none⟩,
          ⟨none, (.op .bad), none⟩] [])
        (.draw [
          ⟨(some 76), (.op (.mv (.tmp 0))), none⟩,
          ⟨(some 77), (.op (.mv (.tmp 0))), none⟩,
          ⟨(some 78), (.op (.nilc (.tmp 77))), none⟩,
          ⟨(some 79), (.op (.faddr 0 (.tmp 78))), none⟩,
          ⟨(some 80), (.op (.load none (.tmp 79))), none⟩,
          ⟨(some 81), (.op (.mv (.tmp 0))), none⟩,
          ⟨(some 82), (.op (.nilc (.tmp 81))), none⟩,
          ⟨(some 83), (.op (.faddr 1 (.tmp 82))), none⟩,
          ⟨(some 84), (.op (.load none (.tmp 83))), none⟩,
          ⟨(some 85), (.op (.sliceSl 1 (.tmp 80) (some (.tmp 84)) none none)), none⟩,
          ⟨(some 86), (.op (.mv (.tmp 0))), none⟩,
          ⟨(some 87), (.op (.nilc (.tmp 86))), none⟩,
          ⟨(some 88), (.op (.faddr 1 (.tmp 87))), none⟩,
          ⟨(some 89), (.op (.load none (.tmp 88))), none⟩,
          ⟨(some 90), (.op (.mv (.tmp 1))), none⟩,
          ⟨(some 91), (.op (.bin .add none (.tmp 89) (.tmp 90))), none⟩,
          ⟨(some 92), (.call (.cst (.func (.func 58) [] [])) [(.tmp 85), (.tmp 91)]), none⟩,
          ⟨(some 93), (.op (.nilc (.tmp 76))), none⟩,
          ⟨(some 94), (.op (.faddr 0 (.tmp 93))), none⟩,
          ⟨none, (.op (.store 1 (.tmp 94) (.tmp 92))), none⟩] [0, 1, 2, 3, 4, 5, 6, 7, 8, 9, 10, 11, 12, 13, 14, 15, 16, 17, 18, 19] [[], [], [], [], [], [], [], [], [], [], [], [], [], [], [], [], [9, 4, 8, 13], [], [], [4, 8, 9, 13]] [])))))
    (.seq (.region [
      ⟨(some 95), (.op (.mv (.tmp 0))), none⟩,
      ⟨(some 96), (.op (.nilc (.tmp 95))), none⟩,
      ⟨(some 97), (.op (.faddr 1 (.tmp 96))), none⟩,
      ⟨none, (.op (.store 1 (.tmp 97) (.cst (.int .i64 0)))), none⟩] [])
    (.seq (.region [
      ⟨(some 98), (.op (.mv (.tmp 0))), none⟩,
      ⟨(some 99), (.op (.mv (.tmp 0))), none⟩,
      ⟨(some 100), (.op (.nilc (.tmp 99))), none⟩,
      ⟨(some 101), (.op (.faddr 0 (.tmp 100))), none⟩,
      ⟨(some 102), (.op (.load none (.tmp 101))), none⟩,
      ⟨(some 103), (.op (.mv (.tmp 5))), none⟩,
      ⟨(some 104), (.op (.mv (.tmp 1))), none⟩,
      ⟨(some 105), (.op (.bin .add none (.tmp 103) (.tmp 104))), none⟩,
      ⟨(some 106), (.op (.sliceSl 1 (.tmp 102) none (some (.tmp 105)) none)), none⟩,
      ⟨(some 107), (.op (.nilc (.tmp 98))), none⟩,
      ⟨(some 108), (.op (.faddr 0 (.tmp 107))), none⟩,
      ⟨none, (.op (.store 1 (.tmp 108) (.tmp 106))), none⟩] [])
    (.seq (.region [
      ⟨(some 109), (.op (.mv (.tmp 5))), none⟩,
      ⟨(some 4), (.op (.mv (.tmp 109))), none⟩] [])
    .ret))))))))))⟩
theorem c53 : cFn Tryd.prog [] Tryd.f53 = some h53 := by kernel_rfl
/-- (*bytes.Buffer).WriteByte -/
def h54 : HFn :=
  ⟨26, [(.tmp 4)],
    (.seq (.region [
      ⟨(some 4), (.op (.mv (.cst .nilIface))), none⟩] [])
    (.seq (.region [
      ⟨(some 7), (.op (.mv (.tmp 0))), none⟩,
      ⟨(some 8), (.op (.nilc (.tmp 7))), none⟩,
      ⟨(some 9), (.op (.faddr 2 (.tmp 8))), none⟩,
      ⟨none, (.op (.store 1 (.tmp 9) (.cst (.int .i8 0)))), none⟩] [])
    (.seq (.region [
      ⟨(some 11), (.op (.mv (.tmp 0))), none⟩,
      ⟨(some 12), (.call (.cst (.func (.func 52) [] [])) [(.tmp 11), (.cst (.int .i64 1))]), none⟩,
      ⟨(some 10), (.op (.mv (.tmp 12))), none⟩,
      ⟨(some 13), (.op (.ext 0 (.tmp 10))), none⟩,
      ⟨(some 14), (.op (.ext 1 (.tmp 10))), none⟩,
      ⟨(some 5), (.op (.mv (.tmp 13))), none⟩,
      ⟨(some 6), (.op (.mv (.tmp 14))), none⟩] [])
    (.seq (.seq (.region [
      ⟨(some 15), (.op (.mv (.tmp 6))), none⟩,
      ⟨(some 16), (.op (.un .not (.tmp 15))), none⟩] [])
    (.cond (.tmp 16)
      (.region [
        ⟨(some 17), (.op (.mv (.tmp 0))), none⟩,
        ⟨(some 18), (.call (.cst (.func (.func 53) [] [])) [(.tmp 17), (.cst (.int .i64 1))]), none⟩,
        ⟨(some 5), (.op (.mv (.tmp 18))), none⟩] [])
      .skip))
    (.seq (.region [
      ⟨(some 19), (.op (.mv (.tmp 0))), none⟩,
      ⟨(some 20), (.op (.nilc (.tmp 19))), none⟩,
      ⟨(some 21), (.op (.faddr 0 (.tmp 20))), none⟩,
      ⟨(some 22), (.op (.load none (.tmp 21))), none⟩,
      ⟨(some 23), (.op (.mv (.tmp 5))), none⟩,
      ⟨(some 24), (.op (.mv (.tmp 1))), none⟩,
      ⟨(some 25), (.op (.idxS 1 (.tmp 22) (.tmp 23))), none⟩,
      ⟨none, (.op (.store 1 (.tmp 25) (.tmp 24))), none⟩] [])
    (.seq (.region [
      ⟨(some 4), (.op (.mv (.cst .nilIface))), none⟩] [])
    .ret))))))⟩
theorem c54 : cFn Tryd.prog [] Tryd.f54 = some h54 := by kernel_rfl
/-- internal/stringslite.Index -/
def h55 : HFn :=
  ⟨143, [(.tmp 4)],
    (.seq (.region [
      ⟨(some 4), (.op (.mv (.cst (.int .i64 0)))), none⟩] [])
    (.seq (.region [
      ⟨(some 14), (.op (.mv (.tmp 1))), none⟩,
      ⟨(some 15), (.op (.len .str (.tmp 14))), none⟩,
      ⟨(some 5), (.op (.mv (.tmp 15))), none⟩] [])
    (.seq (.block 0
      (.seq (.region [
        ⟨(some 17), (.op (.mv (.tmp 5))), none⟩,
        ⟨(some 18), (.op (.bin .eql (some .int) (.tmp 17) (.cst (.int .i64 0)))), none⟩,
        ⟨(some 19), (.op (.mv (.tmp 18))), none⟩,
        ⟨(some 20), (.op (.mv (.tmp 1))), (some (19, false))⟩,
        ⟨(some 21), (.op (.mv (.tmp 0))), (some (19, false))⟩,
        ⟨(some 22), (.op (.bin .eql (some .str) (.tmp 20) (.tmp 21))), (some (19, false))⟩,
        ⟨(some 23), (.op (.pick (.tmp 19) (.cst (.bool true)) (.tmp 22))), none⟩,
        ⟨(some 16), (.op (.mv (.tmp 23))), none⟩] [])
      (.cond (.tmp 16)
        (.seq (.region [
          ⟨(some 4), (.op (.mv (.cst (.int .i64 0)))), none⟩] [])
        .ret)
        (.seq (.region [
          ⟨(some 25), (.op (.mv (.tmp 5))), none⟩,
          ⟨(some 26), (.op (.bin .eql (some .int) (.tmp 25) (.cst (.int .i64 1)))), none⟩,
          ⟨(some 24), (.op (.mv (.tmp 26))), none⟩] [])
        (.cond (.tmp 24)
          (.seq (.region [
            ⟨(some 27), (.op (.mv (.tmp 0))), none⟩,
            ⟨(some 28), (.op (.mv (.tmp 1))), none⟩,
            ⟨(some 29), (.op (.idxStr (.tmp 28) (.cst (.int .i64 0)))), none⟩,
            ⟨(some 30), (.call (.cst (.func (.func 59) [] [])) [(.tmp 27), (.tmp 29)]), none⟩,
            ⟨(some 4), (.op (.mv (.tmp 30))), none⟩] [])
          .ret)
          (.seq (.region [
            ⟨(some 32), (.op (.mv (.tmp 5))), none⟩,
            ⟨(some 33), (.op (.mv (.tmp 0))), none⟩,
            ⟨(some 34), (.op (.len .str (.tmp 33))), none⟩,
            ⟨(some 35), (.op (.bin .geq none (.tmp 32) (.tmp 34))), none⟩,
            ⟨(some 31), (.op (.mv (.tmp 35))), none⟩] [])
          (.cond (.tmp 31)
            (.seq (.region [
              ⟨(some 4), (.op (.mv (.cst (.int .i64 (-1))))), none⟩] [])
            .ret)
            (.seq (.region [
              ⟨(some 37), (.op (.mv (.tmp 5))), none⟩,
              ⟨(some 38), (.op (.gload none 1)), none⟩,
              ⟨(some 39), (.op (.bin .leq none (.tmp 37) (.tmp 38))), none⟩,
              ⟨(some 40), (.op (.mv (.tmp 39))), none⟩,
              ⟨(some 41), (.op (.mv (.tmp 0))), (some (40, true))⟩,
              ⟨(some 42), (.op (.len .str (.tmp 41))), (some (40, true))⟩,
              ⟨(some 43), (.op (.bin .leq none (.tmp 42) (.cst (.int .i64 64)))), (some (40, true))⟩,
              ⟨(some 44), (.op (.pick (.tmp 40) (.tmp 43) (.cst (.bool false)))), none⟩,
              ⟨(some 36), (.op (.mv (.tmp 44))), none⟩] [])
            (.cond (.tmp 36)
              (.seq (.region [
                ⟨(some 45), (.op (.mv (.tmp 0))), none⟩,
                ⟨(some 46), (.op (.mv (.tmp 1))), none⟩,
                ⟨(some 47), (.call (.cst (.func (.func 60) [] [])) [(.tmp 45), (.tmp 46)]), none⟩,
                ⟨(some 4), (.op (.mv (.tmp 47))), none⟩] [])
              .ret)
              .skip)))))))))
    (.seq (.region [
      ⟨(some 48), (.op (.mv (.tmp 1))), none⟩,
      ⟨(some 49), (.op (.idxStr (.tmp 48) (.cst (.int .i64 0)))), none⟩,
      ⟨(some 6), (.op (.mv (.tmp 49))), none⟩] [])
    (.seq (.region [
      ⟨(some 50), (.op (.mv (.tmp 1))), none⟩,
      ⟨(some 51), (.op (.idxStr (.tmp 50) (.cst (.int .i64 1)))), none⟩,
      ⟨(some 7), (.op (.mv (.tmp 51))), none⟩] [])
    (.seq (.region [
      ⟨(some 8), (.op (.mv (.cst (.int .i64 0)))), none⟩] [])
    (.seq (.region [
      ⟨(some 52), (.op (.mv (.tmp 0))), none⟩,
      ⟨(some 53), (.op (.len .str (.tmp 52))), none⟩,
      ⟨(some 54), (.op (.mv (.tmp 5))), none⟩,
      ⟨(some 55), (.op (.bin .sub none (.tmp 53) (.tmp 54))), none⟩,
      ⟨(some 56), (.op (.bin .add none (.tmp 55) (.cst (.int .i64 1)))), none⟩,
      ⟨(some 9), (.op (.mv (.tmp 56))), none⟩] [])
    (.seq (.region [
      ⟨(some 10), (.op (.mv (.cst (.int .i64 0)))), none⟩] [])
    (.seq (.block 1
      (.loop
        (.seq (.seq (.region [
          ⟨(some 57), (.op (.mv (.tmp 8))), none⟩,
          ⟨(some 58), (.op (.mv (.tmp 9))), none⟩,
          ⟨(some 59), (.op (.bin .lss none (.tmp 57) (.tmp 58))), none⟩] [])
        (.cond (.tmp 59)
          .skip
          (.exit 1)))
        (.block 2
          (.seq (.seq (.region [
            ⟨(some 60), (.op (.mv (.tmp 0))), none⟩,
            ⟨(some 61), (.op (.mv (.tmp 8))), none⟩,
            ⟨(some 62), (.op (.idxStr (.tmp 60) (.tmp 61))), none⟩,
            ⟨(some 63), (.op (.mv (.tmp 6))), none⟩,
            ⟨(some 64), (.op (.bin .neq (some .int) (.tmp 62) (.tmp 63))), none⟩] [])
          (.cond (.tmp 64)
            (.seq (.region [
              ⟨(some 65), (.op (.mv (.tmp 0))), none⟩,
              ⟨(some 66), (.op (.mv (.tmp 8))), none⟩,
              ⟨(some 67), (.op (.bin .add none (.tmp 66) (.cst (.int .i64 1)))), none⟩,
              ⟨(some 68), (.op (.mv (.tmp 9))), none⟩,
              ⟨(some 69), (.op (.sliceStr (.tmp 65) (some (.tmp 67)) (some (.tmp 68)))), none⟩,
              ⟨(some 70), (.op (.mv (.tmp 6))), none⟩,
              ⟨(some 71), (.call (.cst (.func (.func 59) [] [])) [(.tmp 69), (.tmp 70)]), none⟩,
              ⟨(some 11), (.op (.mv (.tmp 71))), none⟩] [])
            (.seq (.seq (.region [
              ⟨(some 72), (.op (.mv (.tmp 11))), none⟩,
              ⟨(some 73), (.op (.bin .lss none (.tmp 72) (.cst (.int .i64 0)))), none⟩] [])
            (.cond (.tmp 73)
              (.seq (.region [
                ⟨(some 4), (.op (.mv (.cst (.int .i64 (-1))))), none⟩] [])
              .ret)
              .skip))
            (.region [
              ⟨(some 74), (.op (.mv (.tmp 8))), none⟩,
              ⟨(some 75), (.op (.mv (.tmp 11))), none⟩,
              ⟨(some 76), (.op (.bin .add none (.tmp 75) (.cst (.int .i64 1)))), none⟩,
              ⟨(some 77), (.op (.bin .add none (.tmp 74) (.tmp 76))), none⟩,
              ⟨(some 8), (.op (.mv (.tmp 77))), none⟩] [])))
            .skip))
          (.seq (.seq (.region [
            ⟨(some 78), (.op (.mv (.tmp 0))), none⟩,
            ⟨(some 79), (.op (.mv (.tmp 8))), none⟩,
            ⟨(some 80), (.op (.bin .add none (.tmp 79) (.cst (.int .i64 1)))), none⟩,
            ⟨(some 81), (.op (.idxStr (.tmp 78) (.tmp 80))), none⟩,
            ⟨(some 82), (.op (.mv (.tmp 7))), none⟩,
            ⟨(some 83), (.op (.bin .eql (some .int) (.tmp 81) (.tmp 82))), none⟩,
            ⟨(some 84), (.op (.mv (.tmp 83))), none⟩,
            ⟨(some 85), (.op (.mv (.tmp 0))), (some (84, true))⟩,
            ⟨(some 86), (.op (.mv (.tmp 8))), (some (84, true))⟩,
            ⟨(some 87), (.op (.mv (.tmp 8))), (some (84, true))⟩,
            ⟨(some 88), (.op (.mv (.tmp 5))), (some (84, true))⟩,
            ⟨(some 89), (.op (.bin .add none (.tmp 87) (.tmp 88))), (some (84, true))⟩,
            ⟨(some 90), (.op (.sliceStr (.tmp 85) (some (.tmp 86)) (some (.tmp 89)))), (some (84, true))⟩,
            ⟨(some 91), (.op (.mv (.tmp 1))), (some (84, true))⟩,
            ⟨(some 92), (.op (.bin .eql (some .str) (.tmp 90) (.tmp 91))), (some (84, true))⟩,
            ⟨(some 93), (.op (.pick (.tmp 84) (.tmp 92) (.cst (.bool false)))), none⟩] [])
          (.cond (.tmp 93)
            (.seq (.region [
              ⟨(some 94), (.op (.mv (.tmp 8))), none⟩,
              ⟨(some 4), (.op (.mv (.tmp 94))), none⟩] [])
            .ret)
            .skip))
          (.seq (.region [
            ⟨(some 95), (.op (.mv (.tmp 8))), none⟩,
            ⟨(some 96), (.op (.bin .add none (.tmp 95) (.cst (.int .i64 1)))), none⟩,
            ⟨(some 8), (.op (.mv (.tmp 96))), none⟩] [])
          (.seq (.region [
            ⟨(some 97), (.op (.mv (.tmp 10))), none⟩,
            ⟨(some 98), (.op (.bin .add none (.tmp 97) (.cst (.int .i64 1)))), none⟩,
            ⟨(some 10), (.op (.mv (.tmp 98))), none⟩] [])
          (.seq (.region [
            ⟨(some 99), (.op (.mv (.tmp 5))), none⟩,
            ⟨(some 100), (.op (.gload none 1)), none⟩,
            ⟨(some 101), (.op (.bin .leq none (.tmp 99) (.tmp 100))), none⟩,
            ⟨(some 102), (.op (.mv (.tmp 101))), none⟩,
            ⟨(some 103), (.op (.mv (.tmp 10))), (some (102, true))⟩,
            ⟨(some 104), (.op (.mv (.tmp 8))), (some (102, true))⟩,
            ⟨(some 105), (.call (.cst (.func (.func 61) [] [])) [(.tmp 104)]), (some (102, true))⟩,
            ⟨(some 106), (.op (.bin .gtr none (.tmp 103) (.tmp 105))), (some (102, true))⟩,
            ⟨(some 107), (.op (.pick (.tmp 102) (.tmp 106) (.cst (.bool false)))), none⟩] [])
          (.cond (.tmp 107)
            (.seq (.region [
              ⟨(some 108), (.op (.mv (.tmp 0))), none⟩,
              ⟨(some 109), (.op (.mv (.tmp 8))), none⟩,
              ⟨(some 110), (.op (.sliceStr (.tmp 108) (some (.tmp 109)) none)), none⟩,
              ⟨(some 111), (.op (.mv (.tmp 1))), none⟩,
              ⟨(some 112), (.call (.cst (.func (.func 60) [] [])) [(.tmp 110), (.tmp 111)]), none⟩,
              ⟨(some 12), (.op (.mv (.tmp 112))), none⟩] [])
            (.seq (.seq (.region [
              ⟨(some 113), (.op (.mv (.tmp 12))), none⟩,
              ⟨(some 114), (.op (.bin .geq none (.tmp 113) (.cst (.int .i64 0)))), none⟩] [])
            (.cond (.tmp 114)
              (.seq (.region [
                ⟨(some 115), (.op (.mv (.tmp 12))), none⟩,
                ⟨(some 116), (.op (.mv (.tmp 8))), none⟩,
                ⟨(some 117), (.op (.bin .add none (.tmp 115) (.tmp 116))), none⟩,
                ⟨(some 4), (.op (.mv (.tmp 117))), none⟩] [])
              .ret)
              .skip))
            (.seq (.region [
              ⟨(some 4), (.op (.mv (.cst (.int .i64 (-1))))), none⟩] [])
            .ret)))
            (.seq (.region [
              ⟨(some 118), (.op (.mv (.tmp 5))), none⟩,
              ⟨(some 119), (.op (.gload none 1)), none⟩,
              ⟨(some 120), (.op (.bin .gtr none (.tmp 118) (.tmp 119))), none⟩,
              ⟨(some 121), (.op (.mv (.tmp 120))), none⟩,
              ⟨(some 122), (.op (.mv (.tmp 10))), (some (121, true))⟩,
              ⟨(some 123), (.op (.mv (.tmp 8))), (some (121, true))⟩,
              ⟨(some 124), (.op (.bin .shr none (.tmp 123) (.cst (.int .u64 4)))), (some (121, true))⟩,
              ⟨(some 125), (.op (.bin .add none (.cst (.int .i64 4)) (.tmp 124))), (some (121, true))⟩,
              ⟨(some 126), (.op (.bin .geq none (.tmp 122) (.tmp 125))), (some (121, true))⟩,
              ⟨(some 127), (.op (.pick (.tmp 121) (.tmp 126) (.cst (.bool false)))), none⟩,
              ⟨(some 128), (.op (.mv (.tmp 127))), none⟩,
              ⟨(some 129), (.op (.mv (.tmp 8))), (some (128, true))⟩,
              ⟨(some 130), (.op (.mv (.tmp 9))), (some (128, true))⟩,
              ⟨(some 131), (.op (.bin .lss none (.tmp 129) (.tmp 130))), (some (128, true))⟩,
              ⟨(some 132), (.op (.pick (.tmp 128) (.tmp 131) (.cst (.bool false)))), none⟩] [])
            (.cond (.tmp 132)
              (.seq (.region [
                ⟨(some 133), (.op (.mv (.tmp 0))), none⟩,
                ⟨(some 134), (.op (.mv (.tmp 8))), none⟩,
                ⟨(some 135), (.op (.sliceStr (.tmp 133) (some (.tmp 134)) none)), none⟩,
                ⟨(some 136), (.op (.mv (.tmp 1))), none⟩,
                ⟨(some 137), (.call (.cst (.func (.func 62) [] [])) [(.tmp 135), (.tmp 136)]), none⟩,
                ⟨(some 13), (.op (.mv (.tmp 137))), none⟩] [])
              (.seq (.seq (.region [
                ⟨(some 138), (.op (.mv (.tmp 13))), none⟩,
                ⟨(some 139), (.op (.bin .lss none (.tmp 138) (.cst (.int .i64 0)))), none⟩] [])
              (.cond (.tmp 139)
                (.seq (.region [
                  ⟨(some 4), (.op (.mv (.cst (.int .i64 (-1))))), none⟩] [])
                .ret)
                .skip))
              (.seq (.region [
                ⟨(some 140), (.op (.mv (.tmp 8))), none⟩,
                ⟨(some 141), (.op (.mv (.tmp 13))), none⟩,
                ⟨(some 142), (.op (.bin .add none (.tmp 140) (.tmp 141))), none⟩,
                ⟨(some 4), (.op (.mv (.tmp 142))), none⟩] [])
              .ret)))
              .skip))))))))))))
    (.seq (.region [
      ⟨(some 4), (.op (.mv (.cst (.int .i64 (-1))))), none⟩] [])
    .ret))))))))))⟩
theorem c55 : cFn Tryd.prog [] Tryd.f55 = some h55 := by kernel_rfl
/-- (*bytes.Buffer).Len -/
def h56 : HFn :=
  ⟨13, [(.tmp 2)],
    (.seq (.region [
      ⟨(some 2), (.op (.mv (.cst (.int .i64 0)))), none⟩] [])
    (.seq (.draw [
      ⟨(some 3), (.op (.mv (.tmp 0))), none⟩,
      ⟨(some 4), (.op (.nilc (.tmp 3))), none⟩,
      ⟨(some 5), (.op (.faddr 0 (.tmp 4))), none⟩,
      ⟨(some 6), (.op (.load none (.tmp 5))), none⟩,
      ⟨(some 7), (.op (.len .slice (.tmp 6))), none⟩,
      ⟨(some 8), (.op (.mv (.tmp 0))), none⟩,
      ⟨(some 9), (.op (.nilc (.tmp 8))), none⟩,
      ⟨(some 10), (.op (.faddr 1 (.tmp 9))), none⟩,
      ⟨(some 11), (.op (.load none (.tmp 10))), none⟩,
      ⟨(some 12), (.op (.bin .sub none (.tmp 7) (.tmp 11))), none⟩,
      ⟨(some 2), (.op (.mv (.tmp 12))), none⟩] [0, 1, 2, 3, 4, 5, 6, 7, 8, 9, 10] [[], [], [], [], [], [], [], [], [], [], []] [])
    .ret))⟩
theorem c56 : cFn Tryd.prog [] Tryd.f56 = some h56 := by kernel_rfl
/-- (*bytes.Buffer).Reset -/
def h57 : HFn :=
  ⟨16, [],
    (.seq (.region [
      ⟨(some 2), (.op (.mv (.tmp 0))), none⟩,
      ⟨(some 3), (.op (.mv (.tmp 0))), none⟩,
      ⟨(some 4), (.op (.nilc (.tmp 3))), none⟩,
      ⟨(some 5), (.op (.faddr 0 (.tmp 4))), none⟩,
      ⟨(some 6), (.op (.load none (.tmp 5))), none⟩,
      ⟨(some 7), (.op (.sliceSl 1 (.tmp 6) none (some (.cst (.int .i64 0))) none)), none⟩,
      ⟨(some 8), (.op (.nilc (.tmp 2))), none⟩,
      ⟨(some 9), (.op (.faddr 0 (.tmp 8))), none⟩,
      ⟨none, (.op (.store 1 (.tmp 9) (.tmp 7))), none⟩] [])
    (.seq (.region [
      ⟨(some 10), (.op (.mv (.tmp 0))), none⟩,
      ⟨(some 11), (.op (.nilc (.tmp 10))), none⟩,
      ⟨(some 12), (.op (.faddr 1 (.tmp 11))), none⟩,
      ⟨none, (.op (.store 1 (.tmp 12) (.cst (.int .i64 0)))), none⟩] [])
    (.region [
      ⟨(some 13), (.op (.mv (.tmp 0))), none⟩,
      ⟨(some 14), (.op (.nilc (.tmp 13))), none⟩,
      ⟨(some 15), (.op (.faddr 2 (.tmp 14))), none⟩,
      ⟨none, (.op (.store 1 (.tmp 15) (.cst (.int .i8 0)))), none⟩] [])))⟩
theorem c57 : cFn Tryd.prog [] Tryd.f57 = some h57 := by kernel_rfl
/-- bytes.growSlice -/
def h58 : HFn :=
  ⟨28, [(.tmp 4)],
    (.seq (.region [
      ⟨(some 4), (.op (.mv (.cst .nilSlice))), none⟩] [])
    (.seq (.region [
      ⟨none, (.op .bad), none⟩] [])
    (.seq (.region [
      ⟨(some 8), (.op (.mv (.tmp 0))), none⟩,
      ⟨(some 9), (.op (.len .slice (.tmp 8))), none⟩,
      ⟨(some 10), (.op (.mv (.tmp 1))), none⟩,
      ⟨(some 11), (.op (.bin .add none (.tmp 9) (.tmp 10))), none⟩,
      ⟨(some 5), (.op (.mv (.tmp 11))), none⟩] [])
    (.seq (.seq (.region [
      ⟨(some 12), (.op (.mv (.tmp 5))), none⟩,
      ⟨(some 13), (.op (.mv (.tmp 0))), none⟩,
      ⟨(some 14), (.op (.cap (.tmp 13))), none⟩,
      ⟨(some 15), (.op (.bin .mul none (.cst (.int .i64 2)) (.tmp 14))), none⟩,
      ⟨(some 16), (.op (.bin .lss none (.tmp 12) (.tmp 15))), none⟩] [])
    (.cond (.tmp 16)
      (.region [
        ⟨(some 17), (.op (.mv (.tmp 0))), none⟩,
        ⟨(some 18), (.op (.cap (.tmp 17))), none⟩,
        ⟨(some 19), (.op (.bin .mul none (.cst (.int .i64 2)) (.tmp 18))), none⟩,
        ⟨(some 5), (.op (.mv (.tmp 19))), none⟩] [])
      .skip))
    (.seq (.region [
      ⟨(some 20), (.op (.mv (.tmp 5))), none⟩,
      ⟨(some 21), (.op .bad), none⟩,
      ⟨(some 6), (.op (.mv (.tmp 21))), none⟩] [])
    (.seq (.region [
      ⟨(some 22), (.op (.mv (.tmp 6))), none⟩,
      ⟨(some 23), (.op (.mv (.tmp 0))), none⟩,
      ⟨(some 24), (.op (.copy 1 (.tmp 22) (.tmp 23))), none⟩,
      ⟨(some 7), (.op (.mv (.tmp 24))), none⟩] [])
    (.seq (.region [
      ⟨(some 25), (.op (.mv (.tmp 6))), none⟩,
      ⟨(some 26), (.op (.mv (.tmp 7))), none⟩,
      ⟨(some 27), (.op (.sliceSl 1 (.tmp 25) none (some (.tmp 26)) none)), none⟩,
      ⟨(some 4), (.op (.mv (.tmp 27))), none⟩] [])
    .ret)))))))⟩
theorem c58 : cFn Tryd.prog [] Tryd.f58 = some h58 := by kernel_rfl
/-- internal/stringslite.IndexByte -/
def h59 : HFn :=
  ⟨8, [(.tmp 4)],
    (.seq (.region [
      ⟨(some 4), (.op (.mv (.cst (.int .i64 0)))), none⟩] [])
    (.seq (.region [
      ⟨(some 5), (.op (.mv (.tmp 0))), none⟩,
      ⟨(some 6), (.op (.mv (.tmp 1))), none⟩,
      ⟨(some 7), (.call (.cst (.func (.func 64) [] [])) [(.tmp 5), (.tmp 6)]), none⟩,
      ⟨(some 4), (.op (.mv (.tmp 7))), none⟩] [])
    .ret))⟩
theorem c59 : cFn Tryd.prog [] Tryd.f59 = some h59 := by kernel_rfl
/-- internal/bytealg.Cutover -/
def h61 : HFn :=
  ⟨6, [(.tmp 2)],
    (.seq (.region [
      ⟨(some 2), (.op (.mv (.cst (.int .i64 0)))), none⟩] [])
    (.seq (.region [
      ⟨(some 3), (.op (.mv (.tmp 0))), none⟩,
      ⟨(some 4), (.op (.bin .add none (.tmp 3) (.cst (.int .i64 16)))), none⟩,
      ⟨(some 5), (.op (.bin .quo none (.tmp 4) (.cst (.int .i64 8)))), none⟩,
      ⟨(some 2), (.op (.mv (.tmp 5))), none⟩] [])
    .ret))⟩
theorem c61 : cFn Tryd.prog [] Tryd.f61 = some h61 := by kernel_rfl
/-- internal/bytealg.IndexRabinKarp[string] -/
def h62 : HFn :=
  ⟨81, [(.tmp 4)],
    (.seq (.region [
      ⟨(some 4), (.op (.mv (.cst (.int .i64 0)))), none⟩] [])
    (.seq (.region [
      ⟨(some 12), (.op (.mv (.tmp 1))), none⟩,
      ⟨(some 13), (.call (.cst (.func (.func 65) [] [])) [(.tmp 12)]), none⟩,
      ⟨(some 11), (.op (.mv (.tmp 13))), none⟩,
      ⟨(some 14), (.op (.ext 0 (.tmp 11))), none⟩,
      ⟨(some 15), (.op (.ext 1 (.tmp 11))), none⟩,
      ⟨(some 5), (.op (.mv (.tmp 14))), none⟩,
      ⟨(some 6), (.op (.mv (.tmp 15))), none⟩] [])
    (.seq (.region [
      ⟨(some 16), (.op (.mv (.tmp 1))), none⟩,
      ⟨(some 17), (.op (.len .str (.tmp 16))), none⟩,
      ⟨(some 7), (.op (.mv (.tmp 17))), none⟩] [])
    (.seq (.region [
      ⟨(some 8), (.op (.mv (.cst (.int .u32 0)))), none⟩] [])
    (.seq (.seq (.region [
      ⟨(some 9), (.op (.mv (.cst (.int .i64 0)))), none⟩] [])
    (.block 0
      (.loop
        (.seq (.seq (.region [
          ⟨(some 18), (.op (.mv (.tmp 9))), none⟩,
          ⟨(some 19), (.op (.mv (.tmp 7))), none⟩,
          ⟨(some 20), (.op (.bin .lss none (.tmp 18) (.tmp 19))), none⟩] [])
        (.cond (.tmp 20)
          .skip
          (.exit 0)))
        (.seq (.block 1
          (.region [
            ⟨(some 23), (.op (.mv (.tmp 8))), none⟩,
            ⟨(some 24), (.op (.bin .mul none (.tmp 23) (.cst (.int .u32 16777619)))), none⟩,
            ⟨(some 25), (.op (.mv (.tmp 0))), none⟩,
            ⟨(some 26), (.op (.mv (.tmp 9))), none⟩,
            ⟨(some 27), (.op (.idxStr (.tmp 25) (.tmp 26))), none⟩,
            ⟨(some 28), (.op (.cInt .u32 (.tmp 27))), none⟩,
            ⟨(some 29), (.op (.bin .add none (.tmp 24) (.tmp 28))), none⟩,
            ⟨(some 8), (.op (.mv (.tmp 29))), none⟩] []))
        (.region [
          ⟨(some 21), (.op (.mv (.tmp 9))), none⟩,
          ⟨(some 22), (.op (.bin .add none (.tmp 21) (.cst (.int .i64 1)))), none⟩,
          ⟨(some 9), (.op (.mv (.tmp 22))), none⟩] []))))))
    (.seq (.seq (.region [
      ⟨(some 30), (.op (.mv (.tmp 8))), none⟩,
      ⟨(some 31), (.op (.mv (.tmp 5))), none⟩,
      ⟨(some 32), (.op (.bin .eql (some .int) (.tmp 30) (.tmp 31))), none⟩,
      ⟨(some 33), (.op (.mv (.tmp 32))), none⟩,
      ⟨(some 34), (.op (.mv (.tmp 0))), (some (33, true))⟩,
      ⟨(some 35), (.op (.mv (.tmp 7))), (some (33, true))⟩,
      ⟨(some 36), (.op (.sliceStr (.tmp 34) none (some (.tmp 35)))), (some (33, true))⟩,
      ⟨(some 37), (.op (.mv (.tmp 1))), (some (33, true))⟩,
      ⟨(some 38), (.op (.bin .eql (some .str) (.tmp 36) (.tmp 37))), (some (33, true))⟩,
      ⟨(some 39), (.op (.pick (.tmp 33) (.tmp 38) (.cst (.bool false)))), none⟩] [])
    (.cond (.tmp 39)
      (.seq (.region [
        ⟨(some 4), (.op (.mv (.cst (.int .i64 0)))), none⟩] [])
      .ret)
      .skip))
    (.seq (.seq (.region [
      ⟨(some 40), (.op (.mv (.tmp 7))), none⟩,
      ⟨(some 10), (.op (.mv (.tmp 40))), none⟩] [])
    (.block 2
      (.loop
        (.seq (.seq (.region [
          ⟨(some 41), (.op (.mv (.tmp 10))), none⟩,
          ⟨(some 42), (.op (.mv (.tmp 0))), none⟩,
          ⟨(some 43), (.op (.len .str (.tmp 42))), none⟩,
          ⟨(some 44), (.op (.bin .lss none (.tmp 41) (.tmp 43))), none⟩] [])
        (.cond (.tmp 44)
          .skip
          (.exit 2)))
        (.block 3
          (.seq (.region [
            ⟨(some 45), (.op (.mv (.tmp 8))), none⟩,
            ⟨(some 46), (.op (.bin .mul none (.tmp 45) (.cst (.int .u32 16777619)))), none⟩,
            ⟨(some 8), (.op (.mv (.tmp 46))), none⟩] [])
          (.seq (.region [
            ⟨(some 47), (.op (.mv (.tmp 8))), none⟩,
            ⟨(some 48), (.op (.mv (.tmp 0))), none⟩,
            ⟨(some 49), (.op (.mv (.tmp 10))), none⟩,
            ⟨(some 50), (.op (.idxStr (.tmp 48) (.tmp 49))), none⟩,
            ⟨(some 51), (.op (.cInt .u32 (.tmp 50))), none⟩,
            ⟨(some 52), (.op (.bin .add none (.tmp 47) (.tmp 51))), none⟩,
            ⟨(some 8), (.op (.mv (.tmp 52))), none⟩] [])
          (.seq (.region [
            ⟨(some 53), (.op (.mv (.tmp 8))), none⟩,
            ⟨(some 54), (.op (.mv (.tmp 6))), none⟩,
            ⟨(some 55), (.op (.mv (.tmp 0))), none⟩,
            ⟨(some 56), (.op (.mv (.tmp 10))), none⟩,
            ⟨(some 57), (.op (.mv (.tmp 7))), none⟩,
            ⟨(some 58), (.op (.bin .sub none (.tmp 56) (.tmp 57))), none⟩,
            ⟨(some 59), (.op (.idxStr (.tmp 55) (.tmp 58))), none⟩,
            ⟨(some 60), (.op (.cInt .u32 (.tmp 59))), none⟩,
            ⟨(some 61), (.op (.bin .mul none (.tmp 54) (.tmp 60))), none⟩,
            ⟨(some 62), (.op (.bin .sub none (.tmp 53) (.tmp 61))), none⟩,
            ⟨(some 8), (.op (.mv (.tmp 62))), none⟩] [])
          (.seq (.region [
            ⟨(some 63), (.op (.mv (.tmp 10))), none⟩,
            ⟨(some 64), (.op (.bin .add none (.tmp 63) (.cst (.int .i64 1)))), none⟩,
            ⟨(some 10), (.op (.mv (.tmp 64))), none⟩] [])
          (.seq (.region [
            ⟨(some 65), (.op (.mv (.tmp 8))), none⟩,
            ⟨(some 66), (.op (.mv (.tmp 5))), none⟩,
            ⟨(some 67), (.op (.bin .eql (some .int) (.tmp 65) (.tmp 66))), none⟩,
            ⟨(some 68), (.op (.mv (.tmp 67))), none⟩,
            ⟨(some 69), (.op (.mv (.tmp 0))), (some (68, true))⟩,
            ⟨(some 70), (.op (.mv (.tmp 10))), (some (68, true))⟩,
            ⟨(some 71), (.op (.mv (.tmp 7))), (some (68, true))⟩,
            ⟨(some 72), (.op (.bin .sub none (.tmp 70) (.tmp 71))), (some (68, true))⟩,
            ⟨(some 73), (.op (.mv (.tmp 10))), (some (68, true))⟩,
            ⟨(some 74), (.op (.sliceStr (.tmp 69) (some (.tmp 72)) (some (.tmp 73)))), (some (68, true))⟩,
            ⟨(some 75), (.op (.mv (.tmp 1))), (some (68, true))⟩,
            ⟨(some 76), (.op (.bin .eql (some .str) (.tmp 74) (.tmp 75))), (some (68, true))⟩,
            ⟨(some 77), (.op (.pick (.tmp 68) (.tmp 76) (.cst (.bool false)))), none⟩] [])
          (.cond (.tmp 77)
            (.seq (.region [
              ⟨(some 78), (.op (.mv (.tmp 10))), none⟩,
              ⟨(some 79), (.op (.mv (.tmp 7))), none⟩,
              ⟨(some 80), (.op (.bin .sub none (.tmp 78) (.tmp 79))), none⟩,
              ⟨(some 4), (.op (.mv (.tmp 80))), none⟩] [])
            .ret)
            .skip)))))))))))
    (.seq (.region [
      ⟨(some 4), (.op (.mv (.cst (.int .i64 (-1))))), none⟩] [])
    .ret))))))))⟩
theorem c62 : cFn Tryd.prog [] Tryd.f62 = some h62 := by kernel_rfl
/-- internal/bytealg.hashStr[string] -/
def h65 : HFn :=
  ⟨39, [(.tmp 2), (.tmp 3)],
    (.seq (.region [
      ⟨(some 2), (.op (.mv (.cst (.int .u32 0)))), none⟩,
      ⟨(some 3), (.op (.mv (.cst (.int .u32 0)))), none⟩] [])
    (.seq (.region [
      ⟨(some 4), (.op (.mv (.cst (.int .u32 0)))), none⟩] [])
    (.seq (.seq (.region [
      ⟨(some 5), (.op (.mv (.cst (.int .i64 0)))), none⟩] [])
    (.block 0
      (.loop
        (.seq (.seq (.region [
          ⟨(some 9), (.op (.mv (.tmp 5))), none⟩,
          ⟨(some 10), (.op (.mv (.tmp 0))), none⟩,
          ⟨(some 11), (.op (.len .str (.tmp 10))), none⟩,
          ⟨(some 12), (.op (.bin .lss none (.tmp 9) (.tmp 11))), none⟩] [])
        (.cond (.tmp 12)
          .skip
          (.exit 0)))
        (.seq (.block 1
          (.region [
            ⟨(some 15), (.op (.mv (.tmp 4))), none⟩,
            ⟨(some 16), (.op (.bin .mul none (.tmp 15) (.cst (.int .u32 16777619)))), none⟩,
            ⟨(some 17), (.op (.mv (.tmp 0))), none⟩,
            ⟨(some 18), (.op (.mv (.tmp 5))), none⟩,
            ⟨(some 19), (.op (.idxStr (.tmp 17) (.tmp 18))), none⟩,
            ⟨(some 20), (.op (.cInt .u32 (.tmp 19))), none⟩,
            ⟨(some 21), (.op (.bin .add none (.tmp 16) (.tmp 20))), none⟩,
            ⟨(some 4), (.op (.mv (.tmp 21))), none⟩] []))
        (.region [
          ⟨(some 13), (.op (.mv (.tmp 5))), none⟩,
          ⟨(some 14), (.op (.bin .add none (.tmp 13) (.cst (.int .i64 1)))), none⟩,
          ⟨(some 5), (.op (.mv (.tmp 14))), none⟩] []))))))
    (.seq (.region [
      ⟨(some 6), (.op (.mv (.cst (.int .u32 1)))), none⟩,
      ⟨(some 7), (.op (.mv (.cst (.int .u32 16777619)))), none⟩] [])
    (.seq (.seq (.region [
      ⟨(some 22), (.op (.mv (.tmp 0))), none⟩,
      ⟨(some 23), (.op (.len .str (.tmp 22))), none⟩,
      ⟨(some 8), (.op (.mv (.tmp 23))), none⟩] [])
    (.block 2
      (.loop
        (.seq (.seq (.region [
          ⟨(some 24), (.op (.mv (.tmp 8))), none⟩,
          ⟨(some 25), (.op (.bin .gtr none (.tmp 24) (.cst (.int .i64 0)))), none⟩] [])
        (.cond (.tmp 25)
          .skip
          (.exit 2)))
        (.seq (.block 3
          (.seq (.seq (.region [
            ⟨(some 28), (.op (.mv (.tmp 8))), none⟩,
            ⟨(some 29), (.op (.bin .and none (.tmp 28) (.cst (.int .i64 1)))), none⟩,
            ⟨(some 30), (.op (.bin .neq (some .int) (.tmp 29) (.cst (.int .i64 0)))), none⟩] [])
          (.cond (.tmp 30)
            (.region [
              ⟨(some 31), (.op (.mv (.tmp 6))), none⟩,
              ⟨(some 32), (.op (.mv (.tmp 7))), none⟩,
              ⟨(some 33), (.op (.bin .mul none (.tmp 31) (.tmp 32))), none⟩,
              ⟨(some 6), (.op (.mv (.tmp 33))), none⟩] [])
            .skip))
          (.region [
            ⟨(some 34), (.op (.mv (.tmp 7))), none⟩,
            ⟨(some 35), (.op (.mv (.tmp 7))), none⟩,
            ⟨(some 36), (.op (.bin .mul none (.tmp 34) (.tmp 35))), none⟩,
            ⟨(some 7), (.op (.mv (.tmp 36))), none⟩] [])))
        (.region [
          ⟨(some 26), (.op (.mv (.tmp 8))), none⟩,
          ⟨(some 27), (.op (.bin .shr none (.tmp 26) (.cst (.int .u64 1)))), none⟩,
          ⟨(some 8), (.op (.mv (.tmp 27))), none⟩] []))))))
    (.seq (.region [
      ⟨(some 37), (.op (.mv (.tmp 4))), none⟩,
      ⟨(some 38), (.op (.mv (.tmp 6))), none⟩,
      ⟨(some 2), (.op (.mv (.tmp 37))), none⟩,
      ⟨(some 3), (.op (.mv (.tmp 38))), none⟩] [])
    .ret))))))⟩
theorem c65 : cFn Tryd.prog [] Tryd.f65 = some h65 := by kernel_rfl
def F : FuncId → Option HFn
  | 7 => some h7
  | 9 => some h9
  | 15 => some h15
  | 21 => some h21
  | 27 => some h27
  | 29 => some h29
  | 34 => some h34
  | 35 => some h35
  | 36 => some h36
  | 37 => some h37
  | 40 => some h40
  | 41 => some h41
  | 42 => some h42
  | 46 => some h46
  | 47 => some h47
  | 48 => some h48
  | 49 => some h49
  | 50 => some h50
  | 51 => some h51
  | 52 => some h52
  | 53 => some h53
  | 54 => some h54
  | 55 => some h55
  | 56 => some h56
  | 57 => some h57
  | 58 => some h58
  | 59 => some h59
  | 61 => some h61
  | 62 => some h62
  | 65 => some h65
  | _ => none
theorem F_ok : FOk Tryd.prog F := by
  intro f hf h
  unfold F at h
  split at h
  · simp at h; subst h; exact ⟨_, [], Tryd.func7, c7⟩
  · simp at h; subst h; exact ⟨_, [], Tryd.func9, c9⟩
  · simp at h; subst h; exact ⟨_, [], Tryd.func15, c15⟩
  · simp at h; subst h; exact ⟨_, [], Tryd.func21, c21⟩
  · simp at h; subst h; exact ⟨_, [], Tryd.func27, c27⟩
  · simp at h; subst h; exact ⟨_, [], Tryd.func29, c29⟩
  · simp at h; subst h; exact ⟨_, [], Tryd.func34, c34⟩
  · simp at h; subst h; exact ⟨_, [], Tryd.func35, c35⟩
  · simp at h; subst h; exact ⟨_, [], Tryd.func36, c36⟩
  · simp at h; subst h; exact ⟨_, [], Tryd.func37, c37⟩
  · simp at h; subst h; exact ⟨_, [], Tryd.func40, c40⟩
  · simp at h; subst h; exact ⟨_, [], Tryd.func41, c41⟩
  · simp at h; subst h; exact ⟨_, [], Tryd.func42, c42⟩
  · simp at h; subst h; exact ⟨_, [], Tryd.func46, c46⟩
  · simp at h; subst h; exact ⟨_, [], Tryd.func47, c47⟩
  · simp at h; subst h; exact ⟨_, [], Tryd.func48, c48⟩
  · simp at h; subst h; exact ⟨_, [], Tryd.func49, c49⟩
  · simp at h; subst h; exact ⟨_, [], Tryd.func50, c50⟩
  · simp at h; subst h; exact ⟨_, [], Tryd.func51, c51⟩
  · simp at h; subst h; exact ⟨_, [], Tryd.func52, c52⟩
  · simp at h; subst h; exact ⟨_, [], Tryd.func53, c53⟩
  · simp at h; subst h; exact ⟨_, [], Tryd.func54, c54⟩
  · simp at h; subst h; exact ⟨_, [], Tryd.func55, c55⟩
  · simp at h; subst h; exact ⟨_, [], Tryd.func56, c56⟩
  · simp at h; subst h; exact ⟨_, [], Tryd.func57, c57⟩
  · simp at h; subst h; exact ⟨_, [], Tryd.func58, c58⟩
  · simp at h; subst h; exact ⟨_, [], Tryd.func59, c59⟩
  · simp at h; subst h; exact ⟨_, [], Tryd.func61, c61⟩
  · simp at h; subst h; exact ⟨_, [], Tryd.func62, c62⟩
  · simp at h; subst h; exact ⟨_, [], Tryd.func65, c65⟩
  · simp at h
end Go.Proofs.YteedmbmgemiheaaDoor
