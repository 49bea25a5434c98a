import Derived.Test.YteedidafobfijaaDoorHLFun
import Derived.Test.YteedidafobfijaaDoorProg
import Derived.KernelRfl
/- The functions, turned (written by program, each checked by the kernel). -/
namespace Go.Proofs.YteedidafobfijaaDoor.P2
open Go Go.HL
/-- stint/stintlaw01.DigitsParses -/
def h3 : HFn :=
  ⟨34, [(.tmp 4)],
    (.seq (.region [
      ⟨(some 4), (.op (.mv (.cst (.bool false)))), none⟩] [])
    (.seq (.region [
      ⟨(some 10), (.call (.cst (.func (.func 10) [] [])) []), none⟩,
      ⟨(some 5), (.op (.mv (.tmp 10))), none⟩] [])
    (.seq (.region [
      ⟨(some 12), (.op (.mv (.tmp 0))), none⟩,
      ⟨(some 13), (.op (.mv (.tmp 1))), none⟩,
      ⟨(some 14), (.call (.cst (.func (.func 11) [] [])) [(.tmp 12), (.tmp 13)]), none⟩,
      ⟨(some 11), (.op (.mv (.tmp 14))), none⟩,
      ⟨(some 15), (.op (.ext 0 (.tmp 11))), none⟩,
      ⟨(some 16), (.op (.ext 1 (.tmp 11))), none⟩,
      ⟨(some 6), (.op (.mv (.tmp 15))), none⟩,
      ⟨(some 7), (.op (.mv (.tmp 16))), none⟩] [])
    (.seq (.region [
      ⟨(some 18), (.op (.mv (.tmp 0))), none⟩,
      ⟨(some 19), (.op (.mv (.tmp 1))), none⟩,
      ⟨(some 20), (.call (.cst (.func (.func 12) [] [])) [(.tmp 18), (.tmp 19)]), none⟩,
      ⟨(some 17), (.op (.mv (.tmp 20))), none⟩,
      ⟨(some 21), (.op (.ext 0 (.tmp 17))), none⟩,
      ⟨(some 22), (.op (.ext 1 (.tmp 17))), none⟩,
      ⟨(some 8), (.op (.mv (.tmp 21))), none⟩,
      ⟨(some 9), (.op (.mv (.tmp 22))), none⟩] [])
    (.seq (.region [
      ⟨(some 23), (.op (.mv (.tmp 5))), none⟩,
      ⟨(some 24), (.op (.mv (.tmp 23))), none⟩,
      ⟨(some 25), (.op (.mv (.tmp 6))), (some (24, true))⟩,
      ⟨(some 26), (.op (.mv (.tmp 8))), (some (24, true))⟩,
      ⟨(some 27), (.op (.bin .eql (some .int) (.tmp 25) (.tmp 26))), (some (24, true))⟩,
      ⟨(some 28), (.op (.pick (.tmp 24) (.tmp 27) (.cst (.bool false)))), none⟩,
      ⟨(some 29), (.op (.mv (.tmp 28))), none⟩,
      ⟨(some 30), (.op (.mv (.tmp 7))), (some (29, true))⟩,
      ⟨(some 31), (.op (.mv (.tmp 9))), (some (29, true))⟩,
      ⟨(some 32), (.op (.bin .eql (some .bool) (.tmp 30) (.tmp 31))), (some (29, true))⟩,
      ⟨(some 33), (.op (.pick (.tmp 29) (.tmp 32) (.cst (.bool false)))), none⟩,
      ⟨(some 4), (.op (.mv (.tmp 33))), none⟩] [])
    .ret)))))⟩
theorem c3 : cFn Tryd.prog [] Tryd.f3 = some h3 := by kernel_rfl
/-- stint/digits.Parse -/
def h11 : HFn :=
  ⟨47, [(.tmp 4), (.tmp 5)],
    (.seq (.region [
      ⟨(some 4), (.op (.mv (.cst (.int .i64 0)))), none⟩,
      ⟨(some 5), (.op (.mv (.cst (.bool false)))), none⟩] [])
    (.seq (.seq (.region [
      ⟨(some 10), (.op (.mv (.tmp 0))), none⟩,
      ⟨(some 11), (.op (.bin .eql (some .str) (.tmp 10) (.cst (.str [])))), none⟩,
      ⟨(some 12), (.op (.mv (.tmp 11))), none⟩,
      ⟨(some 13), (.op (.mv (.tmp 1))), (some (12, false))⟩,
      ⟨(some 14), (.op (.bin .lss none (.tmp 13) (.cst (.int .i64 0)))), (some (12, false))⟩,
      ⟨(some 15), (.op (.pick (.tmp 12) (.cst (.bool true)) (.tmp 14))), none⟩] [])
    (.cond (.tmp 15)
      (.seq (.region [
        ⟨(some 4), (.op (.mv (.cst (.int .i64 0)))), none⟩,
        ⟨(some 5), (.op (.mv (.cst (.bool false)))), none⟩] [])
      .ret)
      .skip))
    (.seq (.region [
      ⟨(some 6), (.op (.mv (.cst (.int .i64 0)))), none⟩] [])
    (.seq (.seq (.region [
      ⟨(some 16), (.op (.mv (.tmp 0))), none⟩,
      ⟨(some 17), (.op (.rangeStr (.tmp 16))), none⟩] [])
    (.block 0
      (.loop
        (.seq (.region [
          ⟨(some 18), (.op (.nextStr (.tmp 17))), none⟩,
          ⟨(some 19), (.op (.ext 0 (.tmp 18))), none⟩] [])
        (.seq (.cond (.tmp 19)
          .skip
          (.exit 0))
        (.block 1
          (.seq (.region [
            ⟨(some 20), (.op (.ext 2 (.tmp 18))), none⟩,
            ⟨(some 8), (.op (.mv (.tmp 20))), none⟩] [])
          (.seq (.seq (.region [
            ⟨(some 21), (.op (.mv (.tmp 8))), none⟩,
            ⟨(some 22), (.op (.bin .lss none (.tmp 21) (.cst (.int .i32 48)))), none⟩,
            ⟨(some 23), (.op (.mv (.tmp 22))), none⟩,
            ⟨(some 24), (.op (.mv (.tmp 8))), (some (23, false))⟩,
            ⟨(some 25), (.op (.bin .gtr none (.tmp 24) (.cst (.int .i32 57)))), (some (23, false))⟩,
            ⟨(some 26), (.op (.pick (.tmp 23) (.cst (.bool true)) (.tmp 25))), none⟩] [])
          (.cond (.tmp 26)
            (.seq (.region [
              ⟨(some 4), (.op (.mv (.cst (.int .i64 0)))), none⟩,
              ⟨(some 5), (.op (.mv (.cst (.bool false)))), none⟩] [])
            .ret)
            .skip))
          (.seq (.region [
            ⟨(some 27), (.op (.mv (.tmp 8))), none⟩,
            ⟨(some 28), (.op (.bin .sub none (.tmp 27) (.cst (.int .i32 48)))), none⟩,
            ⟨(some 29), (.op (.cInt .i64 (.tmp 28))), none⟩,
            ⟨(some 9), (.op (.mv (.tmp 29))), none⟩] [])
          (.seq (.seq (.region [
            ⟨(some 30), (.op (.mv (.tmp 6))), none⟩,
            ⟨(some 31), (.op (.mv (.tmp 1))), none⟩,
            ⟨(some 32), (.op (.bin .quo none (.tmp 31) (.cst (.int .i64 10)))), none⟩,
            ⟨(some 33), (.op (.bin .gtr none (.tmp 30) (.tmp 32))), none⟩,
            ⟨(some 34), (.op (.mv (.tmp 33))), none⟩,
            ⟨(some 35), (.op (.mv (.tmp 6))), (some (34, false))⟩,
            ⟨(some 36), (.op (.bin .mul none (.tmp 35) (.cst (.int .i64 10)))), (some (34, false))⟩,
            ⟨(some 37), (.op (.mv (.tmp 1))), (some (34, false))⟩,
            ⟨(some 38), (.op (.mv (.tmp 9))), (some (34, false))⟩,
            ⟨(some 39), (.op (.bin .sub none (.tmp 37) (.tmp 38))), (some (34, false))⟩,
            ⟨(some 40), (.op (.bin .gtr none (.tmp 36) (.tmp 39))), (some (34, false))⟩,
            ⟨(some 41), (.op (.pick (.tmp 34) (.cst (.bool true)) (.tmp 40))), none⟩] [])
          (.cond (.tmp 41)
            (.seq (.region [
              ⟨(some 4), (.op (.mv (.cst (.int .i64 0)))), none⟩,
              ⟨(some 5), (.op (.mv (.cst (.bool false)))), none⟩] [])
            .ret)
            .skip))
          (.region [
            ⟨(some 42), (.op (.mv (.tmp 6))), none⟩,
            ⟨(some 43), (.op (.bin .mul none (.tmp 42) (.cst (.int .i64 10)))), none⟩,
            ⟨(some 44), (.op (.mv (.tmp 9))), none⟩,
            ⟨(some 45), (.op (.bin .add none (.tmp 43) (.tmp 44))), none⟩,
            ⟨(some 6), (.op (.mv (.tmp 45))), none⟩] [])))))))))))
    (.seq (.region [
      ⟨(some 46), (.op (.mv (.tmp 6))), none⟩,
      ⟨(some 4), (.op (.mv (.tmp 46))), none⟩,
      ⟨(some 5), (.op (.mv (.cst (.bool true)))), none⟩] [])
    .ret)))))⟩
theorem c11 : cFn Tryd.prog [] Tryd.f11 = some h11 := by kernel_rfl
/-- stint/stintref01.Parse -/
def h12 : HFn :=
  ⟨53, [(.tmp 4), (.tmp 5)],
    (.seq (.region [
      ⟨(some 4), (.op (.mv (.cst (.int .i64 0)))), none⟩,
      ⟨(some 5), (.op (.mv (.cst (.bool false)))), none⟩] [])
    (.seq (.seq (.region [
      ⟨(some 9), (.op (.mv (.tmp 0))), none⟩,
      ⟨(some 10), (.op (.len .str (.tmp 9))), none⟩,
      ⟨(some 11), (.op (.bin .eql (some .int) (.tmp 10) (.cst (.int .i64 0)))), none⟩,
      ⟨(some 12), (.op (.mv (.tmp 11))), none⟩,
      ⟨(some 13), (.op (.mv (.tmp 1))), (some (12, false))⟩,
      ⟨(some 14), (.op (.bin .lss none (.tmp 13) (.cst (.int .i64 0)))), (some (12, false))⟩,
      ⟨(some 15), (.op (.pick (.tmp 12) (.cst (.bool true)) (.tmp 14))), none⟩] [])
    (.cond (.tmp 15)
      (.seq (.region [
        ⟨(some 4), (.op (.mv (.cst (.int .i64 0)))), none⟩,
        ⟨(some 5), (.op (.mv (.cst (.bool false)))), none⟩] [])
      .ret)
      .skip))
    (.seq (.region [
      ⟨(some 6), (.op (.mv (.cst (.int .i64 0)))), none⟩] [])
    (.seq (.seq (.region [
      ⟨(some 7), (.op (.mv (.cst (.int .i64 0)))), none⟩] [])
    (.block 0
      (.loop
        (.seq (.seq (.region [
          ⟨(some 16), (.op (.mv (.tmp 7))), none⟩,
          ⟨(some 17), (.op (.mv (.tmp 0))), none⟩,
          ⟨(some 18), (.op (.len .str (.tmp 17))), none⟩,
          ⟨(some 19), (.op (.bin .lss none (.tmp 16) (.tmp 18))), none⟩] [])
        (.cond (.tmp 19)
          .skip
          (.exit 0)))
        (.seq (.block 1
          (.seq (.seq (.region [
            ⟨(some 22), (.op (.mv (.tmp 0))), none⟩,
            ⟨(some 23), (.op (.mv (.tmp 7))), none⟩,
            ⟨(some 24), (.op (.idxStr (.tmp 22) (.tmp 23))), none⟩,
            ⟨(some 25), (.op (.bin .lss none (.tmp 24) (.cst (.int .u8 48)))), none⟩,
            ⟨(some 26), (.op (.mv (.tmp 25))), none⟩,
            ⟨(some 27), (.op (.mv (.tmp 0))), (some (26, false))⟩,
            ⟨(some 28), (.op (.mv (.tmp 7))), (some (26, false))⟩,
            ⟨(some 29), (.op (.idxStr (.tmp 27) (.tmp 28))), (some (26, false))⟩,
            ⟨(some 30), (.op (.bin .gtr none (.tmp 29) (.cst (.int .u8 57)))), (some (26, false))⟩,
            ⟨(some 31), (.op (.pick (.tmp 26) (.cst (.bool true)) (.tmp 30))), none⟩] [])
          (.cond (.tmp 31)
            (.seq (.region [
              ⟨(some 4), (.op (.mv (.cst (.int .i64 0)))), none⟩,
              ⟨(some 5), (.op (.mv (.cst (.bool false)))), none⟩] [])
            .ret)
            .skip))
          (.seq (.region [
            ⟨(some 32), (.op (.mv (.tmp 0))), none⟩,
            ⟨(some 33), (.op (.mv (.tmp 7))), none⟩,
            ⟨(some 34), (.op (.idxStr (.tmp 32) (.tmp 33))), none⟩,
            ⟨(some 35), (.op (.bin .sub none (.tmp 34) (.cst (.int .u8 48)))), none⟩,
            ⟨(some 36), (.op (.cInt .i64 (.tmp 35))), none⟩,
            ⟨(some 8), (.op (.mv (.tmp 36))), none⟩] [])
          (.seq (.seq (.region [
            ⟨(some 37), (.op (.mv (.tmp 8))), none⟩,
            ⟨(some 38), (.op (.mv (.tmp 1))), none⟩,
            ⟨(some 39), (.op (.bin .gtr none (.tmp 37) (.tmp 38))), none⟩,
            ⟨(some 40), (.op (.mv (.tmp 39))), none⟩,
            ⟨(some 41), (.op (.mv (.tmp 6))), (some (40, false))⟩,
            ⟨(some 42), (.op (.mv (.tmp 1))), (some (40, false))⟩,
            ⟨(some 43), (.op (.mv (.tmp 8))), (some (40, false))⟩,
            ⟨(some 44), (.op (.bin .sub none (.tmp 42) (.tmp 43))), (some (40, false))⟩,
            ⟨(some 45), (.op (.bin .quo none (.tmp 44) (.cst (.int .i64 10)))), (some (40, false))⟩,
            ⟨(some 46), (.op (.bin .gtr none (.tmp 41) (.tmp 45))), (some (40, false))⟩,
            ⟨(some 47), (.op (.pick (.tmp 40) (.cst (.bool true)) (.tmp 46))), none⟩] [])
          (.cond (.tmp 47)
            (.seq (.region [
              ⟨(some 4), (.op (.mv (.cst (.int .i64 0)))), none⟩,
              ⟨(some 5), (.op (.mv (.cst (.bool false)))), none⟩] [])
            .ret)
            .skip))
          (.region [
            ⟨(some 48), (.op (.mv (.tmp 6))), none⟩,
            ⟨(some 49), (.op (.bin .mul none (.cst (.int .i64 10)) (.tmp 48))), none⟩,
            ⟨(some 50), (.op (.mv (.tmp 8))), none⟩,
            ⟨(some 51), (.op (.bin .add none (.tmp 49) (.tmp 50))), none⟩,
            ⟨(some 6), (.op (.mv (.tmp 51))), none⟩] [])))))
        (.region [
          ⟨(some 20), (.op (.mv (.tmp 7))), none⟩,
          ⟨(some 21), (.op (.bin .add none (.tmp 20) (.cst (.int .i64 1)))), none⟩,
          ⟨(some 7), (.op (.mv (.tmp 21))), none⟩] []))))))
    (.seq (.region [
      ⟨(some 52), (.op (.mv (.tmp 6))), none⟩,
      ⟨(some 4), (.op (.mv (.tmp 52))), none⟩,
      ⟨(some 5), (.op (.mv (.cst (.bool true)))), none⟩] [])
    .ret)))))⟩
theorem c12 : cFn Tryd.prog [] Tryd.f12 = some h12 := by kernel_rfl
def F : FuncId → Option HFn
  | 3 => some h3
  | 11 => some h11
  | 12 => some h12
  | _ => none
theorem F_ok : FOk Tryd.prog F := by
  intro f hf h
  unfold F at h
  split at h
  · simp at h; subst h; exact ⟨_, [], Tryd.func3, c3⟩
  · simp at h; subst h; exact ⟨_, [], Tryd.func11, c11⟩
  · simp at h; subst h; exact ⟨_, [], Tryd.func12, c12⟩
  · simp at h
end Go.Proofs.YteedidafobfijaaDoor.P2
