import Derived.Test.YtalcaflkfpiehaaF2
/- Ranges over functions: what is assigned, what is done (written by program, each checked by the kernel). -/
namespace Go.Proofs.Ytalcaflkfpiehaa
open Go Go.HL
namespace P2
/-- stint/stintlaw05.NamesLate -/
def h7a0 : HCode :=
    (.seq (.region [
      ⟨(some 11), (.op (.mv (.tmp 72))), none⟩] [])
    (.region [
      ⟨(some 12), (.op (.mv (.tmp 73))), none⟩] []))
theorem c7a0 : cCode Try.prog [] (rfA Try.f7 0) = some h7a0 := by kernel_rfl
/-- stint/stintlaw05.NamesLate -/
def h7b0 : HCode :=
    (.block 5
      (.seq (.seq (.region [
        ⟨(some 74), (.op (.load none (.tmp 10))), none⟩,
        ⟨(some 75), (.op (.load none (.tmp 9))), none⟩,
        ⟨(some 76), (.op (.len .slice (.tmp 75))), none⟩,
        ⟨(some 77), (.op (.bin .geq none (.tmp 74) (.tmp 76))), none⟩,
        ⟨(some 78), (.op (.mv (.tmp 77))), none⟩,
        ⟨(some 79), (.op (.mv (.tmp 11))), (some (78, false))⟩,
        ⟨(some 80), (.op (.load none (.tmp 9))), (some (78, false))⟩,
        ⟨(some 81), (.op (.load none (.tmp 10))), (some (78, false))⟩,
        ⟨(some 82), (.op (.idxS 2 (.tmp 80) (.tmp 81))), (some (78, false))⟩,
        ⟨(some 83), (.op (.faddr 0 (.tmp 82))), (some (78, false))⟩,
        ⟨(some 84), (.op (.load none (.tmp 83))), (some (78, false))⟩,
        ⟨(some 85), (.op (.bin .neq (some .str) (.tmp 79) (.tmp 84))), (some (78, false))⟩,
        ⟨(some 86), (.op (.pick (.tmp 78) (.cst (.bool true)) (.tmp 85))), none⟩,
        ⟨(some 87), (.op (.mv (.tmp 86))), none⟩,
        ⟨(some 88), (.op (.mv (.tmp 12))), (some (87, false))⟩,
        ⟨(some 89), (.op (.load none (.tmp 9))), (some (87, false))⟩,
        ⟨(some 90), (.op (.load none (.tmp 10))), (some (87, false))⟩,
        ⟨(some 91), (.op (.idxS 2 (.tmp 89) (.tmp 90))), (some (87, false))⟩,
        ⟨(some 92), (.op (.faddr 1 (.tmp 91))), (some (87, false))⟩,
        ⟨(some 93), (.op (.load none (.tmp 92))), (some (87, false))⟩,
        ⟨(some 94), (.op (.bin .neq (some .int) (.tmp 88) (.tmp 93))), (some (87, false))⟩,
        ⟨(some 95), (.op (.pick (.tmp 87) (.cst (.bool true)) (.tmp 94))), none⟩] [])
      (.cond (.tmp 95)
        (.seq (.region [
          ⟨none, (.op (.store 1 (.tmp 4) (.cst (.bool false)))), none⟩] [])
        .ret)
        .skip))
      (.region [
        ⟨(some 96), (.op (.load none (.tmp 10))), none⟩,
        ⟨(some 97), (.op (.bin .add none (.tmp 96) (.cst (.int .i64 1)))), none⟩,
        ⟨none, (.op (.store 1 (.tmp 10) (.tmp 97))), none⟩] [])))
theorem c7b0 : cCode Try.prog [] (rfB Try.f7 0) = some h7b0 := by kernel_rfl
end P2
end Go.Proofs.Ytalcaflkfpiehaa
