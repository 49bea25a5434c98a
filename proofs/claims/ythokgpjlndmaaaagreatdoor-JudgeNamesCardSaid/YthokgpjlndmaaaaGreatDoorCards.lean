/-
  DERIVED. GIVEN WITH THE SEED: THE CARDS: each row of YthokgpjlndmaaaaGreatDoorRows.lean that lists a variable, with what it lists TIED to the program's text (the seventh form; the later family's looks); each row that meets fmt, with fmt's text TOLD by the authors' own Lean function (tested against real Go, not proved from fmt's source: count such statements apart). THE CARD IS WHAT COUNTS. Prove the row's statement (the work); the ties are given (YthokgpjlndmaaaaGreatDoorTie.lean); close each card by the builder's one call (the guide's Derived/Test/ToyasCard.lean, 'card_holds'). Laid BY PROGRAM, IN A SANDBOX (cutbox-door.mjs). By AI agents, Wed Nov 11 2026. No macro, syntax, notation, axiom, sorry.
-/
import Derived.Test.YthokgpjlndmaaaaGreatDoorRows
import GoSem.ClaimSeven
namespace Go.Proofs.YthokgpjlndmaaaaGreatDoor
namespace Rows

/-- THE TIED CARD OF 'stintlaw21.JudgeGrows'. -/
def judgeGrowsCard : Claim7 := { stood := { row := judgeGrowsRow, standIns := [], harness := (true, "a8d13323daa4fa63dc4c449a66edee94f8add3b83bf279143e4f9c9d61f4639c"), looks := true }, kinds := [], alts := [], laidByText := true, laidKinds := [.data, .pinned], laidTests := true, laidLooks := .later }
def JudgeGrowsCardSaid : Prop := Claim7.holds Tryz.pinned (.plain (OpenSpec.ofChange judgeGrowsSpec)) judgeGrowsCard

/-- THE TIED CARD OF 'stintlaw21.JudgeNames'. -/
def judgeNamesCard : Claim7 := { stood := { row := judgeNamesRow, standIns := [], harness := (true, "a8d13323daa4fa63dc4c449a66edee94f8add3b83bf279143e4f9c9d61f4639c"), looks := true }, kinds := [], alts := [], laidByText := true, laidKinds := [.data, .pinned], laidTests := true, laidLooks := .later }
def JudgeNamesCardSaid : Prop := Claim7.holds Tryz.pinned (.plain (OpenSpec.ofChange judgeNamesSpec)) judgeNamesCard

/-- THE SECOND FORM's CARD OF 'stintlaw21.JudgeGrows'. -/
def judgeGrowsUptoCard : Claim7 := { stood := { row := judgeGrowsUptoRow, standIns := [], harness := (true, "a8d13323daa4fa63dc4c449a66edee94f8add3b83bf279143e4f9c9d61f4639c"), looks := true }, kinds := [], alts := [], laidByText := true, laidKinds := [.data, .pinned], laidTests := true, laidLooks := .later }
def JudgeGrowsUptoCardSaid : Prop := Claim7.holds Tryz.pinned (.plain (OpenSpec.upto judgeGrowsSpec)) judgeGrowsUptoCard

/-- THE SECOND FORM's CARD OF 'stintlaw21.JudgeNames'. -/
def judgeNamesUptoCard : Claim7 := { stood := { row := judgeNamesUptoRow, standIns := [], harness := (true, "a8d13323daa4fa63dc4c449a66edee94f8add3b83bf279143e4f9c9d61f4639c"), looks := true }, kinds := [], alts := [], laidByText := true, laidKinds := [.data, .pinned], laidTests := true, laidLooks := .later }
def JudgeNamesUptoCardSaid : Prop := Claim7.holds Tryz.pinned (.plain (OpenSpec.upto judgeNamesSpec)) judgeNamesUptoCard
end Rows
end Go.Proofs.YthokgpjlndmaaaaGreatDoor
