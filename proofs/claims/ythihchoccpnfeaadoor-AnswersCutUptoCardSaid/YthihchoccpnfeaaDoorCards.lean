/-
  DERIVED. GIVEN WITH THE SEED: THE CARDS: each row of YthihchoccpnfeaaDoorRows.lean that lists a variable, with what it lists TIED to the program's text (the seventh form; the later family's looks); each row that meets fmt, with fmt's text TOLD by the authors' own Lean function (tested against real Go, not proved from fmt's source: count such statements apart). THE CARD IS WHAT COUNTS. Prove the row's statement (the work); the ties are given (YthihchoccpnfeaaDoorTie.lean); close each card by the builder's one call (the guide's Derived/Test/ToyasCard.lean, 'card_holds'). Laid BY PROGRAM, IN A SANDBOX (cutbox-door.mjs). By AI agents, Wed Nov 11 2026. No macro, syntax, notation, axiom, sorry.
-/
import Derived.Test.YthihchoccpnfeaaDoorRows
import GoSem.ClaimSeven
namespace Go.Proofs.YthihchoccpnfeaaDoor
namespace Rows

/-- THE TIED CARD OF 'stintlaw08.AnswersWrite'. -/
def answersWriteCard : Claim7 := { stood := { row := answersWriteRow, standIns := [], harness := (true, "3be225ab453c6466d7f63442660e50a7e36c9de0142be2d08a6cdb186564816d"), looks := false }, kinds := [], alts := [], laidByText := true, laidKinds := [.data, .data, .data], laidTests := true, laidLooks := .later }
def AnswersWriteCardSaid : Prop := Claim7.holds Tryd.pinned (.plain (OpenSpec.ofChange answersWriteSpec)) answersWriteCard

/-- THE TIED CARD OF 'stintlaw08.AnswersBack'. -/
def answersBackCard : Claim7 := { stood := { row := answersBackRow, standIns := [], harness := (true, "3be225ab453c6466d7f63442660e50a7e36c9de0142be2d08a6cdb186564816d"), looks := false }, kinds := [], alts := [], laidByText := true, laidKinds := [.data, .data, .data], laidTests := true, laidLooks := .later }
def AnswersBackCardSaid : Prop := Claim7.holds Tryd.pinned (.plain (OpenSpec.ofChange answersBackSpec)) answersBackCard

/-- THE TIED CARD OF 'stintlaw08.AnswersCut'. -/
def answersCutCard : Claim7 := { stood := { row := answersCutRow, standIns := [], harness := (true, "3be225ab453c6466d7f63442660e50a7e36c9de0142be2d08a6cdb186564816d"), looks := false }, kinds := [], alts := [], laidByText := true, laidKinds := [.data, .data, .data], laidTests := true, laidLooks := .later }
def AnswersCutCardSaid : Prop := Claim7.holds Tryd.pinned (.plain (OpenSpec.ofChange answersCutSpec)) answersCutCard

/-- THE TIED CARD OF 'stintlaw08.AnswersUnlike'. -/
def answersUnlikeCard : Claim7 := { stood := { row := answersUnlikeRow, standIns := [], harness := (true, "3be225ab453c6466d7f63442660e50a7e36c9de0142be2d08a6cdb186564816d"), looks := false }, kinds := [], alts := [], laidByText := true, laidKinds := [.data, .data, .data], laidTests := true, laidLooks := .later }
def AnswersUnlikeCardSaid : Prop := Claim7.holds Tryd.pinned (.plain (OpenSpec.ofChange answersUnlikeSpec)) answersUnlikeCard

/-- THE TIED CARD OF 'stintlaw08.AnswersNames'. -/
def answersNamesCard : Claim7 := { stood := { row := answersNamesRow, standIns := [], harness := (true, "3be225ab453c6466d7f63442660e50a7e36c9de0142be2d08a6cdb186564816d"), looks := false }, kinds := [], alts := [], laidByText := true, laidKinds := [.data, .data, .data], laidTests := true, laidLooks := .later }
def AnswersNamesCardSaid : Prop := Claim7.holds Tryd.pinned (.plain (OpenSpec.ofChange answersNamesSpec)) answersNamesCard

/-- THE TIED CARD OF 'stintlaw08.AnswersRead'. -/
def answersReadCard : Claim7 := { stood := { row := answersReadRow, standIns := [], harness := (true, "3be225ab453c6466d7f63442660e50a7e36c9de0142be2d08a6cdb186564816d"), looks := false }, kinds := [], alts := [], laidByText := true, laidKinds := [.data, .data, .data], laidTests := true, laidLooks := .later }
def AnswersReadCardSaid : Prop := Claim7.holds Tryd.pinned (.plain (OpenSpec.ofChange answersReadSpec)) answersReadCard

/-- THE SECOND FORM's CARD OF 'stintlaw08.AnswersWrite'. -/
def answersWriteUptoCard : Claim7 := { stood := { row := answersWriteUptoRow, standIns := [], harness := (true, "3be225ab453c6466d7f63442660e50a7e36c9de0142be2d08a6cdb186564816d"), looks := false }, kinds := [], alts := [], laidByText := true, laidKinds := [.data, .data, .data], laidTests := true, laidLooks := .later }
def AnswersWriteUptoCardSaid : Prop := Claim7.holds Tryd.pinned (.plain (OpenSpec.upto answersWriteSpec)) answersWriteUptoCard

/-- THE SECOND FORM's CARD OF 'stintlaw08.AnswersBack'. -/
def answersBackUptoCard : Claim7 := { stood := { row := answersBackUptoRow, standIns := [], harness := (true, "3be225ab453c6466d7f63442660e50a7e36c9de0142be2d08a6cdb186564816d"), looks := false }, kinds := [], alts := [], laidByText := true, laidKinds := [.data, .data, .data], laidTests := true, laidLooks := .later }
def AnswersBackUptoCardSaid : Prop := Claim7.holds Tryd.pinned (.plain (OpenSpec.upto answersBackSpec)) answersBackUptoCard

/-- THE SECOND FORM's CARD OF 'stintlaw08.AnswersCut'. -/
def answersCutUptoCard : Claim7 := { stood := { row := answersCutUptoRow, standIns := [], harness := (true, "3be225ab453c6466d7f63442660e50a7e36c9de0142be2d08a6cdb186564816d"), looks := false }, kinds := [], alts := [], laidByText := true, laidKinds := [.data, .data, .data], laidTests := true, laidLooks := .later }
def AnswersCutUptoCardSaid : Prop := Claim7.holds Tryd.pinned (.plain (OpenSpec.upto answersCutSpec)) answersCutUptoCard

/-- THE SECOND FORM's CARD OF 'stintlaw08.AnswersUnlike'. -/
def answersUnlikeUptoCard : Claim7 := { stood := { row := answersUnlikeUptoRow, standIns := [], harness := (true, "3be225ab453c6466d7f63442660e50a7e36c9de0142be2d08a6cdb186564816d"), looks := false }, kinds := [], alts := [], laidByText := true, laidKinds := [.data, .data, .data], laidTests := true, laidLooks := .later }
def AnswersUnlikeUptoCardSaid : Prop := Claim7.holds Tryd.pinned (.plain (OpenSpec.upto answersUnlikeSpec)) answersUnlikeUptoCard

/-- THE SECOND FORM's CARD OF 'stintlaw08.AnswersNames'. -/
def answersNamesUptoCard : Claim7 := { stood := { row := answersNamesUptoRow, standIns := [], harness := (true, "3be225ab453c6466d7f63442660e50a7e36c9de0142be2d08a6cdb186564816d"), looks := false }, kinds := [], alts := [], laidByText := true, laidKinds := [.data, .data, .data], laidTests := true, laidLooks := .later }
def AnswersNamesUptoCardSaid : Prop := Claim7.holds Tryd.pinned (.plain (OpenSpec.upto answersNamesSpec)) answersNamesUptoCard

/-- THE SECOND FORM's CARD OF 'stintlaw08.AnswersRead'. -/
def answersReadUptoCard : Claim7 := { stood := { row := answersReadUptoRow, standIns := [], harness := (true, "3be225ab453c6466d7f63442660e50a7e36c9de0142be2d08a6cdb186564816d"), looks := false }, kinds := [], alts := [], laidByText := true, laidKinds := [.data, .data, .data], laidTests := true, laidLooks := .later }
def AnswersReadUptoCardSaid : Prop := Claim7.holds Tryd.pinned (.plain (OpenSpec.upto answersReadSpec)) answersReadUptoCard
end Rows
end Go.Proofs.YthihchoccpnfeaaDoor
