/-
  DERIVED. GIVEN WITH THE SEED: THE CARDS: each row of YteedidafobfijaaDoorRows.lean that lists a variable, with what it lists TIED to the program's text (the seventh form; the later family's looks); each row that meets fmt, with fmt's text TOLD by the authors' own Lean function (tested against real Go, not proved from fmt's source: count such statements apart). THE CARD IS WHAT COUNTS. Prove the row's statement (the work); the ties are given (YteedidafobfijaaDoorTie.lean); close each card by the builder's one call (the guide's Derived/Test/ToyasCard.lean, 'card_holds'). Laid BY PROGRAM, IN A SANDBOX (cutbox-door.mjs). By AI agents, Wed Nov 11 2026. No macro, syntax, notation, axiom, sorry.
-/
import Derived.Test.YteedidafobfijaaDoorRows
import GoSem.ClaimSeven
namespace Go.Proofs.YteedidafobfijaaDoor
namespace Rows

/-- THE TIED CARD OF 'stintlaw01.DigitsParses'. -/
def digitsParsesCard : Claim7 := { stood := { row := digitsParsesRow, standIns := [], harness := (true, "292aa59d8ee6bf52d4ffcf097a31faf6b554d06dee12e25551358aaa0ec2dfd0"), looks := false }, kinds := [], alts := [], laidByText := true, laidKinds := [.data, .data, .data, .data, .pinned], laidTests := true, laidLooks := .later }
def DigitsParsesCardSaid : Prop := Claim7.holds Tryd.pinned (.plain (OpenSpec.ofChange digitsParsesSpec)) digitsParsesCard

/-- THE TIED CARD OF 'stintlaw01.DigitsPrints'. -/
def digitsPrintsCard : Claim7 := { stood := { row := digitsPrintsRow, standIns := [], harness := (true, "292aa59d8ee6bf52d4ffcf097a31faf6b554d06dee12e25551358aaa0ec2dfd0"), looks := false }, kinds := [], alts := [], laidByText := true, laidKinds := [.data, .data, .data, .data, .pinned], laidTests := true, laidLooks := .later }
def DigitsPrintsCardSaid : Prop := Claim7.holds Tryd.pinned (.plain (OpenSpec.ofChange digitsPrintsSpec)) digitsPrintsCard

/-- THE TIED CARD OF 'stintlaw01.DigitsWords'. -/
def digitsWordsCard : Claim7 := { stood := { row := digitsWordsRow, standIns := [], harness := (true, "292aa59d8ee6bf52d4ffcf097a31faf6b554d06dee12e25551358aaa0ec2dfd0"), looks := false }, kinds := [], alts := [], laidByText := true, laidKinds := [.data, .data, .data, .data, .pinned], laidTests := true, laidLooks := .later }
def DigitsWordsCardSaid : Prop := Claim7.holds Tryd.pinned (.plain (OpenSpec.ofChange digitsWordsSpec)) digitsWordsCard

/-- THE TIED CARD OF 'stintlaw01.DigitsSplits'. -/
def digitsSplitsCard : Claim7 := { stood := { row := digitsSplitsRow, standIns := [], harness := (true, "292aa59d8ee6bf52d4ffcf097a31faf6b554d06dee12e25551358aaa0ec2dfd0"), looks := false }, kinds := [], alts := [], laidByText := true, laidKinds := [.data, .data, .data, .data, .pinned], laidTests := true, laidLooks := .later }
def DigitsSplitsCardSaid : Prop := Claim7.holds Tryd.pinned (.plain (OpenSpec.ofChange digitsSplitsSpec)) digitsSplitsCard

/-- THE TIED CARD OF 'stintlaw01.DigitsJoins'. -/
def digitsJoinsCard : Claim7 := { stood := { row := digitsJoinsRow, standIns := [], harness := (true, "292aa59d8ee6bf52d4ffcf097a31faf6b554d06dee12e25551358aaa0ec2dfd0"), looks := false }, kinds := [], alts := [], laidByText := true, laidKinds := [.data, .data, .data, .data, .pinned], laidTests := true, laidLooks := .later }
def DigitsJoinsCardSaid : Prop := Claim7.holds Tryd.pinned (.plain (OpenSpec.ofChange digitsJoinsSpec)) digitsJoinsCard

/-- THE TIED CARD OF 'stintlaw01.DigitsBack'. -/
def digitsBackCard : Claim7 := { stood := { row := digitsBackRow, standIns := [], harness := (true, "292aa59d8ee6bf52d4ffcf097a31faf6b554d06dee12e25551358aaa0ec2dfd0"), looks := false }, kinds := [], alts := [], laidByText := true, laidKinds := [.data, .data, .data, .data, .pinned], laidTests := true, laidLooks := .later }
def DigitsBackCardSaid : Prop := Claim7.holds Tryd.pinned (.plain (OpenSpec.ofChange digitsBackSpec)) digitsBackCard

/-- THE TIED CARD OF 'stintlaw01.DigitsNumbers'. -/
def digitsNumbersCard : Claim7 := { stood := { row := digitsNumbersRow, standIns := [], harness := (true, "292aa59d8ee6bf52d4ffcf097a31faf6b554d06dee12e25551358aaa0ec2dfd0"), looks := false }, kinds := [], alts := [], laidByText := true, laidKinds := [.data, .data, .data, .data, .pinned], laidTests := true, laidLooks := .later }
def DigitsNumbersCardSaid : Prop := Claim7.holds Tryd.pinned (.plain (OpenSpec.ofChange digitsNumbersSpec)) digitsNumbersCard

/-- THE SECOND FORM's CARD OF 'stintlaw01.DigitsParses'. -/
def digitsParsesUptoCard : Claim7 := { stood := { row := digitsParsesUptoRow, standIns := [], harness := (true, "292aa59d8ee6bf52d4ffcf097a31faf6b554d06dee12e25551358aaa0ec2dfd0"), looks := false }, kinds := [], alts := [], laidByText := true, laidKinds := [.data, .data, .data, .data, .pinned], laidTests := true, laidLooks := .later }
def DigitsParsesUptoCardSaid : Prop := Claim7.holds Tryd.pinned (.plain (OpenSpec.upto digitsParsesSpec)) digitsParsesUptoCard

/-- THE SECOND FORM's CARD OF 'stintlaw01.DigitsPrints'. -/
def digitsPrintsUptoCard : Claim7 := { stood := { row := digitsPrintsUptoRow, standIns := [], harness := (true, "292aa59d8ee6bf52d4ffcf097a31faf6b554d06dee12e25551358aaa0ec2dfd0"), looks := false }, kinds := [], alts := [], laidByText := true, laidKinds := [.data, .data, .data, .data, .pinned], laidTests := true, laidLooks := .later }
def DigitsPrintsUptoCardSaid : Prop := Claim7.holds Tryd.pinned (.plain (OpenSpec.upto digitsPrintsSpec)) digitsPrintsUptoCard

/-- THE SECOND FORM's CARD OF 'stintlaw01.DigitsWords'. -/
def digitsWordsUptoCard : Claim7 := { stood := { row := digitsWordsUptoRow, standIns := [], harness := (true, "292aa59d8ee6bf52d4ffcf097a31faf6b554d06dee12e25551358aaa0ec2dfd0"), looks := false }, kinds := [], alts := [], laidByText := true, laidKinds := [.data, .data, .data, .data, .pinned], laidTests := true, laidLooks := .later }
def DigitsWordsUptoCardSaid : Prop := Claim7.holds Tryd.pinned (.plain (OpenSpec.upto digitsWordsSpec)) digitsWordsUptoCard

/-- THE SECOND FORM's CARD OF 'stintlaw01.DigitsSplits'. -/
def digitsSplitsUptoCard : Claim7 := { stood := { row := digitsSplitsUptoRow, standIns := [], harness := (true, "292aa59d8ee6bf52d4ffcf097a31faf6b554d06dee12e25551358aaa0ec2dfd0"), looks := false }, kinds := [], alts := [], laidByText := true, laidKinds := [.data, .data, .data, .data, .pinned], laidTests := true, laidLooks := .later }
def DigitsSplitsUptoCardSaid : Prop := Claim7.holds Tryd.pinned (.plain (OpenSpec.upto digitsSplitsSpec)) digitsSplitsUptoCard

/-- THE SECOND FORM's CARD OF 'stintlaw01.DigitsJoins'. -/
def digitsJoinsUptoCard : Claim7 := { stood := { row := digitsJoinsUptoRow, standIns := [], harness := (true, "292aa59d8ee6bf52d4ffcf097a31faf6b554d06dee12e25551358aaa0ec2dfd0"), looks := false }, kinds := [], alts := [], laidByText := true, laidKinds := [.data, .data, .data, .data, .pinned], laidTests := true, laidLooks := .later }
def DigitsJoinsUptoCardSaid : Prop := Claim7.holds Tryd.pinned (.plain (OpenSpec.upto digitsJoinsSpec)) digitsJoinsUptoCard

/-- THE SECOND FORM's CARD OF 'stintlaw01.DigitsBack'. -/
def digitsBackUptoCard : Claim7 := { stood := { row := digitsBackUptoRow, standIns := [], harness := (true, "292aa59d8ee6bf52d4ffcf097a31faf6b554d06dee12e25551358aaa0ec2dfd0"), looks := false }, kinds := [], alts := [], laidByText := true, laidKinds := [.data, .data, .data, .data, .pinned], laidTests := true, laidLooks := .later }
def DigitsBackUptoCardSaid : Prop := Claim7.holds Tryd.pinned (.plain (OpenSpec.upto digitsBackSpec)) digitsBackUptoCard

/-- THE SECOND FORM's CARD OF 'stintlaw01.DigitsNumbers'. -/
def digitsNumbersUptoCard : Claim7 := { stood := { row := digitsNumbersUptoRow, standIns := [], harness := (true, "292aa59d8ee6bf52d4ffcf097a31faf6b554d06dee12e25551358aaa0ec2dfd0"), looks := false }, kinds := [], alts := [], laidByText := true, laidKinds := [.data, .data, .data, .data, .pinned], laidTests := true, laidLooks := .later }
def DigitsNumbersUptoCardSaid : Prop := Claim7.holds Tryd.pinned (.plain (OpenSpec.upto digitsNumbersSpec)) digitsNumbersUptoCard
end Rows
end Go.Proofs.YteedidafobfijaaDoor
