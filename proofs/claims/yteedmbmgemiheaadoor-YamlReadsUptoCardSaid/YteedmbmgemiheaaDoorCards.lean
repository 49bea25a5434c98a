/-
  DERIVED. GIVEN WITH THE SEED: THE CARDS: each row of YteedmbmgemiheaaDoorRows.lean that lists a variable, with what it lists TIED to the program's text (the seventh form; the later family's looks); each row that meets fmt, with fmt's text TOLD by the authors' own Lean function (tested against real Go, not proved from fmt's source: count such statements apart). THE CARD IS WHAT COUNTS. Prove the row's statement (the work); the ties are given (YteedmbmgemiheaaDoorTie.lean); close each card by the builder's one call (the guide's Derived/Test/ToyasCard.lean, 'card_holds'). Laid BY PROGRAM, IN A SANDBOX (cutbox-door.mjs). By AI agents, Wed Nov 11 2026. No macro, syntax, notation, axiom, sorry.
-/
import Derived.Test.YteedmbmgemiheaaDoorRows
import GoSem.ClaimSeven
namespace Go.Proofs.YteedmbmgemiheaaDoor
namespace Rows

/-- THE TIED CARD OF 'stintlaw09.YamlList'. -/
def yamlListCard : Claim7 := { stood := { row := yamlListRow, standIns := [], harness := (true, "d08854fe5e4089f9c9f4bbe6c46061fac761bbf127c3d385ddd82ff88e8becc9"), looks := false }, kinds := [], alts := [], laidByText := true, laidKinds := [.sentinel], laidTests := true, laidLooks := .later }
def YamlListCardSaid : Prop := Claim7.holds Tryd.pinned (.plain (OpenSpec.ofChange yamlListSpec)) yamlListCard

/-- THE TIED CARD OF 'stintlaw09.YamlDict'. -/
def yamlDictCard : Claim7 := { stood := { row := yamlDictRow, standIns := [], harness := (true, "d08854fe5e4089f9c9f4bbe6c46061fac761bbf127c3d385ddd82ff88e8becc9"), looks := false }, kinds := [], alts := [], laidByText := true, laidKinds := [.sentinel], laidTests := true, laidLooks := .later }
def YamlDictCardSaid : Prop := Claim7.holds Tryd.pinned (.plain (OpenSpec.ofChange yamlDictSpec)) yamlDictCard

/-- THE TIED CARD OF 'stintlaw09.YamlReads'. -/
def yamlReadsCard : Claim7 := { stood := { row := yamlReadsRow, standIns := [], harness := (true, "d08854fe5e4089f9c9f4bbe6c46061fac761bbf127c3d385ddd82ff88e8becc9"), looks := false }, kinds := [], alts := [], laidByText := true, laidKinds := [.sentinel], laidTests := true, laidLooks := .later }
def YamlReadsCardSaid : Prop := Claim7.holds Tryd.pinned (.plain (OpenSpec.ofChange yamlReadsSpec)) yamlReadsCard

/-- THE TIED CARD OF 'stintlaw09.YamlForms'. -/
def yamlFormsCard : Claim7 := { stood := { row := yamlFormsRow, standIns := [], harness := (true, "d08854fe5e4089f9c9f4bbe6c46061fac761bbf127c3d385ddd82ff88e8becc9"), looks := false }, kinds := [], alts := [], laidByText := true, laidKinds := [.sentinel], laidTests := true, laidLooks := .later }
def YamlFormsCardSaid : Prop := Claim7.holds Tryd.pinned (.plain (OpenSpec.ofChange yamlFormsSpec)) yamlFormsCard

/-- THE TIED CARD OF 'stintlaw09.YamlNames'. -/
def yamlNamesCard : Claim7 := { stood := { row := yamlNamesRow, standIns := [], harness := (true, "d08854fe5e4089f9c9f4bbe6c46061fac761bbf127c3d385ddd82ff88e8becc9"), looks := false }, kinds := [], alts := [], laidByText := true, laidKinds := [.sentinel], laidTests := true, laidLooks := .later }
def YamlNamesCardSaid : Prop := Claim7.holds Tryd.pinned (.plain (OpenSpec.ofChange yamlNamesSpec)) yamlNamesCard

/-- THE SECOND FORM's CARD OF 'stintlaw09.YamlList'. -/
def yamlListUptoCard : Claim7 := { stood := { row := yamlListUptoRow, standIns := [], harness := (true, "d08854fe5e4089f9c9f4bbe6c46061fac761bbf127c3d385ddd82ff88e8becc9"), looks := false }, kinds := [], alts := [], laidByText := true, laidKinds := [.sentinel], laidTests := true, laidLooks := .later }
def YamlListUptoCardSaid : Prop := Claim7.holds Tryd.pinned (.plain (OpenSpec.upto yamlListSpec)) yamlListUptoCard

/-- THE SECOND FORM's CARD OF 'stintlaw09.YamlDict'. -/
def yamlDictUptoCard : Claim7 := { stood := { row := yamlDictUptoRow, standIns := [], harness := (true, "d08854fe5e4089f9c9f4bbe6c46061fac761bbf127c3d385ddd82ff88e8becc9"), looks := false }, kinds := [], alts := [], laidByText := true, laidKinds := [.sentinel], laidTests := true, laidLooks := .later }
def YamlDictUptoCardSaid : Prop := Claim7.holds Tryd.pinned (.plain (OpenSpec.upto yamlDictSpec)) yamlDictUptoCard

/-- THE SECOND FORM's CARD OF 'stintlaw09.YamlReads'. -/
def yamlReadsUptoCard : Claim7 := { stood := { row := yamlReadsUptoRow, standIns := [], harness := (true, "d08854fe5e4089f9c9f4bbe6c46061fac761bbf127c3d385ddd82ff88e8becc9"), looks := false }, kinds := [], alts := [], laidByText := true, laidKinds := [.sentinel], laidTests := true, laidLooks := .later }
def YamlReadsUptoCardSaid : Prop := Claim7.holds Tryd.pinned (.plain (OpenSpec.upto yamlReadsSpec)) yamlReadsUptoCard

/-- THE SECOND FORM's CARD OF 'stintlaw09.YamlForms'. -/
def yamlFormsUptoCard : Claim7 := { stood := { row := yamlFormsUptoRow, standIns := [], harness := (true, "d08854fe5e4089f9c9f4bbe6c46061fac761bbf127c3d385ddd82ff88e8becc9"), looks := false }, kinds := [], alts := [], laidByText := true, laidKinds := [.sentinel], laidTests := true, laidLooks := .later }
def YamlFormsUptoCardSaid : Prop := Claim7.holds Tryd.pinned (.plain (OpenSpec.upto yamlFormsSpec)) yamlFormsUptoCard

/-- THE SECOND FORM's CARD OF 'stintlaw09.YamlNames'. -/
def yamlNamesUptoCard : Claim7 := { stood := { row := yamlNamesUptoRow, standIns := [], harness := (true, "d08854fe5e4089f9c9f4bbe6c46061fac761bbf127c3d385ddd82ff88e8becc9"), looks := false }, kinds := [], alts := [], laidByText := true, laidKinds := [.sentinel], laidTests := true, laidLooks := .later }
def YamlNamesUptoCardSaid : Prop := Claim7.holds Tryd.pinned (.plain (OpenSpec.upto yamlNamesSpec)) yamlNamesUptoCard
end Rows
end Go.Proofs.YteedmbmgemiheaaDoor
