/-
  NARROWER THAN 'FOR EVERY INPUT', by the rows' own cells (each row's printed sentence says how): YamlList: laid · YamlDict: laid · YamlReads: laid · YamlForms: laid · YamlNames: laid.
  DERIVED. THE GIVEN ROWS OF THIS SEAT. 5 by the template 'for every input the law returns true; each argument reads behind the call as it read before'; 0 by the template 'total and deterministic' (their statements: YteedmbmgemiheaaDoorTotals.lean).
  GIVEN WITH THE SEED: the statements are not yours to turn. If you find one false, say at which input.
  Laid BY PROGRAM, IN A SANDBOX (cutbox-rows.mjs): the forced cells as the released guide's own fill.sh prints them over the translation f3fee98cec591660… (all of the seat's roots in one cut). By AI agents, Wed Nov 11 2026. No macro, syntax, notation, axiom, sorry.
-/
import Derived.Test.YteedmbmgemiheaaDoorChecked
import GoSem.Claim
import GoSem.ClaimJoined
import GoSem.ClaimMapViews
import Derived.JoinedTies
import Derived.KernelRfl
namespace Go.Proofs.YteedmbmgemiheaaDoor
/- THE CELL 'sum', in the pinned program and in every row, IS THE sha256 OF THE DUMP (.gsa) THAT YteedmbmgemiheaaDoorProg.lean LOADS. Nothing in Lean hashes anything: it is a label: what it is worth is what the hold of that sum in a sandbox is worth. -/
noncomputable def Tryd.pinned : Pinned := { name := "yteedmbmgemiheaadoor", sum := "f3fee98cec5916609ebf145246e5e07bebbeb05d3ab1cbf820753a3f7ddfee75", checked := Tryd.checked }
namespace Rows
def none {H : Type} : Left H := { results := [], args := [] }

/- WHAT THE LISTED PACKAGE-LEVEL VARIABLES READ AS WHEN THE CALL BEGINS. Each datum BY PROGRAM (the guide's laid-datum.mjs) off the statement by which the dump's own 'gosem.cut.vars' lays the variable. In a bare row this is a premise. The card (YteedmbmgemiheaaDoorCards.lean) ties it to the program's text. -/
def laid_bytes_ErrTooLarge {H : Type} : DataW H := .iface "*errors.errorString" (.ptr (.agg [.lit (.string [98, 121, 116, 101, 115, 46, 66, 117, 102, 102, 101, 114, 58, 32, 116, 111, 111, 32, 108, 97, 114, 103, 101])]))

/-- 'stintlaw09.YamlList': WHATEVER THE INPUT: true; the input reads as it did. -/
def yamlListSpec : ChangeSpec := { name := "yamlList", fn := fun _ => fun
  | [d] => { results := [.lit (.bool true)], args := [d] }
  | _ => none }
def yamlListRow : OpenClaim := { program := "yteedmbmgemiheaadoor", sum := "f3fee98cec5916609ebf145246e5e07bebbeb05d3ab1cbf820753a3f7ddfee75", func := "stint/stintlaw09.YamlList", spec := "yamlList", inPlace := ["internal/bytealg.IndexByteString", "internal/bytealg.IndexString"], named := ["bytes.ErrTooLarge", "internal/bytealg.MaxLen"], apart := false, laid := [("bytes.ErrTooLarge", laid_bytes_ErrTooLarge)] }
def YamlListSaid : Prop := yamlListRow.holds Tryd.pinned (OpenSpec.ofChange yamlListSpec)

/-- ITS FALSE NEIGHBOUR: 'it returns false'. Refute it at one input. -/
def yamlListWrong : ChangeSpec := { name := "yamlList", fn := fun _ => fun
  | [d] => { results := [.lit (.bool false)], args := [d] }
  | _ => none }
def YamlListWrongFalsely : Prop := yamlListRow.holds Tryd.pinned (OpenSpec.ofChange yamlListWrong)

/-- 'stintlaw09.YamlDict': WHATEVER THE INPUT: true; the input reads as it did. -/
def yamlDictSpec : ChangeSpec := { name := "yamlDict", fn := fun _ => fun
  | [d1, d2, d3] => { results := [.lit (.bool true)], args := [d1, d2, d3] }
  | _ => none }
def yamlDictRow : OpenClaim := { program := "yteedmbmgemiheaadoor", sum := "f3fee98cec5916609ebf145246e5e07bebbeb05d3ab1cbf820753a3f7ddfee75", func := "stint/stintlaw09.YamlDict", spec := "yamlDict", inPlace := ["internal/bytealg.IndexByteString", "internal/bytealg.IndexString"], named := ["bytes.ErrTooLarge", "internal/bytealg.MaxLen"], apart := false, laid := [("bytes.ErrTooLarge", laid_bytes_ErrTooLarge)] }
def YamlDictSaid : Prop := yamlDictRow.holds Tryd.pinned (OpenSpec.ofChange yamlDictSpec)

/-- ITS FALSE NEIGHBOUR: 'it returns false'. Refute it at one input. -/
def yamlDictWrong : ChangeSpec := { name := "yamlDict", fn := fun _ => fun
  | [d1, d2, d3] => { results := [.lit (.bool false)], args := [d1, d2, d3] }
  | _ => none }
def YamlDictWrongFalsely : Prop := yamlDictRow.holds Tryd.pinned (OpenSpec.ofChange yamlDictWrong)

/-- 'stintlaw09.YamlReads': WHATEVER THE INPUT: true; the input reads as it did. -/
def yamlReadsSpec : ChangeSpec := { name := "yamlReads", fn := fun _ => fun
  | [d1, d2] => { results := [.lit (.bool true)], args := [d1, d2] }
  | _ => none }
def yamlReadsRow : OpenClaim := { program := "yteedmbmgemiheaadoor", sum := "f3fee98cec5916609ebf145246e5e07bebbeb05d3ab1cbf820753a3f7ddfee75", func := "stint/stintlaw09.YamlReads", spec := "yamlReads", inPlace := ["internal/bytealg.IndexByteString", "internal/bytealg.IndexString"], named := ["bytes.ErrTooLarge", "internal/bytealg.MaxLen"], apart := false, laid := [("bytes.ErrTooLarge", laid_bytes_ErrTooLarge)] }
def YamlReadsSaid : Prop := yamlReadsRow.holds Tryd.pinned (OpenSpec.ofChange yamlReadsSpec)

/-- ITS FALSE NEIGHBOUR: 'it returns false'. Refute it at one input. -/
def yamlReadsWrong : ChangeSpec := { name := "yamlReads", fn := fun _ => fun
  | [d1, d2] => { results := [.lit (.bool false)], args := [d1, d2] }
  | _ => none }
def YamlReadsWrongFalsely : Prop := yamlReadsRow.holds Tryd.pinned (OpenSpec.ofChange yamlReadsWrong)

/-- 'stintlaw09.YamlForms': WHATEVER THE INPUT: true; the input reads as it did. -/
def yamlFormsSpec : ChangeSpec := { name := "yamlForms", fn := fun _ => fun
  | [d] => { results := [.lit (.bool true)], args := [d] }
  | _ => none }
def yamlFormsRow : OpenClaim := { program := "yteedmbmgemiheaadoor", sum := "f3fee98cec5916609ebf145246e5e07bebbeb05d3ab1cbf820753a3f7ddfee75", func := "stint/stintlaw09.YamlForms", spec := "yamlForms", inPlace := ["internal/bytealg.IndexByteString", "internal/bytealg.IndexString"], named := ["bytes.ErrTooLarge", "internal/bytealg.MaxLen"], apart := false, laid := [("bytes.ErrTooLarge", laid_bytes_ErrTooLarge)] }
def YamlFormsSaid : Prop := yamlFormsRow.holds Tryd.pinned (OpenSpec.ofChange yamlFormsSpec)

/-- ITS FALSE NEIGHBOUR: 'it returns false'. Refute it at one input. -/
def yamlFormsWrong : ChangeSpec := { name := "yamlForms", fn := fun _ => fun
  | [d] => { results := [.lit (.bool false)], args := [d] }
  | _ => none }
def YamlFormsWrongFalsely : Prop := yamlFormsRow.holds Tryd.pinned (OpenSpec.ofChange yamlFormsWrong)

/-- 'stintlaw09.YamlNames': WHATEVER THE INPUT: true; the input reads as it did. -/
def yamlNamesSpec : ChangeSpec := { name := "yamlNames", fn := fun _ => fun
  | [] => { results := [.lit (.bool true)], args := [] }
  | _ => none }
def yamlNamesRow : OpenClaim := { program := "yteedmbmgemiheaadoor", sum := "f3fee98cec5916609ebf145246e5e07bebbeb05d3ab1cbf820753a3f7ddfee75", func := "stint/stintlaw09.YamlNames", spec := "yamlNames", inPlace := ["internal/bytealg.IndexByteString", "internal/bytealg.IndexString"], named := ["bytes.ErrTooLarge", "internal/bytealg.MaxLen"], apart := false, laid := [("bytes.ErrTooLarge", laid_bytes_ErrTooLarge)] }
def YamlNamesSaid : Prop := yamlNamesRow.holds Tryd.pinned (OpenSpec.ofChange yamlNamesSpec)

/-- ITS FALSE NEIGHBOUR: 'it returns false'. Refute it at one input. -/
def yamlNamesWrong : ChangeSpec := { name := "yamlNames", fn := fun _ => fun
  | [] => { results := [.lit (.bool false)], args := [] }
  | _ => none }
def YamlNamesWrongFalsely : Prop := yamlNamesRow.holds Tryd.pinned (OpenSpec.ofChange yamlNamesWrong)

/- THE SECOND FORM. 'bulk': how many values and letters a reading holds, each counted each time it is reached (what is shared counts as often as it is met; a slice's spare places count too). A statement '..UptoSaid' is the law's where the arguments, and the package variables that the reading takes, are together of bulk at most 1048576: NARROWER than '..Said'. Prove '..Said' where nothing that the law and all that it calls make is longer than what came in: it says more and counts as full. Else prove '..UptoSaid'. A law counts once. -/
mutual
def uptoBulk {H : Type} : DataW H → Nat
  | .lit (.string bytes) => bytes.length + 1
  | .lit _ => 1
  | .nil => 1
  | .ptr d => uptoBulk d + 1
  | .slice elems spare => uptoBulkAll elems + uptoBulkAll spare + 1
  | .agg parts => uptoBulkAll parts + 1
  | .iface _ d => uptoBulk d + 1
  | .map entries => uptoBulkEntries entries + 1
  | .held _ => 1
def uptoBulkAll {H : Type} : List (DataW H) → Nat
  | [] => 0
  | d :: r => uptoBulk d + uptoBulkAll r
def uptoBulkEntries {H : Type} : List (Lit × DataW H) → Nat
  | [] => 0
  | x :: r => uptoBulkEntry x + uptoBulkEntries r
def uptoBulkEntry {H : Type} : Lit × DataW H → Nat
  | (.string bytes, d) => bytes.length + uptoBulk d + 1
  | (_, d) => uptoBulk d + 1
 end
def uptoSmall : (H : Type) → List (DataW H) → Bool := fun _ ds => decide (uptoBulkAll ds ≤ 1048576)
def OpenSpec.upto (s : _root_.Go.ChangeSpec) : _root_.Go.OpenSpec := { _root_.Go.OpenSpec.ofChange s with cond := some uptoSmall }

/-- 'stintlaw09.YamlList', WHERE WHAT IT READS IS OF BULK AT MOST 1048576: true; the input reads as it did. -/
def yamlListUptoRow : OpenClaim := { program := "yteedmbmgemiheaadoor", sum := "f3fee98cec5916609ebf145246e5e07bebbeb05d3ab1cbf820753a3f7ddfee75", func := "stint/stintlaw09.YamlList", spec := "yamlList", inPlace := ["internal/bytealg.IndexByteString", "internal/bytealg.IndexString"], named := ["bytes.ErrTooLarge", "internal/bytealg.MaxLen"], apart := false, laid := [("bytes.ErrTooLarge", laid_bytes_ErrTooLarge)], narrowed := true }
def YamlListUptoSaid : Prop := yamlListUptoRow.holds Tryd.pinned (OpenSpec.upto yamlListSpec)

/-- 'stintlaw09.YamlDict', WHERE WHAT IT READS IS OF BULK AT MOST 1048576: true; the input reads as it did. -/
def yamlDictUptoRow : OpenClaim := { program := "yteedmbmgemiheaadoor", sum := "f3fee98cec5916609ebf145246e5e07bebbeb05d3ab1cbf820753a3f7ddfee75", func := "stint/stintlaw09.YamlDict", spec := "yamlDict", inPlace := ["internal/bytealg.IndexByteString", "internal/bytealg.IndexString"], named := ["bytes.ErrTooLarge", "internal/bytealg.MaxLen"], apart := false, laid := [("bytes.ErrTooLarge", laid_bytes_ErrTooLarge)], narrowed := true }
def YamlDictUptoSaid : Prop := yamlDictUptoRow.holds Tryd.pinned (OpenSpec.upto yamlDictSpec)

/-- 'stintlaw09.YamlReads', WHERE WHAT IT READS IS OF BULK AT MOST 1048576: true; the input reads as it did. -/
def yamlReadsUptoRow : OpenClaim := { program := "yteedmbmgemiheaadoor", sum := "f3fee98cec5916609ebf145246e5e07bebbeb05d3ab1cbf820753a3f7ddfee75", func := "stint/stintlaw09.YamlReads", spec := "yamlReads", inPlace := ["internal/bytealg.IndexByteString", "internal/bytealg.IndexString"], named := ["bytes.ErrTooLarge", "internal/bytealg.MaxLen"], apart := false, laid := [("bytes.ErrTooLarge", laid_bytes_ErrTooLarge)], narrowed := true }
def YamlReadsUptoSaid : Prop := yamlReadsUptoRow.holds Tryd.pinned (OpenSpec.upto yamlReadsSpec)

/-- 'stintlaw09.YamlForms', WHERE WHAT IT READS IS OF BULK AT MOST 1048576: true; the input reads as it did. -/
def yamlFormsUptoRow : OpenClaim := { program := "yteedmbmgemiheaadoor", sum := "f3fee98cec5916609ebf145246e5e07bebbeb05d3ab1cbf820753a3f7ddfee75", func := "stint/stintlaw09.YamlForms", spec := "yamlForms", inPlace := ["internal/bytealg.IndexByteString", "internal/bytealg.IndexString"], named := ["bytes.ErrTooLarge", "internal/bytealg.MaxLen"], apart := false, laid := [("bytes.ErrTooLarge", laid_bytes_ErrTooLarge)], narrowed := true }
def YamlFormsUptoSaid : Prop := yamlFormsUptoRow.holds Tryd.pinned (OpenSpec.upto yamlFormsSpec)

/-- 'stintlaw09.YamlNames', WHERE WHAT IT READS IS OF BULK AT MOST 1048576: true; the input reads as it did. -/
def yamlNamesUptoRow : OpenClaim := { program := "yteedmbmgemiheaadoor", sum := "f3fee98cec5916609ebf145246e5e07bebbeb05d3ab1cbf820753a3f7ddfee75", func := "stint/stintlaw09.YamlNames", spec := "yamlNames", inPlace := ["internal/bytealg.IndexByteString", "internal/bytealg.IndexString"], named := ["bytes.ErrTooLarge", "internal/bytealg.MaxLen"], apart := false, laid := [("bytes.ErrTooLarge", laid_bytes_ErrTooLarge)], narrowed := true }
def YamlNamesUptoSaid : Prop := yamlNamesUptoRow.holds Tryd.pinned (OpenSpec.upto yamlNamesSpec)

end Rows
end Go.Proofs.YteedmbmgemiheaaDoor
