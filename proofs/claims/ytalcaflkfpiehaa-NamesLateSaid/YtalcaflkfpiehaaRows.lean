/-
  No cell of these rows narrows 'for every input' (looked for: loops, veiled, ifaces, maps, wideKeys, modest, calm, conditions, laid).
  DERIVED. THE GIVEN ROWS OF THIS SEAT. 5 by the template 'for every input the law returns true; each argument reads behind the call as it read before'; 0 by the template 'total and deterministic' (their statements: YtalcaflkfpiehaaTotals.lean).
  GIVEN WITH THE SEED: the statements are not yours to turn. If you find one false, say at which input.
  Laid BY PROGRAM, IN A SANDBOX (cutbox-rows.mjs): the forced cells as the released guide's own fill.sh prints them over the translation ea3fe355f394011b… (all of the seat's roots in one cut). By AI agents, Wed Nov 11 2026. No macro, syntax, notation, axiom, sorry.
-/
import Derived.Test.YtalcaflkfpiehaaChecked
import GoSem.Claim
import GoSem.ClaimJoined
import GoSem.ClaimMapViews
import Derived.JoinedTies
import Derived.KernelRfl
namespace Go.Proofs.Ytalcaflkfpiehaa
/- THE CELL 'sum', in the pinned program and in every row, IS THE sha256 OF THE DUMP (.gsa) THAT YtalcaflkfpiehaaProg.lean LOADS. Nothing in Lean hashes anything: it is a label: what it is worth is what the hold of that sum in a sandbox is worth. -/
noncomputable def Try.pinned : Pinned := { name := "ytalcaflkfpiehaa", sum := "ea3fe355f394011b338b1ab5f82a7e392f29718e176641c4bfea73ad7d9431da", checked := Try.checked }
namespace Rows
def none {H : Type} : Left H := { results := [], args := [] }

/-- 'stintlaw05.NamesValid': WHATEVER THE INPUT: true; the input reads as it did. -/
def namesValidSpec : ChangeSpec := { name := "namesValid", fn := fun _ => fun
  | [d] => { results := [.lit (.bool true)], args := [d] }
  | _ => none }
def namesValidRow : OpenClaim := { program := "ytalcaflkfpiehaa", sum := "ea3fe355f394011b338b1ab5f82a7e392f29718e176641c4bfea73ad7d9431da", func := "stint/stintlaw05.NamesValid", spec := "namesValid", inPlace := ["internal/bytealg.IndexByteString", "maps.clone"], apart := false }
def NamesValidSaid : Prop := namesValidRow.holds Try.pinned (OpenSpec.ofChange namesValidSpec)

/-- ITS FALSE NEIGHBOUR: 'it returns false'. Refute it at one input. -/
def namesValidWrong : ChangeSpec := { name := "namesValid", fn := fun _ => fun
  | [d] => { results := [.lit (.bool false)], args := [d] }
  | _ => none }
def NamesValidWrongFalsely : Prop := namesValidRow.holds Try.pinned (OpenSpec.ofChange namesValidWrong)

/-- 'stintlaw05.NamesNames': WHATEVER THE INPUT: true; the input reads as it did. -/
def namesNamesSpec : ChangeSpec := { name := "namesNames", fn := fun _ => fun
  | [] => { results := [.lit (.bool true)], args := [] }
  | _ => none }
def namesNamesRow : OpenClaim := { program := "ytalcaflkfpiehaa", sum := "ea3fe355f394011b338b1ab5f82a7e392f29718e176641c4bfea73ad7d9431da", func := "stint/stintlaw05.NamesNames", spec := "namesNames", inPlace := ["internal/bytealg.IndexByteString", "maps.clone"], apart := false }
def NamesNamesSaid : Prop := namesNamesRow.holds Try.pinned (OpenSpec.ofChange namesNamesSpec)

/-- ITS FALSE NEIGHBOUR: 'it returns false'. Refute it at one input. -/
def namesNamesWrong : ChangeSpec := { name := "namesNames", fn := fun _ => fun
  | [] => { results := [.lit (.bool false)], args := [] }
  | _ => none }
def NamesNamesWrongFalsely : Prop := namesNamesRow.holds Try.pinned (OpenSpec.ofChange namesNamesWrong)

/-- 'stintlaw05.NamesSums': WHATEVER THE INPUT: true; the input reads as it did. -/
def namesSumsSpec : ChangeSpec := { name := "namesSums", fn := fun _ => fun
  | [d] => { results := [.lit (.bool true)], args := [d] }
  | _ => none }
def namesSumsRow : OpenClaim := { program := "ytalcaflkfpiehaa", sum := "ea3fe355f394011b338b1ab5f82a7e392f29718e176641c4bfea73ad7d9431da", func := "stint/stintlaw05.NamesSums", spec := "namesSums", inPlace := ["internal/bytealg.IndexByteString", "maps.clone"], recurses := true, apart := false }
def NamesSumsSaid : Prop := namesSumsRow.holds Try.pinned (OpenSpec.ofChange namesSumsSpec)

/-- ITS FALSE NEIGHBOUR: 'it returns false'. Refute it at one input. -/
def namesSumsWrong : ChangeSpec := { name := "namesSums", fn := fun _ => fun
  | [d] => { results := [.lit (.bool false)], args := [d] }
  | _ => none }
def NamesSumsWrongFalsely : Prop := namesSumsRow.holds Try.pinned (OpenSpec.ofChange namesSumsWrong)

/-- 'stintlaw05.NamesBook': WHATEVER THE INPUT: true; the input reads as it did. -/
def namesBookSpec : ChangeSpec := { name := "namesBook", fn := fun _ => fun
  | [d] => { results := [.lit (.bool true)], args := [d] }
  | _ => none }
def namesBookRow : OpenClaim := { program := "ytalcaflkfpiehaa", sum := "ea3fe355f394011b338b1ab5f82a7e392f29718e176641c4bfea73ad7d9431da", func := "stint/stintlaw05.NamesBook", spec := "namesBook", inPlace := ["internal/bytealg.IndexByteString", "maps.clone"], unfollowed := true, recurses := true, apart := false }
def NamesBookSaid : Prop := namesBookRow.holds Try.pinned (OpenSpec.ofChange namesBookSpec)

/-- ITS FALSE NEIGHBOUR: 'it returns false'. Refute it at one input. -/
def namesBookWrong : ChangeSpec := { name := "namesBook", fn := fun _ => fun
  | [d] => { results := [.lit (.bool false)], args := [d] }
  | _ => none }
def NamesBookWrongFalsely : Prop := namesBookRow.holds Try.pinned (OpenSpec.ofChange namesBookWrong)

/-- 'stintlaw05.NamesLate': WHATEVER THE INPUT: true; the input reads as it did. -/
def namesLateSpec : ChangeSpec := { name := "namesLate", fn := fun _ => fun
  | [d1, d2] => { results := [.lit (.bool true)], args := [d1, d2] }
  | _ => none }
def namesLateRow : OpenClaim := { program := "ytalcaflkfpiehaa", sum := "ea3fe355f394011b338b1ab5f82a7e392f29718e176641c4bfea73ad7d9431da", func := "stint/stintlaw05.NamesLate", spec := "namesLate", inPlace := ["internal/bytealg.IndexByteString", "maps.clone"], unfollowed := true, recurses := true, apart := false }
def NamesLateSaid : Prop := namesLateRow.holds Try.pinned (OpenSpec.ofChange namesLateSpec)

/-- ITS FALSE NEIGHBOUR: 'it returns false'. Refute it at one input. -/
def namesLateWrong : ChangeSpec := { name := "namesLate", fn := fun _ => fun
  | [d1, d2] => { results := [.lit (.bool false)], args := [d1, d2] }
  | _ => none }
def NamesLateWrongFalsely : Prop := namesLateRow.holds Try.pinned (OpenSpec.ofChange namesLateWrong)

/- THE SECOND FORM. 'bulk': how many values and letters a reading holds, each counted each time it is reached (what is shared counts as often as it is met; a slice's spare places count too). A statement '..UptoSaid' is the law's where the arguments, and the package variables that the reading takes, are together of bulk at most 1048576: NARROWER than '..Said'. Prove '..Said' where nothing that the law and all that it calls make is longer than what came in: it says more and counts as full. Else prove '..UptoSaid'. A law counts once. -/
mutual
def uptoBulk {H : Type} : DataW H → Nat
  | .lit (.string bytes) => bytes.length + 1
  | .lit _ => 1
  | .nil => 1
  | .ptr d => uptoBulk d + 1
  | .slice elems spare => uptoBulkAll elems + uptoBulkAll spare + 1
  | .agg parts => uptoBulkAll parts + 1
  | .iface _ d => uptoBulk d + 1
  | .map entries => uptoBulkEntries entries + 1
  | .held _ => 1
def uptoBulkAll {H : Type} : List (DataW H) → Nat
  | [] => 0
  | d :: r => uptoBulk d + uptoBulkAll r
def uptoBulkEntries {H : Type} : List (Lit × DataW H) → Nat
  | [] => 0
  | x :: r => uptoBulkEntry x + uptoBulkEntries r
def uptoBulkEntry {H : Type} : Lit × DataW H → Nat
  | (.string bytes, d) => bytes.length + uptoBulk d + 1
  | (_, d) => uptoBulk d + 1
 end
def uptoSmall : (H : Type) → List (DataW H) → Bool := fun _ ds => decide (uptoBulkAll ds ≤ 1048576)
def OpenSpec.upto (s : _root_.Go.ChangeSpec) : _root_.Go.OpenSpec := { _root_.Go.OpenSpec.ofChange s with cond := some uptoSmall }

/-- 'stintlaw05.NamesValid', WHERE WHAT IT READS IS OF BULK AT MOST 1048576: true; the input reads as it did. -/
def namesValidUptoRow : OpenClaim := { program := "ytalcaflkfpiehaa", sum := "ea3fe355f394011b338b1ab5f82a7e392f29718e176641c4bfea73ad7d9431da", func := "stint/stintlaw05.NamesValid", spec := "namesValid", inPlace := ["internal/bytealg.IndexByteString", "maps.clone"], apart := false, narrowed := true }
def NamesValidUptoSaid : Prop := namesValidUptoRow.holds Try.pinned (OpenSpec.upto namesValidSpec)

/-- 'stintlaw05.NamesNames', WHERE WHAT IT READS IS OF BULK AT MOST 1048576: true; the input reads as it did. -/
def namesNamesUptoRow : OpenClaim := { program := "ytalcaflkfpiehaa", sum := "ea3fe355f394011b338b1ab5f82a7e392f29718e176641c4bfea73ad7d9431da", func := "stint/stintlaw05.NamesNames", spec := "namesNames", inPlace := ["internal/bytealg.IndexByteString", "maps.clone"], apart := false, narrowed := true }
def NamesNamesUptoSaid : Prop := namesNamesUptoRow.holds Try.pinned (OpenSpec.upto namesNamesSpec)

/-- 'stintlaw05.NamesSums', WHERE WHAT IT READS IS OF BULK AT MOST 1048576: true; the input reads as it did. -/
def namesSumsUptoRow : OpenClaim := { program := "ytalcaflkfpiehaa", sum := "ea3fe355f394011b338b1ab5f82a7e392f29718e176641c4bfea73ad7d9431da", func := "stint/stintlaw05.NamesSums", spec := "namesSums", inPlace := ["internal/bytealg.IndexByteString", "maps.clone"], recurses := true, apart := false, narrowed := true }
def NamesSumsUptoSaid : Prop := namesSumsUptoRow.holds Try.pinned (OpenSpec.upto namesSumsSpec)

/-- 'stintlaw05.NamesBook', WHERE WHAT IT READS IS OF BULK AT MOST 1048576: true; the input reads as it did. -/
def namesBookUptoRow : OpenClaim := { program := "ytalcaflkfpiehaa", sum := "ea3fe355f394011b338b1ab5f82a7e392f29718e176641c4bfea73ad7d9431da", func := "stint/stintlaw05.NamesBook", spec := "namesBook", inPlace := ["internal/bytealg.IndexByteString", "maps.clone"], unfollowed := true, recurses := true, apart := false, narrowed := true }
def NamesBookUptoSaid : Prop := namesBookUptoRow.holds Try.pinned (OpenSpec.upto namesBookSpec)

/-- 'stintlaw05.NamesLate', WHERE WHAT IT READS IS OF BULK AT MOST 1048576: true; the input reads as it did. -/
def namesLateUptoRow : OpenClaim := { program := "ytalcaflkfpiehaa", sum := "ea3fe355f394011b338b1ab5f82a7e392f29718e176641c4bfea73ad7d9431da", func := "stint/stintlaw05.NamesLate", spec := "namesLate", inPlace := ["internal/bytealg.IndexByteString", "maps.clone"], unfollowed := true, recurses := true, apart := false, narrowed := true }
def NamesLateUptoSaid : Prop := namesLateUptoRow.holds Try.pinned (OpenSpec.upto namesLateSpec)

end Rows
end Go.Proofs.Ytalcaflkfpiehaa
