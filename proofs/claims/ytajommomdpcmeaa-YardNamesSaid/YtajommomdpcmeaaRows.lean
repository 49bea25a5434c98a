/-
  No cell of these rows narrows 'for every input' (looked for: loops, veiled, ifaces, maps, wideKeys, modest, calm, conditions, laid).
  DERIVED. THE GIVEN ROWS OF THIS SEAT. 4 by the template 'for every input the law returns true; each argument reads behind the call as it read before'; 0 by the template 'total and deterministic' (their statements: YtajommomdpcmeaaTotals.lean).
  GIVEN WITH THE SEED: the statements are not yours to turn. If you find one false, say at which input.
  Laid BY PROGRAM, IN A SANDBOX (cutbox-rows.mjs): the forced cells as the released guide's own fill.sh prints them over the translation cf65319603cd80c0… (all of the seat's roots in one cut). By AI agents, Wed Nov 11 2026. No macro, syntax, notation, axiom, sorry.
-/
import Derived.Test.YtajommomdpcmeaaChecked
import GoSem.Claim
import GoSem.ClaimJoined
import GoSem.ClaimMapViews
import Derived.JoinedTies
import Derived.KernelRfl
namespace Go.Proofs.Ytajommomdpcmeaa
/- THE CELL 'sum', in the pinned program and in every row, IS THE sha256 OF THE DUMP (.gsa) THAT YtajommomdpcmeaaProg.lean LOADS. Nothing in Lean hashes anything: it is a label: what it is worth is what the hold of that sum in a sandbox is worth. -/
noncomputable def Try.pinned : Pinned := { name := "ytajommomdpcmeaa", sum := "cf65319603cd80c0fa12cafcd0d940b15a7257dfa797fb60697489407d4d08da", checked := Try.checked }
namespace Rows
def none {H : Type} : Left H := { results := [], args := [] }

/-- 'stintlaw15.YardNames': WHATEVER THE INPUT: true; the input reads as it did. -/
def yardNamesSpec : ChangeSpec := { name := "yardNames", fn := fun _ => fun
  | [] => { results := [.lit (.bool true)], args := [] }
  | _ => none }
def yardNamesRow : OpenClaim := { program := "ytajommomdpcmeaa", sum := "cf65319603cd80c0fa12cafcd0d940b15a7257dfa797fb60697489407d4d08da", func := "stint/stintlaw15.YardNames", spec := "yardNames", inPlace := ["maps.clone"], unfollowed := true, recurses := true, apart := false }
def YardNamesSaid : Prop := yardNamesRow.holds Try.pinned (OpenSpec.ofChange yardNamesSpec)

/-- ITS FALSE NEIGHBOUR: 'it returns false'. Refute it at one input. -/
def yardNamesWrong : ChangeSpec := { name := "yardNames", fn := fun _ => fun
  | [] => { results := [.lit (.bool false)], args := [] }
  | _ => none }
def YardNamesWrongFalsely : Prop := yardNamesRow.holds Try.pinned (OpenSpec.ofChange yardNamesWrong)

/-- 'stintlaw15.YardSums': WHATEVER THE INPUT: true; the input reads as it did. -/
def yardSumsSpec : ChangeSpec := { name := "yardSums", fn := fun _ => fun
  | [d] => { results := [.lit (.bool true)], args := [d] }
  | _ => none }
def yardSumsRow : OpenClaim := { program := "ytajommomdpcmeaa", sum := "cf65319603cd80c0fa12cafcd0d940b15a7257dfa797fb60697489407d4d08da", func := "stint/stintlaw15.YardSums", spec := "yardSums", inPlace := ["maps.clone"], unfollowed := true, recurses := true, apart := false }
def YardSumsSaid : Prop := yardSumsRow.holds Try.pinned (OpenSpec.ofChange yardSumsSpec)

/-- ITS FALSE NEIGHBOUR: 'it returns false'. Refute it at one input. -/
def yardSumsWrong : ChangeSpec := { name := "yardSums", fn := fun _ => fun
  | [d] => { results := [.lit (.bool false)], args := [d] }
  | _ => none }
def YardSumsWrongFalsely : Prop := yardSumsRow.holds Try.pinned (OpenSpec.ofChange yardSumsWrong)

/-- 'stintlaw15.YardDrains': WHATEVER THE INPUT: true; the input reads as it did. -/
def yardDrainsSpec : ChangeSpec := { name := "yardDrains", fn := fun _ => fun
  | [d1, d2] => { results := [.lit (.bool true)], args := [d1, d2] }
  | _ => none }
def yardDrainsRow : OpenClaim := { program := "ytajommomdpcmeaa", sum := "cf65319603cd80c0fa12cafcd0d940b15a7257dfa797fb60697489407d4d08da", func := "stint/stintlaw15.YardDrains", spec := "yardDrains", inPlace := ["maps.clone"], unfollowed := true, recurses := true, apart := false }
def YardDrainsSaid : Prop := yardDrainsRow.holds Try.pinned (OpenSpec.ofChange yardDrainsSpec)

/-- ITS FALSE NEIGHBOUR: 'it returns false'. Refute it at one input. -/
def yardDrainsWrong : ChangeSpec := { name := "yardDrains", fn := fun _ => fun
  | [d1, d2] => { results := [.lit (.bool false)], args := [d1, d2] }
  | _ => none }
def YardDrainsWrongFalsely : Prop := yardDrainsRow.holds Try.pinned (OpenSpec.ofChange yardDrainsWrong)

/-- 'stintlaw15.YardOver': WHATEVER THE INPUT: true; the input reads as it did. -/
def yardOverSpec : ChangeSpec := { name := "yardOver", fn := fun _ => fun
  | [d1, d2, d3] => { results := [.lit (.bool true)], args := [d1, d2, d3] }
  | _ => none }
def yardOverRow : OpenClaim := { program := "ytajommomdpcmeaa", sum := "cf65319603cd80c0fa12cafcd0d940b15a7257dfa797fb60697489407d4d08da", func := "stint/stintlaw15.YardOver", spec := "yardOver", inPlace := ["maps.clone"], unfollowed := true, recurses := true, apart := false }
def YardOverSaid : Prop := yardOverRow.holds Try.pinned (OpenSpec.ofChange yardOverSpec)

/-- ITS FALSE NEIGHBOUR: 'it returns false'. Refute it at one input. -/
def yardOverWrong : ChangeSpec := { name := "yardOver", fn := fun _ => fun
  | [d1, d2, d3] => { results := [.lit (.bool false)], args := [d1, d2, d3] }
  | _ => none }
def YardOverWrongFalsely : Prop := yardOverRow.holds Try.pinned (OpenSpec.ofChange yardOverWrong)

/- THE SECOND FORM. 'bulk': how many values and letters a reading holds, each counted each time it is reached (what is shared counts as often as it is met; a slice's spare places count too). A statement '..UptoSaid' is the law's where the arguments, and the package variables that the reading takes, are together of bulk at most 1048576: NARROWER than '..Said'. Prove '..Said' where nothing that the law and all that it calls make is longer than what came in: it says more and counts as full. Else prove '..UptoSaid'. A law counts once. -/
mutual
def uptoBulk {H : Type} : DataW H → Nat
  | .lit (.string bytes) => bytes.length + 1
  | .lit _ => 1
  | .nil => 1
  | .ptr d => uptoBulk d + 1
  | .slice elems spare => uptoBulkAll elems + uptoBulkAll spare + 1
  | .agg parts => uptoBulkAll parts + 1
  | .iface _ d => uptoBulk d + 1
  | .map entries => uptoBulkEntries entries + 1
  | .held _ => 1
def uptoBulkAll {H : Type} : List (DataW H) → Nat
  | [] => 0
  | d :: r => uptoBulk d + uptoBulkAll r
def uptoBulkEntries {H : Type} : List (Lit × DataW H) → Nat
  | [] => 0
  | x :: r => uptoBulkEntry x + uptoBulkEntries r
def uptoBulkEntry {H : Type} : Lit × DataW H → Nat
  | (.string bytes, d) => bytes.length + uptoBulk d + 1
  | (_, d) => uptoBulk d + 1
 end
def uptoSmall : (H : Type) → List (DataW H) → Bool := fun _ ds => decide (uptoBulkAll ds ≤ 1048576)
def OpenSpec.upto (s : _root_.Go.ChangeSpec) : _root_.Go.OpenSpec := { _root_.Go.OpenSpec.ofChange s with cond := some uptoSmall }

/-- 'stintlaw15.YardNames', WHERE WHAT IT READS IS OF BULK AT MOST 1048576: true; the input reads as it did. -/
def yardNamesUptoRow : OpenClaim := { program := "ytajommomdpcmeaa", sum := "cf65319603cd80c0fa12cafcd0d940b15a7257dfa797fb60697489407d4d08da", func := "stint/stintlaw15.YardNames", spec := "yardNames", inPlace := ["maps.clone"], unfollowed := true, recurses := true, apart := false, narrowed := true }
def YardNamesUptoSaid : Prop := yardNamesUptoRow.holds Try.pinned (OpenSpec.upto yardNamesSpec)

/-- 'stintlaw15.YardSums', WHERE WHAT IT READS IS OF BULK AT MOST 1048576: true; the input reads as it did. -/
def yardSumsUptoRow : OpenClaim := { program := "ytajommomdpcmeaa", sum := "cf65319603cd80c0fa12cafcd0d940b15a7257dfa797fb60697489407d4d08da", func := "stint/stintlaw15.YardSums", spec := "yardSums", inPlace := ["maps.clone"], unfollowed := true, recurses := true, apart := false, narrowed := true }
def YardSumsUptoSaid : Prop := yardSumsUptoRow.holds Try.pinned (OpenSpec.upto yardSumsSpec)

/-- 'stintlaw15.YardDrains', WHERE WHAT IT READS IS OF BULK AT MOST 1048576: true; the input reads as it did. -/
def yardDrainsUptoRow : OpenClaim := { program := "ytajommomdpcmeaa", sum := "cf65319603cd80c0fa12cafcd0d940b15a7257dfa797fb60697489407d4d08da", func := "stint/stintlaw15.YardDrains", spec := "yardDrains", inPlace := ["maps.clone"], unfollowed := true, recurses := true, apart := false, narrowed := true }
def YardDrainsUptoSaid : Prop := yardDrainsUptoRow.holds Try.pinned (OpenSpec.upto yardDrainsSpec)

/-- 'stintlaw15.YardOver', WHERE WHAT IT READS IS OF BULK AT MOST 1048576: true; the input reads as it did. -/
def yardOverUptoRow : OpenClaim := { program := "ytajommomdpcmeaa", sum := "cf65319603cd80c0fa12cafcd0d940b15a7257dfa797fb60697489407d4d08da", func := "stint/stintlaw15.YardOver", spec := "yardOver", inPlace := ["maps.clone"], unfollowed := true, recurses := true, apart := false, narrowed := true }
def YardOverUptoSaid : Prop := yardOverUptoRow.holds Try.pinned (OpenSpec.upto yardOverSpec)

end Rows
end Go.Proofs.Ytajommomdpcmeaa
