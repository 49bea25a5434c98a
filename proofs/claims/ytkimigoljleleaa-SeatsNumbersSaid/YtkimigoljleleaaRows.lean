/-
  No cell of these rows narrows 'for every input' (looked for: loops, veiled, ifaces, maps, wideKeys, modest, calm, conditions, laid).
  DERIVED. THE GIVEN ROWS OF THIS SEAT. 3 by the template 'for every input the law returns true; each argument reads behind the call as it read before'; 0 by the template 'total and deterministic' (their statements: YtkimigoljleleaaTotals.lean).
  GIVEN WITH THE SEED: the statements are not yours to turn. If you find one false, say at which input.
  Laid BY PROGRAM, IN A SANDBOX (cutbox-rows.mjs): the forced cells as the released guide's own fill.sh prints them over the translation 508dc9468d79577c… (all of the seat's roots in one cut). By AI agents, Wed Nov 11 2026. No macro, syntax, notation, axiom, sorry.
-/
import Derived.Test.YtkimigoljleleaaChecked
import GoSem.Claim
import GoSem.ClaimJoined
import GoSem.ClaimMapViews
import Derived.JoinedTies
import Derived.KernelRfl
namespace Go.Proofs.Ytkimigoljleleaa
/- THE CELL 'sum', in the pinned program and in every row, IS THE sha256 OF THE DUMP (.gsa) THAT YtkimigoljleleaaProg.lean LOADS. Nothing in Lean hashes anything: it is a label: what it is worth is what the hold of that sum in a sandbox is worth. -/
noncomputable def Try.pinned : Pinned := { name := "ytkimigoljleleaa", sum := "508dc9468d79577cfe5d4c5a4936a8f835ae18398e462214cd03b777ad775dd8", checked := Try.checked }
namespace Rows
def none {H : Type} : Left H := { results := [], args := [] }

/-- 'stintlaw16.SeatsNumbers': WHATEVER THE INPUT: true; the input reads as it did. -/
def seatsNumbersSpec : ChangeSpec := { name := "seatsNumbers", fn := fun _ => fun
  | [] => { results := [.lit (.bool true)], args := [] }
  | _ => none }
def seatsNumbersRow : OpenClaim := { program := "ytkimigoljleleaa", sum := "508dc9468d79577cfe5d4c5a4936a8f835ae18398e462214cd03b777ad775dd8", func := "stint/stintlaw16.SeatsNumbers", spec := "seatsNumbers", inPlace := ["internal/bytealg.IndexByteString"], unfollowed := true, recurses := true, apart := false }
def SeatsNumbersSaid : Prop := seatsNumbersRow.holds Try.pinned (OpenSpec.ofChange seatsNumbersSpec)

/-- ITS FALSE NEIGHBOUR: 'it returns false'. Refute it at one input. -/
def seatsNumbersWrong : ChangeSpec := { name := "seatsNumbers", fn := fun _ => fun
  | [] => { results := [.lit (.bool false)], args := [] }
  | _ => none }
def SeatsNumbersWrongFalsely : Prop := seatsNumbersRow.holds Try.pinned (OpenSpec.ofChange seatsNumbersWrong)

/-- 'stintlaw16.SeatsTurns': WHATEVER THE INPUT: true; the input reads as it did. -/
def seatsTurnsSpec : ChangeSpec := { name := "seatsTurns", fn := fun _ => fun
  | [d1, d2, d3] => { results := [.lit (.bool true)], args := [d1, d2, d3] }
  | _ => none }
def seatsTurnsRow : OpenClaim := { program := "ytkimigoljleleaa", sum := "508dc9468d79577cfe5d4c5a4936a8f835ae18398e462214cd03b777ad775dd8", func := "stint/stintlaw16.SeatsTurns", spec := "seatsTurns", inPlace := ["internal/bytealg.IndexByteString"], unfollowed := true, recurses := true, apart := false }
def SeatsTurnsSaid : Prop := seatsTurnsRow.holds Try.pinned (OpenSpec.ofChange seatsTurnsSpec)

/-- ITS FALSE NEIGHBOUR: 'it returns false'. Refute it at one input. -/
def seatsTurnsWrong : ChangeSpec := { name := "seatsTurns", fn := fun _ => fun
  | [d1, d2, d3] => { results := [.lit (.bool false)], args := [d1, d2, d3] }
  | _ => none }
def SeatsTurnsWrongFalsely : Prop := seatsTurnsRow.holds Try.pinned (OpenSpec.ofChange seatsTurnsWrong)

/-- 'stintlaw16.SeatsSums': WHATEVER THE INPUT: true; the input reads as it did. -/
def seatsSumsSpec : ChangeSpec := { name := "seatsSums", fn := fun _ => fun
  | [d] => { results := [.lit (.bool true)], args := [d] }
  | _ => none }
def seatsSumsRow : OpenClaim := { program := "ytkimigoljleleaa", sum := "508dc9468d79577cfe5d4c5a4936a8f835ae18398e462214cd03b777ad775dd8", func := "stint/stintlaw16.SeatsSums", spec := "seatsSums", inPlace := ["internal/bytealg.IndexByteString"], unfollowed := true, recurses := true, apart := false }
def SeatsSumsSaid : Prop := seatsSumsRow.holds Try.pinned (OpenSpec.ofChange seatsSumsSpec)

/-- ITS FALSE NEIGHBOUR: 'it returns false'. Refute it at one input. -/
def seatsSumsWrong : ChangeSpec := { name := "seatsSums", fn := fun _ => fun
  | [d] => { results := [.lit (.bool false)], args := [d] }
  | _ => none }
def SeatsSumsWrongFalsely : Prop := seatsSumsRow.holds Try.pinned (OpenSpec.ofChange seatsSumsWrong)

/- THE SECOND FORM. 'bulk': how many values and letters a reading holds, each counted each time it is reached (what is shared counts as often as it is met; a slice's spare places count too). A statement '..UptoSaid' is the law's where the arguments, and the package variables that the reading takes, are together of bulk at most 1048576: NARROWER than '..Said'. Prove '..Said' where nothing that the law and all that it calls make is longer than what came in: it says more and counts as full. Else prove '..UptoSaid'. A law counts once. -/
mutual
def uptoBulk {H : Type} : DataW H → Nat
  | .lit (.string bytes) => bytes.length + 1
  | .lit _ => 1
  | .nil => 1
  | .ptr d => uptoBulk d + 1
  | .slice elems spare => uptoBulkAll elems + uptoBulkAll spare + 1
  | .agg parts => uptoBulkAll parts + 1
  | .iface _ d => uptoBulk d + 1
  | .map entries => uptoBulkEntries entries + 1
  | .held _ => 1
def uptoBulkAll {H : Type} : List (DataW H) → Nat
  | [] => 0
  | d :: r => uptoBulk d + uptoBulkAll r
def uptoBulkEntries {H : Type} : List (Lit × DataW H) → Nat
  | [] => 0
  | x :: r => uptoBulkEntry x + uptoBulkEntries r
def uptoBulkEntry {H : Type} : Lit × DataW H → Nat
  | (.string bytes, d) => bytes.length + uptoBulk d + 1
  | (_, d) => uptoBulk d + 1
 end
def uptoSmall : (H : Type) → List (DataW H) → Bool := fun _ ds => decide (uptoBulkAll ds ≤ 1048576)
def OpenSpec.upto (s : _root_.Go.ChangeSpec) : _root_.Go.OpenSpec := { _root_.Go.OpenSpec.ofChange s with cond := some uptoSmall }

/-- 'stintlaw16.SeatsNumbers', WHERE WHAT IT READS IS OF BULK AT MOST 1048576: true; the input reads as it did. -/
def seatsNumbersUptoRow : OpenClaim := { program := "ytkimigoljleleaa", sum := "508dc9468d79577cfe5d4c5a4936a8f835ae18398e462214cd03b777ad775dd8", func := "stint/stintlaw16.SeatsNumbers", spec := "seatsNumbers", inPlace := ["internal/bytealg.IndexByteString"], unfollowed := true, recurses := true, apart := false, narrowed := true }
def SeatsNumbersUptoSaid : Prop := seatsNumbersUptoRow.holds Try.pinned (OpenSpec.upto seatsNumbersSpec)

/-- 'stintlaw16.SeatsTurns', WHERE WHAT IT READS IS OF BULK AT MOST 1048576: true; the input reads as it did. -/
def seatsTurnsUptoRow : OpenClaim := { program := "ytkimigoljleleaa", sum := "508dc9468d79577cfe5d4c5a4936a8f835ae18398e462214cd03b777ad775dd8", func := "stint/stintlaw16.SeatsTurns", spec := "seatsTurns", inPlace := ["internal/bytealg.IndexByteString"], unfollowed := true, recurses := true, apart := false, narrowed := true }
def SeatsTurnsUptoSaid : Prop := seatsTurnsUptoRow.holds Try.pinned (OpenSpec.upto seatsTurnsSpec)

/-- 'stintlaw16.SeatsSums', WHERE WHAT IT READS IS OF BULK AT MOST 1048576: true; the input reads as it did. -/
def seatsSumsUptoRow : OpenClaim := { program := "ytkimigoljleleaa", sum := "508dc9468d79577cfe5d4c5a4936a8f835ae18398e462214cd03b777ad775dd8", func := "stint/stintlaw16.SeatsSums", spec := "seatsSums", inPlace := ["internal/bytealg.IndexByteString"], unfollowed := true, recurses := true, apart := false, narrowed := true }
def SeatsSumsUptoSaid : Prop := seatsSumsUptoRow.holds Try.pinned (OpenSpec.upto seatsSumsSpec)

end Rows
end Go.Proofs.Ytkimigoljleleaa
