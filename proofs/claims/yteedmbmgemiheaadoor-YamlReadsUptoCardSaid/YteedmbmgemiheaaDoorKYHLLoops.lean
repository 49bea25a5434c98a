/-
  HL: a loop of a few rounds, round by round.
-/
import Derived.Test.YteedmbmgemiheaaDoorKYHLOpen
namespace Go.HL
open Go
section
variable {P : Program} {ro : Option Nat} {Q : HExit → List HV → HS → Prop} {fr : List HV} {hs : HS}
/-- the loop comes to its end within so many rounds. -/
def LR (P : Program) (ro : Option Nat) (x : HCode) (Q : HExit → List HV → HS → Prop) : Nat → List HV → HS → Prop
  | 0, _, _ => False
  | n + 1, fr, hs => hwp P ro x (HThen (LR P ro x Q n) Q) fr hs
theorem lr_succ {x : HCode} {n : Nat} : LR P ro x Q (n + 1) fr hs = hwp P ro x (HThen (LR P ro x Q n) Q) fr hs := rfl
theorem HW.rounds (hm : P.follows .mixedOrders = true) (n : Nat) {x : HCode} (h : LR P ro x Q n fr hs) : HWr P ro (.loop x) fr hs Q :=
  HW.loop (fun n fr hs => LR P ro x Q n fr hs) n h fun n fr hs hI => by
    cases n with
    | zero => exact hI.elim
    | succ n => exact (hwp_sound hm hI).mono fun e fr' hs' hq => HThen.mono (fun fr hs h => ⟨n, Nat.lt_succ_self n, h⟩) e fr' hs' hq
end
end Go.HL
