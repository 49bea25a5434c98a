/-
  names.Valid and stintref05.Valid: what they answer at any text.
-/
import Derived.Test.YthihchoccpnfeaaDoorF
import Derived.Test.YthihchoccpnfeaaDoorHLExt
import Derived.Test.YthihchoccpnfeaaDoorHLSym
namespace Go.Proofs.YthihchoccpnfeaaDoor
open Go Go.HL
namespace V

def X : FuncId → Option (List HV → HS → Option (HV × HS))
  | 73 => some xIndexByte
  | _ => none

theorem X_ok : XOk Tryd.prog X := by
  intro f g h
  unfold X at h
  split at h
  · simp at h; subst h; exact fun args hs v hs' h => xIndexByte_sound Tryd.func73 (by kernel_rfl) (by kernel_rfl) (by kernel_rfl) (by kernel_rfl) h
  · simp at h

theorem mixed : Tryd.prog.follows .mixedOrders = true := by kernel_rfl

/-- may a byte stand in a name? -/
def mayB (n : Nat) : Bool := (97 ≤ n && n ≤ 122) || (65 ≤ n && n ≤ 90) || (48 ≤ n && n ≤ 57) || [45, 43, 47, 59, 46, 36, 95, 40, 41].contains n

theorem may_runs : ((List.range 256).all fun n => match hcall F X 60 52 [.int .u8 n] [] with | some (v, _) => HV.eqb v (.bool (mayB n)) | none => false) = true := by kernel_rfl

theorem ok52 : okF Tryd.prog 52 := ⟨_, Tryd.func52, by kernel_rfl, by kernel_rfl⟩

theorem may (c : UInt8) (hs : HS) : HC Tryd.prog 52 [.int .u8 c.toNat] hs fun v hs' => v = .bool (mayB c.toNat) ∧ hs' = hs := by
  refine HC.frame (R := fun v => v = .bool (mayB c.toNat)) (by rfl) (fun v h => by subst h; rfl) ?_
  have h := List.all_eq_true.1 may_runs c.toNat (by simpa using c.toNat_lt)
  refine hcall_bool mixed F_ok X_ok (n := 60) rfl ?_
  split at h
  · rename_i v hs' hr
    rw [hr]
    simpa using h
  · simp at h

/-- what a valid name is. -/
def validL (s : List UInt8) : Bool := decide (1 ≤ s.length) && decide (s.length ≤ 200) && !(s[0]? == some 45) && s.all fun c => mayB c.toNat

/-- the frame of names.Valid at the loop's head. -/
def base9 (s : List UInt8) (i : Nat) : List HV :=
  [.str s, .undef, .bool false, .undef, .undef, .undef, .undef, .undef, .undef, .undef, .undef, .undef, .undef, .undef, .undef, .undef, .undef, .undef, .int .i64 s.length, .int .i64 i, .undef, .undef, .undef, .undef, .undef, .undef, .undef, .undef]

set_option maxRecDepth 100000
set_option maxHeartbeats 4000000

theorem ofB {b : Bool} {p : Prop} [Decidable p] (h : decide p = b) : HV.bool (decide p) = HV.bool b := by rw [h]

def Q9 (b : Bool) : HExit → List HV → HS → Prop := fun e fr hs => e.ended = true ∧ ∃ v, hres h37.res fr hs = some v ∧ v = .bool b ∧ True

theorem valid_short : ((hcall F X 60 37 [.str []] []).map fun x => HV.eqb x.1 (.bool false)) = some true := by kernel_rfl

theorem ibin_lss (a b : Int) : hbin .lss none (.int .i64 a) (.int .i64 b) = some (.bool (decide (a < b))) := rfl
theorem ibin_gtr (a b : Int) : hbin .gtr none (.int .i64 a) (.int .i64 b) = some (.bool (decide (a > b))) := rfl
theorem ibin_eql (a b : Int) : hbin .eql (some .int) (.int .u8 a) (.int .u8 b) = some (.bool (decide (a = b))) := rfl
end V
end Go.Proofs.YthihchoccpnfeaaDoor
