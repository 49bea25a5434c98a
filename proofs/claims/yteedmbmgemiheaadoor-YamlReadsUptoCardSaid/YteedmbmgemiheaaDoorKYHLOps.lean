/-
  HL: the operations, one by one.
-/
import Derived.Test.YteedmbmgemiheaaDoorKYHLApp
namespace Go.HL
open Go

section
variable {P : Program} {β : List Ent} {hs : HS} {w : World}

theorem Out.same {x : Sem Value} {u : Value} {v : HV} (E : Emb β hs w) (hr : x.run P w = .ok u w) (h : Rel β v u) : Out P x β hs w v hs := ⟨u, w, β, hr, h, Step.refl E⟩

/-! ### whole numbers -/
def wr : IntKind → Int → Int
  | .i8, n => (n + 128) % 256 - 128
  | .i16, n => (n + 32768) % 65536 - 32768
  | .i32, n => (n + 2147483648) % 4294967296 - 2147483648
  | .i64, n => (n + 9223372036854775808) % 18446744073709551616 - 9223372036854775808
  | .u8, n => n % 256
  | .u16, n => n % 65536
  | .u32, n => n % 4294967296
  | .u64, n => n % 18446744073709551616

theorem wrap_eq (k : IntKind) (n : Int) : k.wrap n = wr k n := by
  cases k <;> simp [IntKind.wrap, IntKind.signed, IntKind.bits, wr] <;> omega

def ibin (op : BinOp) (j k : IntKind) (a b : Int) : Option HV :=
  match op with
  | .shl => if b < 0 then none else some (.int j (wr j (a * 2 ^ (min b.toNat j.bits))))
  | .shr => if b < 0 then none else some (.int j (a.fdiv (2 ^ (min b.toNat j.bits))))
  | .add => if j = k then some (.int j (wr j (a + b))) else none
  | .sub => if j = k then some (.int j (wr j (a - b))) else none
  | .mul => if j = k then some (.int j (wr j (a * b))) else none
  | .quo => if j = k ∧ b ≠ 0 then some (.int j (wr j (a.tdiv b))) else none
  | .rem => if j = k ∧ b ≠ 0 then some (.int j (a.tmod b)) else none
  | .and => if j = k then some (.int j (wr j (BitVec.ofInt j.bits a &&& BitVec.ofInt j.bits b).toNat)) else none
  | .or => if j = k then some (.int j (wr j (BitVec.ofInt j.bits a ||| BitVec.ofInt j.bits b).toNat)) else none
  | .xor => if j = k then some (.int j (wr j (BitVec.ofInt j.bits a ^^^ BitVec.ofInt j.bits b).toNat)) else none
  | .andNot => if j = k then some (.int j (wr j (BitVec.ofInt j.bits a &&& ~~~ BitVec.ofInt j.bits b).toNat)) else none
  | .eql => if j = k then some (.bool (a == b)) else none
  | .neq => if j = k then some (.bool (a != b)) else none
  | .lss => if j = k then some (.bool (decide (a < b))) else none
  | .leq => if j = k then some (.bool (decide (a ≤ b))) else none
  | .gtr => if j = k then some (.bool (decide (b < a))) else none
  | .geq => if j = k then some (.bool (decide (b ≤ a))) else none

/-! ### strings -/
def bless : List UInt8 → List UInt8 → Bool
  | _, [] => false
  | [], _ :: _ => true
  | a :: x, b :: y => a < b || (a == b && bless x y)

theorem bless_eq : ∀ x y : List UInt8, Op.bytesLess x y = bless x y
  | _, [] => by simp [Op.bytesLess, bless]
  | [], _ :: _ => by simp [Op.bytesLess, bless]
  | a :: x, b :: y => by simp [Op.bytesLess, bless, bless_eq x y]

def sbin (op : BinOp) (a b : List UInt8) : Option HV :=
  match op with
  | .add => if a.length + b.length ≤ maxLen then some (.str (a ++ b)) else none
  | .eql => some (.bool (a == b))
  | .neq => some (.bool !(a == b))
  | .lss => some (.bool (bless a b))
  | .leq => some (.bool (bless a b || a == b))
  | .gtr => some (.bool !(bless a b || a == b))
  | .geq => some (.bool !(bless a b))
  | _ => none

/-! ### is it the same? -/
/-- of two values that are no whole numbers, strings or structs. -/
def seq : HV → HV → Option Bool
  | .bool a, .bool b => some (a == b)
  | .int j a, .int k b => if j = k then some (a == b) else none
  | .str a, .str b => some (a == b)
  | .nilPtr, .nilPtr => some true
  | .nilPtr, .ptr _ _ => some false
  | .ptr _ _, .nilPtr => some false
  | .nilSlice, .nilSlice => some true
  | .nilSlice, .slice _ _ _ _ => some false
  | .slice _ _ _ _, .nilSlice => some false
  | .nilMap, .nilMap => some true
  | .nilMap, .map _ => some false
  | .map _, .nilMap => some false
  | .nilFunc, .nilFunc => some true
  | .nilFunc, .func _ _ _ => some false
  | .func _ _ _, .nilFunc => some false
  | .nilIface, .iface _ _ => some false
  | .iface _ _, .nilIface => some false
  | _, _ => none

def un (op : UnOp) : HV → Option HV
  | .bool b => match op with | .not => some (.bool !b) | _ => none
  | .int k n => match op with
    | .neg => some (.int k (wr k (0 - n)))
    | .xor => some (.int k (wr k (BitVec.ofInt k.bits (if k.signed then -1 else k.max) ^^^ BitVec.ofInt k.bits n).toNat))
    | _ => none
  | _ => none

theorem un_sound (E : Emb β hs w) {op : UnOp} {x v : HV} {u : Value} (hx : Rel β x u) (h : un op x = some v) : Out P (Op.unary op u) β hs w v hs := by
  unfold un at h
  split at h
  · simp only [Rel] at hx; subst hx
    split at h
    · simp at h; subst h
      exact Out.same E rfl rfl
    · simp at h
  · simp only [Rel] at hx; subst hx
    split at h
    · simp at h; subst h
      exact Out.same E rfl (by simp [Rel, wrap_eq])
    · simp at h; subst h
      exact Out.same E rfl (by simp [Rel, wrap_eq])
    · simp at h
  · simp at h

theorem ibin_sound (E : Emb β hs w) {op : BinOp} {t : TypeId} {j k : IntKind} {a b : Int} {v : HV} (h : ibin op j k a b = some v) :
    Out P (binOp op t (.int j a) (.int k b)) β hs w v hs := by
  cases op <;> simp only [ibin] at h <;> (try split at h) <;> (try (simp at h; done)) <;> simp only [Option.some.injEq] at h <;> subst h
  case add => rename_i hjk; subst hjk; exact Out.same E (by simp [binOp, Op.intArith]; rfl) (by simp [Rel, wrap_eq])
  case sub => rename_i hjk; subst hjk; exact Out.same E (by simp [binOp, Op.intArith]; rfl) (by simp [Rel, wrap_eq])
  case mul => rename_i hjk; subst hjk; exact Out.same E (by simp [binOp, Op.intArith]; rfl) (by simp [Rel, wrap_eq])
  case quo => rename_i hjk; obtain ⟨rfl, hb⟩ := hjk; exact Out.same E (by simp [binOp, Op.intDiv, hb]; rfl) (by simp [Rel, wrap_eq])
  case rem => rename_i hjk; obtain ⟨rfl, hb⟩ := hjk; exact Out.same E (u := .int j (a.tmod b)) (by simp [binOp, Op.intDiv, hb]) rfl
  case and => rename_i hjk; subst hjk; exact Out.same E (by simp [binOp, Op.intBits]; rfl) (by simp [Rel, wrap_eq])
  case or => rename_i hjk; subst hjk; exact Out.same E (by simp [binOp, Op.intBits]; rfl) (by simp [Rel, wrap_eq])
  case xor => rename_i hjk; subst hjk; exact Out.same E (by simp [binOp, Op.intBits]; rfl) (by simp [Rel, wrap_eq])
  case andNot => rename_i hjk; subst hjk; exact Out.same E (by simp [binOp, Op.intBits]; rfl) (by simp [Rel, wrap_eq])
  case shl => rename_i hb; exact Out.same E (by simp [binOp, Op.shift, hb]; rfl) (by simp [Rel, wrap_eq])
  case shr => rename_i hb; exact Out.same E (u := .int j (a.fdiv (2 ^ (min b.toNat j.bits)))) (by simp [binOp, Op.shift, hb]) rfl
  case eql => rename_i hjk; subst hjk; exact Out.same E (u := .bool (a == b)) (by simp [binOp, Op.intCmp]) rfl
  case neq => rename_i hjk; subst hjk; exact Out.same E (u := .bool (a != b)) (by simp [binOp, Op.intCmp]) rfl
  case lss => rename_i hjk; subst hjk; exact Out.same E (u := .bool (decide (a < b))) (by simp [binOp, Op.intCmp]) rfl
  case leq => rename_i hjk; subst hjk; exact Out.same E (u := .bool (decide (a ≤ b))) (by simp [binOp, Op.intCmp]) rfl
  case gtr => rename_i hjk; subst hjk; exact Out.same E (u := .bool (decide (b < a))) (by simp [binOp, Op.intCmp]) rfl
  case geq => rename_i hjk; subst hjk; exact Out.same E (u := .bool (decide (b ≤ a))) (by simp [binOp, Op.intCmp]) rfl

theorem sbin_sound (E : Emb β hs w) {op : BinOp} {t : TypeId} {a b : List UInt8} {v : HV} (h : sbin op a b = some v) :
    Out P (binOp op t (.string ⟨a.toArray⟩) (.string ⟨b.toArray⟩)) β hs w v hs := by
  have hsz : ∀ a : List UInt8, (⟨a.toArray⟩ : ByteArray).size = a.length := fun a => by simp [ByteArray.size]
  cases op <;> simp only [sbin] at h <;> (try split at h) <;> (try (simp at h; done)) <;> simp only [Option.some.injEq] at h <;> subst h
  case add =>
    rename_i hl
    have : ¬ ((a.length : Int) + (b.length : Int) > IntKind.i64.max) := by simp [IntKind.max, IntKind.signed, IntKind.bits]; simp only [maxLen] at hl; omega
    refine Out.same E (u := .string (⟨a.toArray⟩ ++ ⟨b.toArray⟩)) (by simp only [binOp, Op.stringOp, hsz]; rw [if_neg (by simpa using this)]; rfl) ?_
    simp only [Rel]
    congr 1
  case eql => exact Out.same E (by simp [binOp, Op.stringOp]; rfl) (by simp [Rel])
  case neq => exact Out.same E (by simp [binOp, Op.stringOp]; rfl) (by simp [Rel])
  case lss => exact Out.same E (by simp [binOp, Op.stringOp]; rfl) (by simp [Rel, bless_eq])
  case leq => exact Out.same E (by simp [binOp, Op.stringOp]; rfl) (by simp [Rel, bless_eq])
  case gtr => exact Out.same E (by simp [binOp, Op.stringOp]; rfl) (by simp [Rel, bless_eq])
  case geq => exact Out.same E (by simp [binOp, Op.stringOp]; rfl) (by simp [Rel, bless_eq])

end
end Go.HL
