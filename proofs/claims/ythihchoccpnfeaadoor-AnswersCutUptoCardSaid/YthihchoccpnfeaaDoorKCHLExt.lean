/-
  HL: functions of the library that have no body: by what the model says of them.
-/
import Derived.Test.YthihchoccpnfeaaDoorKCHLFun
import Derived.Laws.StandIn
namespace Go.HL
open Go

theorem HXt.of_extern {P : Program} {f : FuncId} {fn : Func} {e : Array Value → Sem Value} (hf : P.funcs[f]? = some fn) (hname : (fn.name == "runtime.NumGoroutine") = false) (hb : fn.body.isNone = true) (hn : Extern.findNext fn = none) (he : Extern.find fn = some e)
    {args : List HV} {hs : HS} {v : HV} {hs' : HS} (h : ∀ (β : List Ent) (w : World) (us : List Value), Emb β hs w → RelL β args us → Out P (e us.toArray) β hs w v hs') : HXt P f args hs fun v1 hs1 => v1 = v ∧ hs1 = hs' := by
  intro β w us E R
  obtain ⟨u, w', β', h1, h2, h3⟩ := h β w us E R
  refine ⟨w', β', u, v, hs', ?_, ⟨rfl, rfl⟩, h2, h3⟩
  rw [run_callFunc_extern hf hname hb hn he, h1]
  rfl

def idxByte (c : UInt8) : List UInt8 → Nat → Int
  | [], _ => -1
  | x :: r, i => if x == c then (i : Int) else idxByte c r (i + 1)

theorem firstIdx_list (b : List UInt8) (c : UInt8) : firstIdx ⟨b.toArray⟩ c = idxByte c b 0 := by
  have hsz : (⟨b.toArray⟩ : ByteArray).size = b.length := by simp [ByteArray.size]
  have hget : ∀ i, i < b.length → (⟨b.toArray⟩ : ByteArray)[i]! = b[i]?.getD 0 := by
    intro i hi
    have h1 : i < (⟨b.toArray⟩ : ByteArray).size := by omega
    rw [getElem!_pos _ i h1, List.getElem?_eq_getElem hi]
    rfl
  unfold firstIdx
  rw [hsz]
  have key : ∀ (r : List UInt8) (k : Nat), (∀ i, i < r.length → b[k + i]? = r[i]?) → k + r.length = b.length →
      (match (List.range' k r.length).find? fun i => (⟨b.toArray⟩ : ByteArray)[i]! == c with | some i => (i : Int) | none => -1) = idxByte c r k := by
    intro r
    induction r with
    | nil => intro k _ _; rfl
    | cons x r ih =>
      intro k hk hl
      have hx : (⟨b.toArray⟩ : ByteArray)[k]! = x := by
        rw [hget k (by simp at hl; omega)]
        have := hk 0 (by simp)
        simp at this
        rw [this]; rfl
      rw [List.length_cons, List.range'_succ, List.find?_cons, hx]
      unfold idxByte
      cases hxc : x == c with
      | true => simp
      | false =>
        simp only [Bool.false_eq_true, if_false]
        exact ih (k + 1) (fun i hi => by
          have := hk (i + 1) (by simp; omega)
          rw [show k + 1 + i = k + (i + 1) by omega]
          simpa using this) (by simp at hl; omega)
  rw [List.range_eq_range']
  exact key b 0 (by simp) (by simp)

def xIndexByte : List HV → HS → Option (HV × HS)
  | [.str b, .int .u8 c], hs => some (.int .i64 (idxByte c.toNat.toUInt8 b 0), hs)
  | _, _ => none

theorem xIndexByte_sound {P : Program} {f : FuncId} {fn : Func} (hf : P.funcs[f]? = some fn) (hname : (fn.name == "runtime.NumGoroutine") = false) (hb : fn.body.isNone = true) (hn : Extern.findNext fn = none) (he : Extern.find fn = some Extern.BytealgIndexByte.indexByte)
    {args : List HV} {hs : HS} {v : HV} {hs' : HS} (h : xIndexByte args hs = some (v, hs')) : HCall P f args hs fun v1 hs1 => v1 = v ∧ hs1 = hs' := by
  refine .inr (HXt.of_extern hf hname hb hn he fun β w us E R => ?_)
  unfold xIndexByte at h
  split at h
  · rename_i b c
    simp at h; obtain ⟨rfl, rfl⟩ := h
    simp only [RelL, Rel] at R
    obtain ⟨_, _, rfl, rfl, _, _, rfl, rfl, rfl⟩ := R
    refine Out.same E (run_indexByte_string _ c w) ?_
    rw [firstIdx_list]
    rfl
  · simp at h

end Go.HL
