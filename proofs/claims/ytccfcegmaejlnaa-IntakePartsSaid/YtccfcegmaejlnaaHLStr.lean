/-
  HL: functions of the library on strings, by what the kit says of them.
-/
import Derived.Test.YtccfcegmaejlnaaHLExt
import Derived.Lib.Bytealg
import Derived.Lib.Join
import Derived.Below
namespace Go.HL
open Go Go.RowKit

def xCountStr : List HV → HS → Option (HV × HS)
  | [.str b, .int .u8 c], hs => some (.int .i64 (Lib.countByte b c.toNat.toUInt8 : Nat), hs)
  | _, _ => none

theorem xCountStr_sound {P : Program} {f : FuncId} {fn : Func} (hf : P.funcs[f]? = some fn) (hname : (fn.name == "runtime.NumGoroutine") = false) (hb : fn.body.isNone = true) (hn : Extern.findNext fn = none) (he : Extern.find fn = some Extern.BytealgCount.count)
    {args : List HV} {hs : HS} {v : HV} {hs' : HS} (h : xCountStr args hs = some (v, hs')) : HCall P f args hs fun v1 hs1 => v1 = v ∧ hs1 = hs' := by
  refine .inr (HXt.of_extern hf hname hb hn he fun β w us E R => ?_)
  unfold xCountStr at h
  split at h
  · rename_i b c
    simp at h; obtain ⟨rfl, rfl⟩ := h
    simp only [RelL, Rel] at R
    obtain ⟨_, _, rfl, rfl, _, _, rfl, rfl, rfl⟩ := R
    refine Out.same E (Lib.run_countString _ c w) ?_
    simp [Rel]
  · simp at h

def strs : List HV → Option (List (List UInt8))
  | [] => some []
  | .str b :: r => (strs r).map (b :: ·)
  | _ => none

theorem strs_get : ∀ {cs : List HV} {xs : List (List UInt8)}, strs cs = some xs → cs = xs.map HV.str
  | [], xs, h => by simp [strs] at h; subst h; rfl
  | c :: cs, xs, h => by
    unfold strs at h
    split at h
    · rename_i hx; simp at hx
    · rename_i b r hx
      obtain ⟨rfl, rfl⟩ := List.cons.inj hx
      simp only [Option.map_eq_some_iff] at h
      obtain ⟨l, hl, rfl⟩ := h
      rw [strs_get hl]; rfl
    · simp at h

/-- strings.Join of known strings. -/
def xJoin : List HV → HS → Option (HV × HS)
  | [.slice h o n c, .str sep], hs => match takeCells hs 1 (.slice h o n c) with
    | some (_, cs) => match strs cs with
      | some xs => if 0 < n ∧ n ≤ 140737488355328 ∧ (Lib.join xs sep).length ≤ 140737488355328 then some (.str (Lib.join xs sep), hs) else none
      | none => none
    | none => none
  | _, _ => none

theorem Step.below {β : List Ent} {hs : HS} {w w' : World} (E : Emb β hs w) (h : Below w.heap.size w w') : Step β hs w β hs w' := by
  refine ⟨Ext.refl _, ⟨E.len, fun i e b h1 h2 => ?_, E.sep⟩, h.size, fun k hk _ => h.block k hk, fun _ _ h => h, h.os, h.output, h.tape, fun _ _ hl he => absurd (lt_of_get he) (by omega)⟩
  have hB := E.blk i e b h1 h2
  exact hB.world (h.block _ hB.lt)

theorem xJoin_sound {P : Program} {f : FuncId} (hok : okF P f)
    (hJ : ∀ (bk o c : Nat) (xs : List ByteArray) (sep : ByteArray) (w : World), (∀ (j : Nat) x, xs[j]? = some x → w.cell? ⟨bk, o + j, none⟩ = some (.string x)) → bk < w.heap.size → xs.length ≤ 140737488355328 → xs.length ≤ c →
      (Lib.join (xs.map (·.data.toList)) sep.data.toList).length ≤ 140737488355328 →
      Calls P f #[.slice (some ⟨bk, o, none⟩) xs.length c, .string sep] w fun e w' => e = .returned (.string ⟨(Lib.join (xs.map (·.data.toList)) sep.data.toList).toArray⟩) ∧ Below w.heap.size w w')
    {args : List HV} {hs : HS} {v : HV} {hs' : HS} (h : xJoin args hs = some (v, hs')) : HCall P f args hs fun v1 hs1 => v1 = v ∧ hs1 = hs' := by
  refine .inl ⟨hok, fun β w us E R => ?_⟩
  unfold xJoin at h
  split at h
  · rename_i hh o n c sep
    split at h
    · rename_i m cs ht
      split at h
      · rename_i xs hxs
        split at h
        · rename_i hb
          simp at h; obtain ⟨rfl, rfl⟩ := h
          simp only [RelL] at R
          obtain ⟨u1, _, rfl, R1, u2, _, rfl, R2, rfl⟩ := R
          simp only [Rel] at R1 R2
          subst R2
          obtain ⟨e, a, c', he, rfl, hlc, -, ha⟩ := R1
          have ha' := ha (by omega)
          subst ha'
          have hcs := strs_get hxs
          simp only [takeCells] at ht
          rw [if_neg (by omega)] at ht
          split at ht
          · rename_i s' cs' ro opn olds hbk
            split at ht
            · rename_i hle
              obtain ⟨rfl, hle⟩ := hle
              simp only [Nat.mul_one] at hle ht
              simp at ht; obtain ⟨rfl, rfl⟩ := ht
              have hB := E.blk hh e _ he hbk
              obtain ⟨us, r1, r2, _, r4⟩ := hB.seg o n hle
              have hes := hB.1
              rw [hcs] at r1
              have hlen : xs.length = n := by have := r1.length; simp at this; omega
              have key := hJ e.blk (e.shift + o) c' (xs.map fun b => ⟨b.toArray⟩) ⟨sep.toArray⟩ w (fun j x hj => ?_) hB.lt (by simp; omega) (by simp; omega) (by
                simp only [List.map_map, Function.comp_def]
                simpa using hb.2.2)
              · simp only [List.length_map, List.map_map, Function.comp_def, hlen] at key
                rw [hes, Nat.mul_one]
                refine key.mono ?_
                rintro e' w' ⟨rfl, hbel⟩
                refine ⟨β, _, _, _, rfl, ⟨rfl, rfl⟩, ?_, Step.below E hbel⟩
                simp [Rel]
              · rw [List.getElem?_map] at hj
                cases hx : xs[j]? with
                | none => rw [hx] at hj; simp at hj
                | some b =>
                  rw [hx] at hj; simp at hj; subst hj
                  obtain ⟨u, h1, h2⟩ := r1.get (show (xs.map HV.str)[j]? = some (.str b) by rw [List.getElem?_map, hx]; rfl)
                  simp only [Rel] at h2; subst h2
                  exact r4 j _ h1
            · simp at ht
          · simp at ht
        · simp at h
      · simp at h
    · simp at h
  · simp at h
end Go.HL
