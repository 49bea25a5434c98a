/-
  HL: for proofs of code at values that are not closed.
-/
import Derived.Test.YteedmbmgemiheaaDoorKYHLFun
namespace Go.HL
open Go
variable {ds : List Deferred}

/-- values without memory. -/
def HV.flat : HV → Bool
  | .bool _ | .int _ _ | .str _ => true
  | _ => false

theorem Rel.flat {β β' : List Ent} {v : HV} {u : Value} (hf : v.flat = true) (h : Rel β v u) : Rel β' v u := by
  cases v <;> simp [HV.flat] at hf <;> simpa only [Rel] using h

theorem RelL.flat {β β' : List Ent} : ∀ {xs : List HV} {us : List Value}, xs.all HV.flat = true → RelL β xs us → RelL β' xs us
  | [], _, _, h => h
  | x :: xs, us, hf, h => by
    simp only [List.all_cons, Bool.and_eq_true] at hf
    simp only [RelL] at h ⊢
    obtain ⟨u, us', rfl, h1, h2⟩ := h
    exact ⟨u, us', rfl, Rel.flat hf.1 h1, RelL.flat hf.2 h2⟩

theorem emb_nil (w : World) : Emb [] [] w := ⟨rfl, fun i e b h => by simp at h, fun g i e e' b b' _ h => by simp at h⟩

section
variable {P : Program}

/-- what a call does that is given no memory, it does in any. -/
theorem HC.frame {f : FuncId} {args : List HV} {hs : HS} {R : HV → Prop} (ha : args.all HV.flat = true) (hv : ∀ v, R v → v.flat = true) (h : HC P f args [] fun v _ => R v) : HC P f args hs fun v hs' => R v ∧ hs' = hs := by
  intro β w us E Ra
  refine (h [] w us (emb_nil w) (Ra.flat ha)).mono ?_
  rintro e w' ⟨β', u, v, hs', rfl, hR, hr, S⟩
  have same : ∀ k, k < w.heap.size → w'.heap[k]? = w.heap[k]? := fun k hk => S.same k hk (by rintro ⟨i, e, b, h1, _⟩; simp at h1)
  refine ⟨β, u, v, hs, rfl, ⟨hR, rfl⟩, hr.flat (hv v hR), ⟨Ext.refl _, ⟨E.len, fun i e b h1 h2 => ?_, E.sep⟩, S.size, fun k hk _ => same k hk, fun _ _ h => h, S.os, S.output, S.tape, fun _ _ hl he => absurd (lt_of_get he) (by omega)⟩⟩
  have hB := E.blk i e b h1 h2
  exact hB.world (same _ hB.lt)

/-- a frame that knows less. -/
def Less (fr fr' : List HV) : Prop := fr.length = fr'.length ∧ ∀ (i : Nat) (x : HV), fr[i]? = some x → x = .undef ∨ fr'[i]? = some x

theorem Less.rel {β : List Ent} {fr fr' : List HV} {a : Act} (h : Less fr fr') (F : FrRel ds β fr' a) : FrRel ds β fr a := by
  refine ⟨by rw [h.1, F.len], fun i x hx => ?_, F.defers⟩
  rcases h.2 i x hx with rfl | h2
  · have hlt : i < a.tmps.size := by rw [← F.len, ← h.1]; exact lt_of_get hx
    exact ⟨a.tmps[i], by simp [hlt], trivial⟩
  · exact F.get i x h2

theorem HW.less {ro : Option Nat} {c : HCode} {fr fr' : List HV} {hs : HS} {Q : HExit → List HV → HS → Prop} (h : Less fr fr') (hw : HWr P ro c fr hs Q) : HWr P ro c fr' hs Q :=
  fun k c' hc ds β a w rb hr0 E F => hw k c' hc ds β a w rb hr0 E (h.rel F)

theorem Less.nil : Less [] [] := ⟨rfl, fun i x h => by simp at h⟩
theorem Less.undef {a b : List HV} (y : HV) (h : Less a b) : Less (.undef :: a) (y :: b) := by
  refine ⟨by simp [h.1], fun i x hx => ?_⟩
  cases i with
  | zero => simp at hx; exact .inl hx.symm
  | succ i => simpa using h.2 i x (by simpa using hx)
theorem Less.keep {a b : List HV} (y : HV) (h : Less a b) : Less (y :: a) (y :: b) := by
  refine ⟨by simp [h.1], fun i x hx => ?_⟩
  cases i with
  | zero => exact .inr hx
  | succ i => simpa using h.2 i x (by simpa using hx)

/-! one operation of a region -/
theorem HL.op {q : HOp} {dst : Option Nat} {r : List HOper} {fr : List HV} {hs hs' : HS} {K : List HV → HS → Prop} {v : HV} (h : hop q fr hs = some (v, hs')) (next : HL P r (put fr dst v) hs' K) : HL P (⟨dst, .op q, none⟩ :: r) fr hs K :=
  ⟨true, rfl, by simp only [if_true]; exact ⟨v, hs', h, next⟩⟩

theorem HL.call {f : HX} {args : List HX} {dst : Option Nat} {r : List HOper} {fr : List HV} {hs : HS} {K : List HV → HS → Prop} {g : FuncId} {xs : List HV} (hg : calleeOf (f.ev fr) (args.map (HX.ev fr)) = some (g, xs))
    (h : HCall P g xs hs fun v hs' => HL P r (put fr dst v) hs' K) : HL P (⟨dst, .call f args, none⟩ :: r) fr hs K :=
  ⟨true, rfl, by simp only [if_true]; exact ⟨.fn g, xs, calleeC_fn hg, h⟩⟩

theorem HL.mono {K K' : List HV → HS → Prop} (hk : ∀ fr hs, K fr hs → K' fr hs) : ∀ {l : List HOper} {fr : List HV} {hs : HS}, HL P l fr hs K → HL P l fr hs K'
  | [], fr, hs, h => hk fr hs h
  | o :: r, fr, hs, h => by
    obtain ⟨b, hw, h⟩ := h
    refine ⟨b, hw, ?_⟩
    cases b with
    | true =>
      simp only [if_true] at h ⊢
      exact HAct.does_mono h fun v hs' h => HL.mono hk h
    | false =>
      simp only [Bool.false_eq_true, if_false] at h ⊢
      exact HL.mono hk h

theorem HL.nil {fr : List HV} {hs : HS} {K : List HV → HS → Prop} (h : K fr hs) : HL P [] fr hs K := h

/-- a call's contract, as a region wants it. -/
theorem HC.call {f : FuncId} {args : List HV} {hs : HS} {Q K : HV → HS → Prop} (ok : okF P f) (h : HC P f args hs Q) (hk : ∀ v hs, Q v hs → K v hs) : HCall P f args hs K := .inl ⟨ok, h.mono hk⟩

end
end Go.HL
