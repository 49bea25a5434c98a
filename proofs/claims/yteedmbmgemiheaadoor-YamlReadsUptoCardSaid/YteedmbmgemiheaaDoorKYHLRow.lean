/-
  HL: from a contract to a row.
-/
import Derived.Test.YteedmbmgemiheaaDoorKYHLExt
import Derived.Below
import Derived.ChangeSame
import Derived.Carry
import Derived.OpenVars
import Derived.ProofKit
import Derived.OpenShut
namespace Go.HL
open Go Go.RowKit Go.WideShapes Go.ChangeShapes

theorem HC.below {P : Program} {f : FuncId} {args : List HV} {hs : HS} {β : List Ent} {w : World} {us : List Value} {b : Bool} (E : Emb β hs w) (R : RelL β args us) (hro : ∀ (i : Nat) (c : HB), hs[i]? = some (some c) → c.ro = true) (h : HC P f args hs fun v _ => v = .bool b) :
    Calls P f us.toArray w fun e w' => e = .returned (.bool b) ∧ Below w.heap.size w w' := by
  refine (h β w us E R).mono ?_
  rintro e w' ⟨β', u, v, hs', rfl, rfl, hr, S⟩
  simp only [Rel] at hr
  subst hr
  refine ⟨rfl, S.os, S.tape, S.output, S.size, fun k hk => S.same k hk ?_⟩
  rintro ⟨i, e, c, h1, h2, h3, _⟩
  rw [hro i c h2] at h3
  simp at h3

section
variable {H : Type} {enc : TypeId × Value → H} {P : Program}

theorem trodAll_below (hl : laidOutB P = true) {W W' : World} (hb : Below W.heap.size W W') : ∀ {ts : List TypeId} {vs : List Value} {ds : List (DataW H)} {ps : List MemPlace},
    ts.all (fun t => P.readableRec t && decide (t < P.types.size)) = true → DataW.TrodAll enc P W 0 (fun _ => true) true ts vs ds ps → (∀ x ∈ ps, x.block < W.heap.size) → DataW.TrodAll enc P W' 0 (fun b => decide (b < W.heap.size)) true ts vs ds ps
  | [], [], [], _, _, h, _ => h
  | t :: ts, v :: vs, d :: ds, ps, hr, h, hlt => by
    obtain ⟨p, q, h1, h2, rfl⟩ := h
    simp only [List.all_cons, Bool.and_eq_true, decide_eq_true_eq] at hr
    exact ⟨p, q, Below.trod hl hr.1.1 hr.1.2 h1 hb (fun x hx => hlt x (by simp [hx])), trodAll_below hl hb hr.2 h2 (fun x hx => hlt x (by simp [hx])), rfl⟩
  | [], [], _ :: _, _, _, h, _ => h.elim
  | [], _ :: _, _, _, _, h, _ => h.elim
  | _ :: _, [], _, _, _, h, _ => h.elim
  | _ :: _, _ :: _, [], _, _, h, _ => h.elim

/-- a law's row behind a call that answers true and turns nothing that was there. -/
theorem law_post {f : Func} {s : ChangeSpec} {W W' : World} {args : Array Value} {ds gs : List (DataW H)} {before : List MemPlace} {tb : TypeId} (hl : laidOutB P = true) (hres : f.resultTypes = #[tb]) (hbt : P.underlying tb = some .bool)
    (hp : f.params.toList.all (fun t => P.readableRec t && decide (t < P.types.size)) = true) (hvs : varsRowed P s.vars = true) (hW : DataW.Whole enc P f.params.toList s.vars false W args.toList ds gs before)
    (hs : s.fn H (ds ++ gs) = { results := [.lit (.bool true)], args := ds, vars := gs }) (hb : Below W.heap.size W W') : s.post enc P f false true false false W args (.bool true) W' := by
  have hlt : ∀ p ∈ before, p.block < W.heap.size := fun p hp => hW.lt p hp
  obtain ⟨p, q, h1, h2, rfl, h4, h5⟩ := hW
  refine ⟨ds, gs, p ++ q, [], p, q, ⟨p, q, h1, h2, rfl, h4, h5⟩, ?_, ?_, ?_, World.keptBut_mono (fun x hx => ⟨hx, ?_⟩) (hb.frame (· ∈ p ++ q)), fun h => by simp at h⟩
  · rw [hs, hres]
    exact trodAll_mk1 (shut_bool hbt true)
  · rw [hs]
    exact trodAll_below hl hb hp h1 (fun x hx => hlt x (by simp [hx]))
  · rw [hs]
    exact Below.trodVars hl hb hvs h2
  · exact .inr (List.mem_append.1 hx)

end
end Go.HL
