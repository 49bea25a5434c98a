/-
  HL: ranges over functions: the statement, a round.
-/
import Derived.Test.YteedmbmgemiheaaDoorKYHLTree
import Derived.Test.YteedmbmgemiheaaDoorKYHLFun
import Derived.RangeFuncNested
namespace Go.HL
open Go
variable {P : Program}

/-- a new block that nobody here knows. -/
theorem Step.alloc0 {β : List Ent} {hs : HS} {w : World} (E : Emb β hs w) (o : Obj) : Step β hs w β hs (w.alloc o) := by
  have hold : ∀ k, k < w.heap.size → (w.alloc o).heap[k]? = w.heap[k]? := fun k hk => by show (w.heap.push o)[k]? = _; rw [Array.getElem?_push_lt hk]; simp [hk]
  refine ⟨Ext.refl _, ⟨E.len, fun i e b h1 h2 => ?_, E.sep⟩, by show w.heap.size ≤ (w.heap.push o).size; simp, fun k hk _ => hold k hk, fun _ _ h => h, rfl, rfl, rfl, fun _ _ hl he => absurd (lt_of_get he) (by omega)⟩
  have hB := E.blk i e b h1 h2
  exact hB.world (hold _ hB.lt)

def jumpExit : Option (Option Nat) → HExit
  | none => .normal
  | some none => .ret
  | some (some id) => .exit id

/-- the loop's record turns. -/
theorem Step.loop {β : List Ent} {hs : HS} {w : World} (E : Emb β hs w) {h : Nat} {e : Ent} {st st' : LoopState} {pend pend' : Option (Option Nat)} {fr : List HV} {ps : List Nat} {a b : Code} {r : Loop} (he : β[h]? = some e) (hl : hs[h]? = some (some (.loop st pend fr ps a b)))
    (hr : w.heap[e.blk]? = some (.loop r)) (r' : Loop) (h1 : r'.state = st') (h2 : r'.pending = pend'.map jumpCode) (h3 : r'.params = r.params) (h4 : r'.assign = r.assign) (h5 : r'.body = r.body) (h6 : r'.tmps = r.tmps) :
    Step β hs w β (hs.set h (some (.loop st' pend' fr ps a b))) (w.putObj e.blk (.loop r')) := by
  obtain ⟨r0, q1, q2, q3, q4, q5, q6, q7, q8⟩ := E.blk h e _ he hl
  rw [hr] at q1
  simp at q1; subst q1
  have hlt := lt_of_geta hr
  have S := Step.upd (w' := w.putObj e.blk (.loop r')) E (b' := .loop st' pend' fr ps a b) he hl rfl rfl (by simp [World.putObj])
    (fun k hk => World.putObj_heap_other hk) ⟨r', World.putObj_heap_same hlt, h1, h2, by rw [h3]; exact q4, by rw [h4]; exact q5, by rw [h5]; exact q6, by rw [h6]; exact q7, by rw [h6]; exact q8⟩ rfl rfl rfl
  simpa only [HB.olds, killAll, List.foldl_nil] using S

theorem Own.less {β : List Ent} {hs : HS} {h k : Nat} (ho : Own β (hs.set h none) k) : Own β hs k := by
  obtain ⟨i, e, b, h1, h2, h3, h4⟩ := ho
  refine ⟨i, e, b, h1, ?_, h3, h4⟩
  rw [List.getElem?_set] at h2
  split at h2
  · split at h2 <;> simp at h2
  · exact h2

theorem Step.forget {β : List Ent} {hs : HS} {w : World} (E : Emb β hs w) (h : Nat) : Step β hs w β (hs.set h none) w :=
  Step.sub E (by simp) fun i b hb => by
    rw [List.getElem?_set] at hb
    split at hb
    · split at hb <;> simp at hb
    · exact hb

/-- A RANGE OVER A FUNCTION. -/
theorem HW.rangeFunc {g : HX} {ps : List Nat} {a b : Code} {fr : List HV} {hs : HS} {Q : HExit → List HV → HS → Prop} {gf : FuncId} {first cap : List HV} (hg : g.ev fr = .func (.func gf) first cap) (ok : okF P gf)
    (h : HC P gf (first ++ [.yld hs.length] ++ cap) (hs ++ [some (.loop .ready none fr ps a b)]) fun _ hs2 => ∃ st pend fr' ps' a' b', hs2[hs.length]? = some (some (.loop st pend fr' ps' a' b')) ∧ st ≠ .busy ∧ Q (jumpExit pend) fr (hs2.set hs.length none)) :
    HW P (.rangeFunc g ps a b) fr hs Q := by
  intro k c' hc ds β act w rb hr0 E F
  obtain rfl : rb = none := hr0
  cases c' <;> simp only [cCode] at hc <;> (try (simp at hc; done))
  case rangeFunc g0 ps0 a0 b0 =>
    split at hc
    · rename_i g1 h1
      simp at hc; obtain ⟨rfl, rfl, rfl, rfl⟩ := hc
      have hfr := cX_rel F h1
      rw [hg] at hfr
      simp only [Rel] at hfr
      obtain ⟨us, ws, hv, q1, q2, q3⟩ := hfr
      obtain ⟨fnb, e1, e2, e3⟩ := ok
      refine wpIn_rangeFunc ?_
      intro fn _
      have S0 := Step.alloc0 E (.deferred (some []))
      have hsz0 : (w.alloc (.deferred (some []))).heap.size = w.heap.size + 1 := by show (w.heap.push _).size = _; simp
      obtain ⟨rc, hrc⟩ : ∃ rc : Loop, rc = { state := .ready, pending := none, fn, tmps := act.tmps, params := ps0, assign := a0, body := b0, defers := w.heap.size } := ⟨_, rfl⟩
      have S1 := Step.new S0.emb (.loop rc) ⟨w.heap.size + 1, 0, 0, 0⟩ (.loop .ready none fr ps0.toList a0 b0) hsz0.symm
        ⟨rc, by rw [← hsz0]; exact heap_alloc_new _ _, by rw [hrc], by rw [hrc]; rfl, by rw [hrc], by rw [hrc], by rw [hrc], by rw [hrc]; exact F.len, fun i x hx => by obtain ⟨u, g1, g2⟩ := F.get i x hx; exact ⟨u, by rw [hrc]; exact g1, g2.mono (Ext.snoc _ _) _ _⟩⟩
      obtain ⟨W1, hW1⟩ : ∃ W, (w.alloc (.deferred (some []))).alloc (.loop rc) = W := ⟨_, rfl⟩
      have henter : (Instr.enterLoop fn act.tmps ps0 a0 b0 (FR none).round).run P w = .ok (w.heap.size + 1, [mkM w.heap.size]) W1 := by
        rw [← hW1, hrc]; exact run_enterLoop_outer _ _ _ _ _
      have hD1 : W1.heap[w.heap.size]? = some (.deferred (some [])) := by
        rw [← hW1]
        show ((w.heap.push _).push _)[w.heap.size]? = _
        rw [Array.getElem?_push_lt (by simp)]
        simp
      rw [hW1] at S1
      have S01 := S0.trans S1
      have hyl : (β ++ [⟨w.heap.size + 1, 0, 0, 0⟩] : List Ent)[hs.length]? = some ⟨w.heap.size + 1, 0, 0, 0⟩ := by rw [← E.len]; exact get_snoc_last _ _
      obtain ⟨β1, hβ1⟩ : ∃ b, β ++ [⟨w.heap.size + 1, 0, 0, 0⟩] = b := ⟨_, rfl⟩
      have hext : Ext β β1 := by rw [← hβ1]; exact Ext.snoc _ _
      have hmid : RelL β1 [.yld hs.length] [.func (.yield (w.heap.size + 1)) #[] #[]] := by
        simp only [RelL, Rel]
        exact ⟨_, [], rfl, ⟨_, by rw [← hβ1]; exact hyl, rfl⟩, rfl⟩
      have hR : RelL β1 (first ++ [.yld hs.length] ++ cap) (us.toList ++ [Value.func (.yield (w.heap.size + 1)) #[] #[]] ++ ws.toList) :=
        ((q1.mono hext _ _).append hmid).append (q2.mono hext _ _)
      have hnO : ¬ Own β1 (hs ++ [some (.loop .ready none fr ps0.toList a0 b0)]) w.heap.size := by
        rw [← hβ1]
        rintro ⟨i, e, c, g1, g2, g3, g4⟩
        rcases get_snoc g1 with g5 | ⟨g5, rfl⟩
        · rcases get_snoc g2 with g6 | ⟨g6, _⟩
          · have := (E.blk i e c g5 g6).lt
            omega
          · have := lt_of_get g5; rw [E.len] at this; omega
        · simp at g4
      rw [hβ1] at S1 S01 hyl
      have hcall := h _ _ _ S1.emb hR
      have hres : (resolve act.eval (rangeCall g0 (w.heap.size + 1)) 0).run P W1 = .ok { target := .fn (.func gf) ws, args := us ++ #[.func (.yield (w.heap.size + 1)) #[] #[]] } W1 := by
        show (Deferred.ofValue (act.eval g0) (#[Operand.const (.func (.yield (w.heap.size + 1)) #[] #[])].map act.eval)).run P W1 = _
        rw [hv]
        simp [Deferred.ofValue, Act.eval]
      have hinv : (invoke (.fn (.func gf) ws) (us ++ #[Value.func (.yield (w.heap.size + 1)) #[] #[]])).run P W1 = .ok (.enter gf (us.toList ++ [Value.func (.yield (w.heap.size + 1)) #[] #[]] ++ ws.toList).toArray) W1 := by
        have hb : fnb.body ≠ none := by cases hbd : fnb.body <;> simp_all
        have e2' : fnb.name ≠ "runtime.NumGoroutine" := by simpa using e2
        simp [invoke, callFunc, e1, e2', hb]
      refine ⟨w.heap.size + 1, [mkM w.heap.size], W1, _, W1, gf, _, W1, henter, hres, fun _ _ => trivial, hinv, fun h => by simp [FR] at h, calls_FR (hcall.mono ?_)⟩
      rintro e' w2 ⟨β2, u, v, hs2, rfl, ⟨st, pend, fr', ps', a', b', hl2, hst, hq⟩, _, S2⟩
      have he2 := S2.ext.get hyl
      obtain ⟨r, p1, p2, p3, p4, p5, p6, p7, p8⟩ := S2.emb.blk hs.length _ _ he2 hl2
      have hnb : r.state ≠ .busy := by rw [p2]; exact hst
      have hend := run_endLoop (P := P) p1 hnb
      have S3 := Step.loop S2.emb he2 hl2 p1 { r with state := .exhausted } (st' := .exhausted) (pend' := pend) rfl p3 rfl rfl rfl rfl
      have S4 := Step.forget S3.emb hs.length
      rw [List.set_set] at S4
      have S := S01.trans (S2.trans (S3.trans S4))
      have hDlt := lt_of_geta hD1
      have hD2 : w2.heap[w.heap.size]? = some (.deferred (some [])) := by rw [S2.same _ hDlt hnO]; exact hD1
      have M : Marks w ds (mkM w.heap.size :: ds) β2 (hs2.set hs.length none) (w2.putObj (w.heap.size + 1) (.loop { r with state := .exhausted })) [w.heap.size] := by
        refine ⟨rfl, by simp, fun D hD => ?_⟩
        simp at hD; subst hD
        refine ⟨Nat.le_refl _, ?_, fun ho => ?_⟩
        · rw [World.putObj_heap_other (by omega)]; exact hD2
        · exact hnO (S2.own _ hDlt (Own.less ho))
      have F' : FrRel (mkM w.heap.size :: ds) β2 fr { act with defers := [mkM w.heap.size] ++ act.defers } := by
        refine ⟨F.len, fun i x hx => ?_, by rw [F.defers]; rfl⟩
        obtain ⟨u, g1, g2⟩ := F.get i x hx
        exact ⟨u, g1, (g2.mono hext _ _).mono S2.ext _ _⟩
      obtain ⟨W4, hW4⟩ : ∃ W, w2.putObj (w.heap.size + 1) (.loop { r with state := .exhausted }) = W := ⟨_, rfl⟩
      have hend' : (Instr.endLoop (w.heap.size + 1)).run P w2 = .ok r.pending W4 := by rw [← hW4]; exact hend
      have S' : Step β hs w β2 (hs2.set hs.length none) W4 := by rw [← hW4]; exact S
      rw [hW4] at M
      refine ⟨r.pending, W4, hend', ?_⟩
      rw [p3]
      cases pend with
      | none => exact ⟨.normal, β2, fr, _, rfl, hq, ⟨_, _, F', M⟩, S'⟩
      | some j => cases j with
        | none => exact wpIn_ret ⟨.ret, β2, fr, _, rfl, hq, ⟨_, _, F', M⟩, S'⟩
        | some id => exact wpIn_exit ⟨.exit id, β2, fr, _, rfl, hq, ⟨_, _, F', M⟩, S'⟩
    · simp at hc
  all_goals (split at hc <;> (try split at hc) <;> (try split at hc) <;> (try split at hc) <;> simp at hc)

/-! ### a round -/
def setAll : List Nat → List HV → List HV → List HV
  | t :: ps, x :: xs, fr => setAll ps xs (fr.set t x)
  | _, _, fr => fr

theorem setAll_rel {β : List Ent} : ∀ (ps : List Nat) (xs : List HV) (us : List Value) (fr : List HV) (T : Array Value), RelL β xs us → ps.length = xs.length → FrRel [] β fr { tmps := T, defers := [] } →
    FrRel [] β (setAll ps xs fr) { tmps := (ps.zip us).foldl (fun tmps (t, a) => tmps.setIfInBounds t a) T, defers := [] }
  | [], xs, us, fr, T, R, hl, F => by
    cases xs with
    | nil => simp only [RelL] at R; subst R; exact F
    | cons => simp at hl
  | t :: ps, xs, us, fr, T, R, hl, F => by
    cases xs with
    | nil => simp at hl
    | cons x xs =>
      simp only [RelL] at R
      obtain ⟨u, us', rfl, h1, h2⟩ := R
      simp only [setAll, List.zip_cons_cons, List.foldl_cons]
      exact setAll_rel ps xs us' _ _ h2 (by simpa using hl) (F.put (some t) h1)

/-- the record behind a round's end. -/
def afterE : HExit → LoopState × Option (Option Nat)
  | .normal => (.ready, none)
  | .ret => (.done, some none)
  | .exit id => (.done, some (some id))
def isNormal : HExit → Bool
  | .normal => true
  | _ => false

theorem HYld.of {h : Nat} {fr : List HV} {ps : List Nat} {a b : Code} {ha hb : HCode} {ka kb : List (Nat × List Nat)} {xs : List HV} {hs : HS} {K : HV → HS → Prop} (hl : hs[h]? = some (some (.loop .ready none fr ps a b))) (hps : ps.length = xs.length)
    (ca : cCode P ka a = some ha) (cb : cCode P kb b = some hb)
    (H : HWr P (some h) ha (setAll ps xs fr) hs fun e fr2 hs2 => e = .normal ∧ ∃ fr1 ps1 a1 b1, hs2[h]? = some (some (.loop .ready none fr1 ps1 a1 b1)) ∧
      HWr P (some h) hb fr2 (hs2.set h (some (.loop .busy none fr1 ps1 a1 b1))) fun e3 _ hs3 => ∃ fr4 ps4 a4 b4, hs3[h]? = some (some (.loop .busy none fr4 ps4 a4 b4)) ∧
        K (.bool (isNormal e3)) (hs3.set h (some (.loop (afterE e3).1 (afterE e3).2 fr4 ps4 a4 b4)))) : HYld P h xs hs K := by
  intro β w us e E R he
  obtain ⟨r, p1, p2, p3, p4, p5, p6, p7, p8⟩ := E.blk h e _ he hl
  have hsz : us.toArray.size = r.params.size := by
    have h0 := R.length
    have h1 : r.params.size = ps.length := by rw [← Array.length_toList, p4]
    simp
    omega
  have hy := run_yield (P := P) p1 hsz
  refine ⟨_, _, _, _, hy, ?_⟩
  have F0 : FrRel [] β (setAll ps xs fr) { tmps := (r.params.zip us.toArray).foldl (fun tmps (t, a) => tmps.setIfInBounds t a) r.tmps, defers := [] } := by
    have h0 := setAll_rel ps xs us fr r.tmps R hps ⟨p7, p8, rfl⟩
    rw [← Array.foldl_toList, Array.toList_zip, p4]
    exact h0
  refine roundIn_of_wpIn trivial ?_
  rw [p5]
  refine Code.wpIn_mono ?_ (H ka a ca [] β _ w (some e.blk) ⟨e, he, rfl⟩ E F0)
  rintro e1 a1 w1 ⟨he1, β1, fr2, hs2, rfl, ⟨rfl, fr1, ps1, a1', b1', hl2, Hb⟩, ⟨ds1, ms1, F1, M1⟩, S1⟩
  have he' := S1.ext.get he
  obtain ⟨r1, g1, g2, g3, g4, g5, g6, g7, g8⟩ := S1.emb.blk h e _ he' hl2
  have hbr := run_beginRound (P := P) g1 g2
  refine ⟨_, hbr, ?_⟩
  have S2 := Step.loop S1.emb he' hl2 g1 { r1 with state := .busy } (st' := .busy) (pend' := none) rfl g3 rfl rfl rfl rfl
  rw [p6]
  refine Code.wpIn_mono ?_ (Hb kb b cb ds1 β1 a1 _ (some e.blk) ⟨e, he', rfl⟩ S2.emb F1)
  rintro e3 a3 w3 ⟨he3, β3, fr3, hs3, rfl, ⟨fr4, ps4, a4, b4, hl3, hK⟩, _, S3⟩
  have he3' := S3.ext.get he'
  obtain ⟨r3, k1, k2, k3, k4, k5, k6, k7, k8⟩ := S3.emb.blk h e _ he3' hl3
  have fin : ∀ (j : Option (Option Nat)), (j = none ∧ isNormal he3 = true ∧ afterE he3 = (.ready, none)) ∨ (∃ x, j = some x ∧ isNormal he3 = false ∧ afterE he3 = (.done, j)) →
      ∃ v w', (Instr.endRound e.blk (j.map jumpCode)).run P w3 = .ok v w' ∧ ∃ β' u v1 hs', Ending.returned v = .returned u ∧ K v1 hs' ∧ Rel β' v1 u ∧ Step β hs w β' hs' w' := by
    intro j hj
    have hend := run_endRound (P := P) (j.map jumpCode) k1
    refine ⟨_, _, hend, β3, _, .bool (isNormal he3), _, rfl, hK, ?_, ?_⟩
    · rcases hj with ⟨rfl, h1, _⟩ | ⟨x, rfl, h1, _⟩ <;> (rw [h1]; rfl)
    · refine S1.trans (S2.trans (S3.trans ?_))
      refine Step.loop S3.emb he3' hl3 k1 _ ?_ ?_ rfl rfl rfl rfl
      · rcases hj with ⟨rfl, _, h2⟩ | ⟨x, rfl, _, h2⟩ <;> (rw [h2]; rfl)
      · rcases hj with ⟨rfl, _, h2⟩ | ⟨x, rfl, _, h2⟩ <;> (rw [h2])
  cases he3 with
  | normal => exact fin none (.inl ⟨rfl, rfl, rfl⟩)
  | ret => exact fin (some none) (.inr ⟨_, rfl, rfl, rfl⟩)
  | exit id => exact fin (some (some id)) (.inr ⟨_, rfl, rfl, rfl⟩)
end Go.HL
