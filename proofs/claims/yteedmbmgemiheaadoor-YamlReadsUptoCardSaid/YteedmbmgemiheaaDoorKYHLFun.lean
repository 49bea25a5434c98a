/-
  HL: functions; a run by reckoning.
-/
import Derived.Test.YteedmbmgemiheaaDoorKYHLDraw
import Derived.RangeFuncLeaves
import Derived.RangeFuncRecord
namespace Go.HL
open Go
variable {ds : List Deferred}

inductive HRes where
  | tmp (t : Nat)
  | cell (t : Nat) (n : Option Nat)

structure HFn where
  ntmps : Nat
  res : List HRes
  body : HCode

def cRes (P : Program) : ResultVar → Option HRes
  | .tmp t => some (.tmp t)
  | .cell t ty => (aggT P ty).map (.cell t)

def cRess (P : Program) : List ResultVar → Option (List HRes)
  | [] => some []
  | r :: rs => match cRes P r, cRess P rs with
    | some x, some xs => some (x :: xs)
    | _, _ => none

def cFn (P : Program) (kills : List (Nat × List Nat)) (fn : Func) : Option HFn :=
  if (fn.name == "runtime.NumGoroutine") = false then
    match fn.body with
    | some c => match cCode P kills c, cRess P fn.results.toList with
      | some b, some rs => some ⟨fn.ntmps, rs, b⟩
      | _, _ => none
    | none => none
  else none

def hres1 (r : HRes) (fr : List HV) (hs : HS) : Option HV :=
  match r with
  | .tmp t => some (fr[t]?.getD .undef)
  | .cell t n => hload n hs (fr[t]?.getD .undef)

def hresL : List HRes → List HV → HS → Option (List HV)
  | [], _, _ => some []
  | r :: rs, fr, hs => match hres1 r fr hs, hresL rs fr hs with
    | some x, some xs => some (x :: xs)
    | _, _ => none

def hres (rs : List HRes) (fr : List HV) (hs : HS) : Option HV :=
  match hresL rs fr hs with
  | some [v] => some v
  | some l => some (.tup l)
  | none => none

def HExit.ended : HExit → Bool
  | .normal | .ret => true
  | _ => false

def frame0 (n : Nat) (args : List HV) : List HV := args ++ List.replicate (n - args.length) .undef

section
variable {P : Program} {β : List Ent} {hs : HS} {w : World}

theorem getD_rel {fr : List HV} {a : Act} (F : FrRel ds β fr a) (t : Nat) : Rel β (fr[t]?.getD .undef) (a.tmps.getD t undef) := by
  cases hx : fr[t]? with
  | none => simp [Rel]
  | some y =>
    obtain ⟨u, h1, h2⟩ := F.get t y hx
    have : a.tmps.getD t undef = u := by rw [Array.getD_eq_getD_getElem?, h1]; rfl
    simp only [Option.getD_some]
    rw [this]; exact h2

theorem hres1_sound (E : Emb β hs w) {fr : List HV} {a : Act} (F : FrRel ds β fr a) {r : ResultVar} {hr : HRes} (hc : cRes P r = some hr) {v : HV} (h : hres1 hr fr hs = some v) :
    ∃ u, (match r with | .tmp t => pure (a.tmps.getD t undef) | .cell x t => (do loadVar t (← asAddr (a.tmps.getD x undef))) : Sem Value).run P w = .ok u w ∧ Rel β v u := by
  cases r with
  | tmp t =>
    simp [cRes] at hc; subst hc
    simp [hres1] at h; subst h
    exact ⟨_, rfl, getD_rel F t⟩
  | cell t ty =>
    simp only [cRes, Option.map_eq_some_iff] at hc
    obtain ⟨n, hn, rfl⟩ := hc
    simp only [hres1] at h
    have hg := getD_rel F t
    obtain ⟨u, w', β', h1, h2, h3⟩ := hload_sound (P := P) E hn hg h
    -- a load turns nothing
    have hp : ∃ h o, fr[t]?.getD .undef = .ptr h o := by
      unfold hload at h
      split at h
      · rename_i h0 o hx; exact ⟨h0, o, hx⟩
      · simp at h
    obtain ⟨h0, o, hx⟩ := hp
    rw [hx] at hg h
    simp only [Rel] at hg
    obtain ⟨e, he, hv⟩ := hg
    rw [hv] at h1
    simp only [Instr.loadAt, Instr.sureAddr, pure_bind] at h1
    have hw : w' = w ∧ Rel β v u := by
      unfold hload at h
      simp only at h
      split at h
      · rename_i s cs ro opn olds hb
        have hB := E.blk h0 e _ he hb
        split at h
        · obtain ⟨_, cur, tt, fz, hgg, _, _, _, hcs⟩ := hB
          obtain ⟨u', hu', hr', _⟩ := hcs _ _ h
          have hl : (loadVar ty ⟨e.blk, e.shift + o, none⟩).run P w = .ok u' w := by simp [loadVar, run_isAgg hn, World.cell?, hgg, hu']
          rw [hl] at h1; cases h1
          exact ⟨rfl, hr'⟩
        · rename_i k
          split at h
          · rename_i hle
            simp at h; subst h
            obtain ⟨us, r1, r2, r3, r4⟩ := hB.seg o k hle
            have hl := run_loadCells_list (P := P) w ⟨e.blk, e.shift + o, none⟩ us (fun j v hj => by rw [Addr.add_lit]; exact r4 j v hj)
            rw [r2] at hl
            have hl2 : (loadVar ty ⟨e.blk, e.shift + o, none⟩).run P w = .ok (.agg us.toArray) w := by simp [loadVar, run_isAgg hn, run_sizeOf_agg hn, hl]
            rw [hl2] at h1; cases h1
            exact ⟨rfl, _, rfl, r1⟩
          · simp at h
      · simp at h
    obtain ⟨rfl, hr⟩ := hw
    refine ⟨u, ?_, hr⟩
    show (do loadVar ty (← asAddr (a.tmps.getD t undef)) : Sem Value).run P w' = _
    rw [hv]
    simp only [asAddr, pure_bind]
    exact h1

theorem hresL_sound (E : Emb β hs w) {fr : List HV} {a : Act} (F : FrRel ds β fr a) : ∀ {rl : List ResultVar} {rs : List HRes} {vs : List HV}, cRess P rl = some rs → hresL rs fr hs = some vs →
    ∃ us, (rl.mapM fun r => (match r with | .tmp t => pure (a.tmps.getD t undef) | .cell x t => (do loadVar t (← asAddr (a.tmps.getD x undef))) : Sem Value)).run P w = .ok us w ∧ RelL β vs us
  | [], rs, vs, hc, h => by
    simp [cRess] at hc; subst hc
    simp [hresL] at h; subst h
    exact ⟨[], by simp, rfl⟩
  | r :: rl, rs, vs, hc, h => by
    unfold cRess at hc
    split at hc
    · rename_i x xs h1 h2
      simp at hc; subst hc
      unfold hresL at h
      split at h
      · rename_i v vs' h3 h4
        simp at h; subst h
        obtain ⟨u, q1, q2⟩ := hres1_sound (P := P) E F h1 h3
        obtain ⟨us, q3, q4⟩ := hresL_sound E F h2 h4
        refine ⟨u :: us, ?_, u, us, rfl, q2, q4⟩
        rw [List.mapM_cons]
        simp only [Sem.run_bind, q1, Result.andThen_ok, q3, Sem.run_pure]
      · simp at h
    · simp at hc

theorem hres_sound (E : Emb β hs w) {fr : List HV} {a : Act} (F : FrRel ds β fr a) {fn : Func} {rs : List HRes} {v : HV} (hc : cRess P fn.results.toList = some rs) (h : hres rs fr hs = some v) : ∃ u, (results fn a.tmps).run P w = .ok u w ∧ Rel β v u := by
  unfold hres at h
  have run : ∀ vs, hresL rs fr hs = some vs → ∃ us, (results fn a.tmps).run P w = .ok (if h : us.length = 1 then us[0] else .tuple us.toArray) w ∧ RelL β vs us := by
    intro vs hv
    obtain ⟨us, q1, q2⟩ := hresL_sound (P := P) E F hc hv
    refine ⟨us, ?_, q2⟩
    unfold results
    rw [Array.mapM_eq_mapM_toList]
    simp only [Sem.run_bind, Sem.run_map]
    erw [q1]
    simp
  split at h
  · rename_i v' hv
    simp at h; subst h
    obtain ⟨us, q1, q2⟩ := run _ hv
    simp only [RelL] at q2
    obtain ⟨u, us', rfl, q3, rfl⟩ := q2
    exact ⟨u, by simpa using q1, q3⟩
  · rename_i l hne hl
    simp at h; subst h
    obtain ⟨us, q1, q2⟩ := run _ hl
    have hlen := q2.length
    have : us.length ≠ 1 := by
      intro e
      rw [← hlen] at e
      match l, e with
      | [x], _ => exact hne x rfl
    rw [dif_neg this] at q1
    exact ⟨_, q1, us.toArray, rfl, by simpa using q2⟩
  · simp at h

theorem BlkRel.put {β : List Ent} {w : World} {e : Ent} {b : HB} (r : BlkRel β w e b) {D : Nat} {x : Option (List Deferred)} (hD : w.heap[D]? = some (.deferred x)) (o : Obj) : BlkRel β (w.putObj D o) e b := by
  by_cases hne : e.blk = D
  · have hlt := lt_of_geta hD
    subst hne
    cases b with
    | cells => obtain ⟨_, _, _, _, h, _⟩ := r; rw [hD] at h; simp at h
    | map => obtain ⟨_, h, _⟩ := r; rw [hD] at h; simp at h
    | siter => have h := r.1; rw [hD] at h; simp at h
    | miter => obtain ⟨_, _, h, _⟩ := r; rw [hD] at h; simp at h
    | gint => obtain ⟨_, _, _, _, _, _, h, _⟩ := r; rw [hD] at h; simp at h
    | gpin =>
      obtain ⟨h1, h2, _, h4⟩ := r
      exact ⟨h1, h2, ⟨o, World.putObj_heap_same hlt⟩, h4⟩
    | gtab => obtain ⟨_, _, _, _, h⟩ := r; rw [hD] at h; simp at h
    | kbox => obtain ⟨_, _, _, _, h, _⟩ := r; rw [hD] at h; simp at h
    | loop => obtain ⟨_, h, _⟩ := r; rw [hD] at h; simp at h
  · exact r.world (World.putObj_heap_other hne)

theorem Step.put {β β' : List Ent} {hs hs' : HS} {w w' : World} (S : Step β hs w β' hs' w') {D : Nat} {x : Option (List Deferred)} (hw : w.heap.size ≤ D) (hD : w'.heap[D]? = some (.deferred x)) (o : Obj) : Step β hs w β' hs' (w'.putObj D o) := by
  refine ⟨S.ext, ⟨S.emb.len, fun i e b h1 h2 => (S.emb.blk i e b h1 h2).put hD o, S.emb.sep⟩, ?_, fun k hk hn => ?_, S.own, S.os, S.output, S.tape, S.fresh⟩
  · have := S.size
    simpa [World.putObj] using this
  · rw [World.putObj_heap_other (by omega)]
    exact S.same k hk hn

theorem leaves_marks {fn : Func} {tmps : Array Value} {R : Ending → World → Prop} {β β' : List Ent} {hs hs' : HS} {w : World} : ∀ (ms : List Nat) (w' : World), Step β hs w β' hs' w' → ms.Nodup →
    (∀ D ∈ ms, w.heap.size ≤ D ∧ w'.heap[D]? = some (.deferred (some [])) ∧ ¬ Own β' hs' D) → (∀ w'', Step β hs w β' hs' w'' → LeavesIn Fence.wide 0 P fn tmps R [] .returning w'') →
    LeavesInM Fence.wide 0 P fn tmps R (ms.map mkM) .returning w'
  | [], w', S, _, _, hfin => hfin w' S
  | D :: ms, w', S, hn, hat, hfin => by
    rw [List.nodup_cons] at hn
    obtain ⟨h1, h2, h3⟩ := hat D (List.mem_cons_self ..)
    refine ⟨by simp, .inl ⟨D, _, rfl, run_takeDeferred h2, ?_⟩⟩
    refine leaves_marks ms _ (S.put h1 h2 _) hn.2 (fun D' hD' => ?_) hfin
    obtain ⟨g1, g2, g3⟩ := hat D' (List.mem_cons_of_mem _ hD')
    refine ⟨g1, ?_, g3⟩
    rw [World.putObj_heap_other (by rintro rfl; exact hn.1 hD')]
    exact g2

/-- a function by its body. -/
theorem HC.body {f : FuncId} {kills : List (Nat × List Nat)} {fn : Func} {hf : HFn} (h1 : P.funcs[f]? = some fn) (h2 : cFn P kills fn = some hf) {args : List HV} {hs : HS} {Q : HV → HS → Prop}
    (h : HW P hf.body (frame0 hf.ntmps args) hs fun e fr hs => e.ended = true ∧ ∃ v, hres hf.res fr hs = some v ∧ Q v hs) : HC P f args hs Q := by
  intro β w us E R
  unfold cFn at h2
  split at h2
  · split at h2
    · rename_i c hb
      split at h2
      · rename_i b rs h3 h4
        simp at h2; subst h2
        refine callsIn_wide.1 (callsIn_of_wp_marks (n := 0) (F := Fence.wide) h1 hb trivial ?_ rfl)
        have F : FrRel [] β (frame0 fn.ntmps args) { tmps := us.toArray ++ Array.replicate (fn.ntmps - us.toArray.size) undef, defers := [] } := by
          have hl := R.length
          refine ⟨by simp [frame0, hl], fun i x hx => ?_, rfl⟩
          simp only [frame0] at hx
          by_cases hi : i < args.length
          · rw [List.getElem?_append_left hi] at hx
            obtain ⟨u, hu, hr⟩ := R.get hx
            refine ⟨u, ?_, hr⟩
            rw [Array.getElem?_append_left (by simp; omega)]
            simpa using hu
          · rw [List.getElem?_append_right (by omega)] at hx
            rw [List.getElem?_replicate] at hx
            split at hx
            · rename_i hlt
              simp at hx; subst hx
              refine ⟨undef, ?_, trivial⟩
              rw [Array.getElem?_append_right (by simp; omega)]
              rw [Array.getElem?_replicate]
              rw [if_pos (by simp; omega)]
            · simp at hx
        refine Code.wpIn_mono ?_ (h kills c h3 [] β _ w none rfl E F)
        rintro e a' w' ⟨he, β', fr', hs', rfl, ⟨hend, v, hv, hq⟩, ⟨ds', ms, F', M⟩, S⟩
        have key : LeavesInM Fence.wide 0 P fn a'.tmps (fun e w' => ∃ β' u v hs', e = .returned u ∧ Q v hs' ∧ Rel β' v u ∧ Step β hs w β' hs' w') a'.defers .returning w' := by
          rw [F'.defers, M.eq, List.append_nil]
          refine leaves_marks ms w' S M.nodup M.at_ fun w'' S'' => ?_
          obtain ⟨u, hu, hr⟩ := hres_sound (P := P) S''.emb F' h4 hv
          exact ⟨u, hu, β', u, v, hs', rfl, hq, hr, S''⟩
        cases he <;> simp [HExit.ended] at hend
        · exact key
        · exact key
      · simp at h2
    · simp at h2
  · simp at h2

theorem cFn_ok {f : FuncId} {kills : List (Nat × List Nat)} {fn : Func} {hf : HFn} (h1 : P.funcs[f]? = some fn) (h2 : cFn P kills fn = some hf) : okF P f := by
  unfold cFn at h2
  split at h2
  · rename_i hn
    split at h2
    · rename_i c hb
      exact ⟨fn, h1, hn, by rw [hb]; rfl⟩
    · simp at h2
  · simp at h2

end

/-! ### a run by reckoning -/
mutual
def HV.eqb : HV → HV → Bool
  | .undef, .undef => true
  | .bool a, .bool b => a == b
  | .int j a, .int k b => decide (j = k) && decide (a = b)
  | .str a, .str b => decide (a = b)
  | .ptr a b, .ptr c d => decide (a = c) && decide (b = d)
  | .nilPtr, .nilPtr => true
  | .slice a b c d, .slice e f g h => decide (a = e) && decide (b = f) && decide (c = g) && decide (d = h)
  | .nilSlice, .nilSlice => true
  | .map a, .map b => decide (a = b)
  | .nilMap, .nilMap => true
  | .nilFunc, .nilFunc => true
  | .func f a b, .func g c d => decide (f = g) && HV.eqbL a c && HV.eqbL b d
  | .iface t a, .iface u b => decide (t = u) && HV.eqb a b
  | .nilIface, .nilIface => true
  | .agg a, .agg b => HV.eqbL a b
  | .tup a, .tup b => HV.eqbL a b
  | .yld a, .yld b => decide (a = b)
  | _, _ => false
def HV.eqbL : List HV → List HV → Bool
  | [], [] => true
  | a :: x, b :: y => HV.eqb a b && HV.eqbL x y
  | _, _ => false
end

mutual
theorem HV.eqb_eq : ∀ (a b : HV), HV.eqb a b = true → a = b
  | .undef, b, h => by cases b <;> simp [HV.eqb] at h; rfl
  | .bool a, b, h => by cases b <;> simp [HV.eqb] at h; rw [h]
  | .int j a, b, h => by cases b <;> simp [HV.eqb] at h; rw [h.1, h.2]
  | .str a, b, h => by cases b <;> simp [HV.eqb] at h; rw [h]
  | .ptr a c, b, h => by cases b <;> simp [HV.eqb] at h; rw [h.1, h.2]
  | .nilPtr, b, h => by cases b <;> simp [HV.eqb] at h; rfl
  | .slice a c d e, b, h => by cases b <;> simp [HV.eqb] at h; rw [h.1.1.1, h.1.1.2, h.1.2, h.2]
  | .nilSlice, b, h => by cases b <;> simp [HV.eqb] at h; rfl
  | .map a, b, h => by cases b <;> simp [HV.eqb] at h; rw [h]
  | .nilMap, b, h => by cases b <;> simp [HV.eqb] at h; rfl
  | .func f x y, b, h => by
    cases b <;> simp [HV.eqb] at h
    rw [h.1.1, HV.eqbL_eq x _ h.1.2, HV.eqbL_eq y _ h.2]
  | .nilFunc, b, h => by cases b <;> simp [HV.eqb] at h; rfl
  | .iface t x, b, h => by
    cases b <;> simp [HV.eqb] at h
    rw [h.1, HV.eqb_eq x _ h.2]
  | .nilIface, b, h => by cases b <;> simp [HV.eqb] at h; rfl
  | .agg x, b, h => by
    cases b <;> simp [HV.eqb] at h
    rw [HV.eqbL_eq x _ h]
  | .tup x, b, h => by
    cases b <;> simp [HV.eqb] at h
    rw [HV.eqbL_eq x _ h]
  | .yld a, b, h => by cases b <;> simp [HV.eqb] at h; rw [h]
theorem HV.eqbL_eq : ∀ (a b : List HV), HV.eqbL a b = true → a = b
  | [], b, h => by cases b <;> simp [HV.eqbL] at h; rfl
  | x :: a, b, h => by
    cases b <;> simp [HV.eqbL] at h
    rw [HV.eqb_eq x _ h.1, HV.eqbL_eq a _ h.2]
end

abbrev CallF := FuncId → List HV → HS → Option (HV × HS)

def hactE (call : CallF) (act : HAct) (fr : List HV) (hs : HS) : Option (HV × HS) :=
  match act with
  | .op o => hop o fr hs
  | .next x => match hnextAll hs (x.ev fr) with
    | some [r] => some r
    | _ => none
  | .inv _ _ _ => none
  | .call f args => match calleeOf (f.ev fr) (args.map (HX.ev fr)) with
    | some (g, xs) => call g xs hs
    | none => none

def hopsE (call : CallF) : List HOper → List HV → HS → Option (List HV × HS)
  | [], fr, hs => some (fr, hs)
  | o :: r, fr, hs =>
    match wantH o.guard fr with
    | none => none
    | some false => hopsE call r (put fr o.dst (.tup [])) hs
    | some true => match hactE call o.act fr hs with
      | none => none
      | some (v, hs') => hopsE call r (put fr o.dst v) hs'

def holdsE (ps : List (List Nat)) (i : Nat) (hs : HS) : List Pend → Bool
  | [] => true
  | p :: r => ((ps.getD i []).contains p.2.2.2 || (match hop p.1 p.2.1 hs with | some (v, _) => HV.eqb v p.2.2.1 | none => false)) && holdsE ps i hs r

def hdrE (call : CallF) (hos : List HOper) (ps : List (List Nat)) : List Nat → List Pend → List HV → HS → Option (List HV × HS)
  | [], _, fr, hs => some (fr, hs)
  | i :: r, pend, fr, hs =>
    match hos[i]? with
    | none => none
    | some o =>
      match wantH o.guard fr with
      | none => none
      | some false => hdrE call hos ps r pend (put fr o.dst (.tup [])) hs
      | some true =>
        if o.loud then
          match hactE call o.act fr hs with
          | none => none
          | some (v, hs') => if holdsE ps i hs' pend then hdrE call hos ps r pend (put fr o.dst v) hs' else none
        else match o.act with
          | .op q => match hop q fr hs with
            | none => none
            | some (v, _) => hdrE call hos ps r (if q.looks then (q, fr, v, i) :: pend else pend) (put fr o.dst v) hs
          | _ => none

def hx (call : CallF) : Nat → HCode → List HV → HS → Option (HExit × List HV × HS)
  | 0, _, _, _ => none
  | n + 1, c, fr, hs =>
    match c with
    | .skip => some (.normal, fr, hs)
    | .region ops kill => match hopsE call ops fr hs with
      | some (fr, hs) => some (.normal, killFr kill fr, hs)
      | none => none
    | .draw ops ord ps kill => match hdrE call ops ps ord [] fr hs with
      | some (fr, hs) => some (.normal, killFr kill fr, hs)
      | none => none
    | .seq a b => match hx call n a fr hs with
      | some (.normal, fr, hs) => hx call n b fr hs
      | r => r
    | .cond c a b => match c.ev fr with
      | .bool t => hx call n (if t then a else b) fr hs
      | _ => none
    | .block id c => match hx call n c fr hs with
      | some (.exit id', fr, hs) => some (if id' = id then .normal else .exit id', fr, hs)
      | r => r
    | .loop c => match hx call n c fr hs with
      | some (.normal, fr, hs) => hx call n (.loop c) fr hs
      | r => r
    | .exit id => some (.exit id, fr, hs)
    | .ret => some (.ret, fr, hs)
    | .scope c => hx call n c fr hs
    | .lab => some (.normal, fr, hs)
    | .bad => none
    | .tree _ _ _ _ _ => none
    | .rangeFunc _ _ _ _ => none

section
variable {P : Program}

/-- the calls that are taken at their word are so. -/
def CallsOk (P : Program) (call : CallF) : Prop := ∀ f args hs v hs', call f args hs = some (v, hs') → HCall P f args hs fun v1 hs1 => v1 = v ∧ hs1 = hs'

theorem HAct.does_mono {act : HAct} {fr : List HV} {hs : HS} {K K' : HV → HS → Prop} (h : act.does P fr hs K) (hk : ∀ v hs, K v hs → K' v hs) : act.does P fr hs K' := by
  cases act with
  | op o => obtain ⟨v, hs', h1, h2⟩ := h; exact ⟨v, hs', h1, hk _ _ h2⟩
  | next x => obtain ⟨l, h1, h2⟩ := h; exact ⟨l, h1, fun p hp => hk _ _ (h2 p hp)⟩
  | inv tab r args => obtain ⟨g, xs, h1, h2⟩ := h; exact ⟨g, xs, h1, HCallee.mono h2 hk⟩
  | call f args => obtain ⟨g, xs, h1, h2⟩ := h; exact ⟨g, xs, h1, HCallee.mono h2 hk⟩

theorem hactE_sound {call : CallF} (C : CallsOk P call) {act : HAct} {fr : List HV} {hs hs' : HS} {v : HV} (h : hactE call act fr hs = some (v, hs')) : act.does P fr hs fun v1 hs1 => v1 = v ∧ hs1 = hs' := by
  cases act with
  | op o => exact ⟨v, hs', h, rfl, rfl⟩
  | inv _ _ _ => simp [hactE] at h
  | next x =>
    simp only [hactE] at h
    split at h
    · rename_i r hr
      simp at h; subst h
      exact ⟨_, hr, fun p hp => by simp at hp; subst hp; exact ⟨rfl, rfl⟩⟩
    · simp at h
  | call f args =>
    simp only [hactE] at h
    split at h
    · rename_i g xs hg
      exact ⟨.fn g, xs, calleeC_fn hg, C g xs hs v hs' h⟩
    · simp at h

theorem hopsE_sound {call : CallF} (C : CallsOk P call) {K : List HV → HS → Prop} : ∀ {l : List HOper} {fr fr' : List HV} {hs hs' : HS}, hopsE call l fr hs = some (fr', hs') → K fr' hs' → HL P l fr hs K
  | [], fr, fr', hs, hs', h, hk => by simp [hopsE] at h; obtain ⟨rfl, rfl⟩ := h; exact hk
  | o :: l, fr, fr', hs, hs', h, hk => by
    simp only [hopsE] at h
    simp only [HL]
    split at h
    · simp at h
    · rename_i hw
      exact ⟨false, hw, by simpa using hopsE_sound C h hk⟩
    · rename_i hw
      split at h
      · simp at h
      · rename_i v hs1 ha
        refine ⟨true, hw, ?_⟩
        simp only [if_true]
        refine HAct.does_mono (hactE_sound C ha) ?_
        rintro v1 hs2 ⟨rfl, rfl⟩
        exact hopsE_sound C h hk

theorem holdsE_sound {ps : List (List Nat)} {i : Nat} {hs : HS} : ∀ {l : List Pend}, (∀ p ∈ l, p.1.loud = false) → holdsE ps i hs l = true → Holds ps i hs l
  | [], _, _ => trivial
  | p :: l, hq, h => by
    simp only [holdsE, Bool.and_eq_true, Bool.or_eq_true] at h
    refine ⟨fun hc => ?_, holdsE_sound (fun p hp => hq p (List.mem_cons_of_mem _ hp)) h.2⟩
    rcases h.1 with h1 | h1
    · rw [h1] at hc; simp at hc
    · split at h1
      · rename_i v hs1 hh
        have e1 := hop_quiet (hq p (List.mem_cons_self ..)) hh
        have e2 := HV.eqb_eq _ _ h1
        rw [hh, e1, e2]
      · simp at h1

theorem hdrE_sound {call : CallF} (C : CallsOk P call) {K : List HV → HS → Prop} {hos : List HOper} {ps : List (List Nat)} : ∀ {l : List Nat} {pend : List Pend} {fr fr' : List HV} {hs hs' : HS}, (∀ p ∈ pend, p.1.loud = false) → hdrE call hos ps l pend fr hs = some (fr', hs') → K fr' hs' → DR P hos ps l pend fr hs K
  | [], pend, fr, fr', hs, hs', _, h, hk => by simp [hdrE] at h; obtain ⟨rfl, rfl⟩ := h; exact hk
  | i :: l, pend, fr, fr', hs, hs', hq, h, hk => by
    simp only [hdrE] at h
    simp only [DR]
    split at h
    · simp at h
    · rename_i o ho
      simp only [ho]
      split at h
      · simp at h
      · rename_i hw
        exact ⟨false, hw, by simpa using hdrE_sound C hq h hk⟩
      · rename_i hw
        refine ⟨true, hw, ?_⟩
        simp only [if_true]
        split at h
        · rename_i hlo
          rw [if_pos hlo]
          split at h
          · simp at h
          · rename_i v hs1 ha
            split at h
            · rename_i hh
              refine HAct.does_mono (hactE_sound C ha) ?_
              rintro v1 hs2 ⟨rfl, rfl⟩
              exact ⟨holdsE_sound hq hh, hdrE_sound C hq h hk⟩
            · simp at h
        · rename_i hlo
          rw [if_neg hlo]
          split at h
          · rename_i q hqa
            split at h
            · simp at h
            · rename_i v hs1 hh
              have hql : q.loud = false := by simpa [HOper.loud, hqa] using hlo
              have e1 := hop_quiet hql hh
              subst e1
              simp only [hqa]
              refine ⟨v, hh, hdrE_sound C ?_ h hk⟩
              intro p hp
              split at hp
              · rcases List.mem_cons.1 hp with rfl | hp
                · exact hql
                · exact hq p hp
              · exact hq p hp
          · simp at h

theorem hx_sound (hm : P.follows .mixedOrders = true) {call : CallF} (C : CallsOk P call) : ∀ (n : Nat) {c : HCode} {fr fr' : List HV} {hs hs' : HS} {e : HExit}, hx call n c fr hs = some (e, fr', hs') → HW P c fr hs fun e1 fr1 hs1 => e1 = e ∧ fr1 = fr' ∧ hs1 = hs'
  | 0, c, fr, fr', hs, hs', e, h => by simp [hx] at h
  | n + 1, c, fr, fr', hs, hs', e, h => by
    cases c with
    | skip => simp [hx] at h; obtain ⟨rfl, rfl, rfl⟩ := h; exact HW.skip ⟨rfl, rfl, rfl⟩
    | ret => simp [hx] at h; obtain ⟨rfl, rfl, rfl⟩ := h; exact HW.ret ⟨rfl, rfl, rfl⟩
    | exit id => simp [hx] at h; obtain ⟨rfl, rfl, rfl⟩ := h; exact HW.exit ⟨rfl, rfl, rfl⟩
    | region ops kill =>
      simp only [hx] at h
      split at h
      · rename_i fr1 hs1 hh
        simp at h; obtain ⟨rfl, rfl, rfl⟩ := h
        exact HW.region (hopsE_sound C hh ⟨rfl, rfl, rfl⟩)
      · simp at h
    | draw ops ord ps kill =>
      simp only [hx] at h
      split at h
      · rename_i fr1 hs1 hh
        simp at h; obtain ⟨rfl, rfl, rfl⟩ := h
        exact HW.draw hm (hdrE_sound C (fun p hp => by simp at hp) hh ⟨rfl, rfl, rfl⟩)
      · simp at h
    | seq a b =>
      simp only [hx] at h
      refine HW.seq ?_
      split at h
      · rename_i fr1 hs1 hh
        refine (hx_sound hm C n hh).mono ?_
        rintro e1 fr2 hs2 ⟨rfl, rfl, rfl⟩
        exact hx_sound hm C n h
      · rename_i hne
        refine (hx_sound hm C n h).mono ?_
        rintro e1 fr2 hs2 ⟨rfl, rfl, rfl⟩
        cases e1 with
        | normal => exact absurd h (hne _ _)
        | exit id => exact ⟨rfl, rfl, rfl⟩
        | ret => exact ⟨rfl, rfl, rfl⟩
    | cond c a b =>
      simp only [hx] at h
      split at h
      · rename_i t ht
        exact HW.cond ht (hx_sound hm C n h)
      · simp at h
    | bad => simp [hx] at h
    | tree _ _ _ _ _ => simp [hx] at h
    | rangeFunc _ _ _ _ => simp [hx] at h
    | scope c => exact HW.scope (hx_sound hm C n (by simpa only [hx] using h))
    | lab =>
      simp [hx] at h; obtain ⟨rfl, rfl, rfl⟩ := h
      exact HW.lab ⟨rfl, rfl, rfl⟩
    | block id c =>
      simp only [hx] at h
      refine HW.block ?_
      split at h
      · rename_i id' fr1 hs1 hh
        simp at h; obtain ⟨rfl, rfl, rfl⟩ := h
        refine (hx_sound hm C n hh).mono ?_
        rintro e1 fr2 hs2 ⟨rfl, rfl, rfl⟩
        simp only [HBlock]
        split <;> simp
      · rename_i hne
        refine (hx_sound hm C n h).mono ?_
        rintro e1 fr2 hs2 ⟨rfl, rfl, rfl⟩
        cases e1 with
        | normal => exact ⟨rfl, rfl, rfl⟩
        | exit id' => exact absurd h (hne _ _ _)
        | ret => exact ⟨rfl, rfl, rfl⟩
    | loop c =>
      refine HW.loop (fun m fr hs => m ≤ n + 1 ∧ hx call m (.loop c) fr hs = some (e, fr', hs')) (n + 1) ⟨Nat.le_refl _, h⟩ ?_
      rintro m fr1 hs1 ⟨hmn, hI⟩
      cases m with
      | zero => simp [hx] at hI
      | succ m =>
        simp only [hx] at hI
        split at hI
        · rename_i fr2 hs2 hh
          have hih : HW P c fr1 hs1 (fun e1 fr3 hs3 => e1 = .normal ∧ fr3 = fr2 ∧ hs3 = hs2) := by
            rcases Nat.lt_or_ge m (n + 1) with hlt | hge
            · exact hx_sound hm C m hh
            · omega
          refine hih.mono ?_
          rintro e1 fr3 hs3 ⟨rfl, rfl, rfl⟩
          exact ⟨m, Nat.lt_succ_self m, by omega, hI⟩
        · rename_i hne
          have hih : HW P c fr1 hs1 (fun e1 fr3 hs3 => e1 = e ∧ fr3 = fr' ∧ hs3 = hs') := by
            rcases Nat.lt_or_ge m (n + 1) with hlt | hge
            · exact hx_sound hm C m hI
            · omega
          refine hih.mono ?_
          rintro e1 fr3 hs3 ⟨rfl, rfl, rfl⟩
          cases e1 with
          | normal => exact absurd hI (hne _ _)
          | exit id => exact ⟨rfl, rfl, rfl⟩
          | ret => exact ⟨rfl, rfl, rfl⟩
  termination_by n => n

end

/-- calls by the functions' own bodies, but for those that are given. -/
def hcall (F : FuncId → Option HFn) (X : FuncId → Option (List HV → HS → Option (HV × HS))) : Nat → CallF
  | 0, _, _, _ => none
  | n + 1, f, args, hs =>
    match X f with
    | some g => g args hs
    | none => match F f with
      | none => none
      | some hf => match hx (hcall F X n) n hf.body (frame0 hf.ntmps args) hs with
        | some (e, fr, hs') => if e.ended then (hres hf.res fr hs').map fun v => (v, hs') else none
        | none => none

def FOk (P : Program) (F : FuncId → Option HFn) : Prop := ∀ f hf, F f = some hf → ∃ fn kills, P.funcs[f]? = some fn ∧ cFn P kills fn = some hf

def XOk (P : Program) (X : FuncId → Option (List HV → HS → Option (HV × HS))) : Prop := ∀ f g, X f = some g → ∀ args hs v hs', g args hs = some (v, hs') → HCall P f args hs fun v1 hs1 => v1 = v ∧ hs1 = hs'

theorem hcall_sound {P : Program} (hm : P.follows .mixedOrders = true) {F : FuncId → Option HFn} {X : FuncId → Option (List HV → HS → Option (HV × HS))} (hF : FOk P F) (hX : XOk P X) : ∀ n, CallsOk P (hcall F X n)
  | 0 => fun f args hs v hs' h => by simp [hcall] at h
  | n + 1 => fun f args hs v hs' h => by
    simp only [hcall] at h
    split at h
    · rename_i g hg
      exact hX f g hg args hs v hs' h
    · split at h
      · simp at h
      · rename_i hf hff
        obtain ⟨fn, kills, h1, h2⟩ := hF f hf hff
        split at h
        · rename_i e fr hs1 hh
          split at h
          · rename_i he
            simp only [Option.map_eq_some_iff] at h
            obtain ⟨v', hv, h3⟩ := h
            simp at h3; obtain ⟨rfl, rfl⟩ := h3
            refine .inl ⟨cFn_ok h1 h2, HC.body h1 h2 ?_⟩
            refine (hx_sound hm (hcall_sound hm hF hX n) n hh).mono ?_
            rintro e1 fr2 hs2 ⟨rfl, rfl, rfl⟩
            exact ⟨he, v', hv, rfl, rfl⟩
          · simp at h
        · simp at h

/-- a run of a function that has a body. -/
theorem hcall_HC {P : Program} (hm : P.follows .mixedOrders = true) {F : FuncId → Option HFn} {X : FuncId → Option (List HV → HS → Option (HV × HS))} (hF : FOk P F) (hX : XOk P X) {n : Nat} {f : FuncId} {args : List HV} {hs hs' : HS} {v : HV} (hx0 : X f = none)
    (h : hcall F X n f args hs = some (v, hs')) : HC P f args hs fun v1 hs1 => v1 = v ∧ hs1 = hs' := by
  cases n with
  | zero => simp [hcall] at h
  | succ n =>
    simp only [hcall, hx0] at h
    split at h
    · simp at h
    · rename_i hf hff
      obtain ⟨fn, kills, h1, h2⟩ := hF f hf hff
      split at h
      · rename_i e fr hs1 hh
        split at h
        · rename_i he
          simp only [Option.map_eq_some_iff] at h
          obtain ⟨v', hv, h3⟩ := h
          simp at h3; obtain ⟨rfl, rfl⟩ := h3
          refine HC.body h1 h2 ?_
          refine (hx_sound hm (hcall_sound hm hF hX n) n hh).mono ?_
          rintro e1 fr2 hs2 ⟨rfl, rfl, rfl⟩
          exact ⟨he, v', hv, rfl, rfl⟩
        · simp at h
      · simp at h

/-- a run that is reckoned to a bool. -/
theorem hcall_bool {P : Program} (hm : P.follows .mixedOrders = true) {F : FuncId → Option HFn} {X : FuncId → Option (List HV → HS → Option (HV × HS))} (hF : FOk P F) (hX : XOk P X) {n : Nat} {f : FuncId} {args : List HV} {hs : HS} {b : Bool} (hx0 : X f = none)
    (h : ((hcall F X n f args hs).map fun x => HV.eqb x.1 (.bool b)) = some true) : HC P f args hs fun v _ => v = .bool b := by
  cases hr : hcall F X n f args hs with
  | none => rw [hr] at h; simp at h
  | some p =>
    rw [hr] at h
    obtain ⟨v, hs'⟩ := p
    simp at h
    have hv := HV.eqb_eq _ _ h
    subst hv
    exact (hcall_HC hm hF hX hx0 hr).mono fun v hs ⟨h, _⟩ => h

end Go.HL
