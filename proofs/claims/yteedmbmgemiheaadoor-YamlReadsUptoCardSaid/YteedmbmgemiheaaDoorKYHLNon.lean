/-
  HL: the evaluator that follows all orders and all choices: a list of ends.
-/
import Derived.Test.YteedmbmgemiheaaDoorKYHLTree
import Derived.Test.YteedmbmgemiheaaDoorKYHLFun
import Derived.Test.YteedmbmgemiheaaDoorKYHLRen
import Derived.Test.YteedmbmgemiheaaDoorKYHLRound
namespace Go.HL
open Go

/-! ### equality of accounts of memory -/
def HB.eqb : HB → HB → Bool
  | .cells s cs ro opn olds, .cells s' cs' ro' opn' olds' => s == s' && HV.eqbL cs cs' && ro == ro' && opn == opn' && olds == olds'
  | .map es clock, .map es' clock' => clock == clock' && HV.eqbL (es.map (·.1)) (es'.map (·.1)) && HV.eqbL (es.map (·.2.1)) (es'.map (·.2.1)) && (es.map (·.2.2)) == (es'.map (·.2.2))
  | .siter s pos, .siter s' pos' => s == s' && pos == pos'
  | .miter m since seen stepped, .miter m' since' seen' stepped' => m == m' && since == since' && seen == seen' && stepped == stepped'
  | .gint g, .gint g' => g == g'
  | .gpin g h, .gpin g' h' => g == g' && h == h'
  | .gtab g k zs, .gtab g' k' zs' => g == g' && decide (k = k') && zs == zs'
  | .kbox h, .kbox h' => h == h'
  | _, _ => false

theorem triple_eq : ∀ {es es' : List (HV × HV × Nat)}, es.map (·.1) = es'.map (·.1) → es.map (·.2.1) = es'.map (·.2.1) → es.map (·.2.2) = es'.map (·.2.2) → es = es'
  | [], es', h1, _, _ => by cases es' with | nil => rfl | cons => simp at h1
  | e :: es, es', h1, h2, h3 => by
    cases es' with
    | nil => simp at h1
    | cons e' es' =>
      simp at h1 h2 h3
      obtain ⟨a, b, c⟩ := e
      obtain ⟨a', b', c'⟩ := e'
      simp only at h1 h2 h3
      have ih : es = es' := triple_eq (by simpa using h1.2) (by simpa using h2.2) (by simpa using h3.2)
      rw [h1.1, h2.1, h3.1, ih]

theorem HB.eqb_eq : ∀ (a b : HB), HB.eqb a b = true → a = b := by
  intro a b h
  cases a <;> cases b <;> simp only [HB.eqb, Bool.and_eq_true, beq_iff_eq, decide_eq_true_eq, Bool.false_eq_true] at h
  · obtain ⟨⟨⟨⟨h1, h2⟩, h3⟩, h4⟩, h5⟩ := h
    rw [h1, HV.eqbL_eq _ _ h2, h3, h4, h5]
  · obtain ⟨⟨⟨h1, h2⟩, h3⟩, h4⟩ := h
    rw [h1, triple_eq (HV.eqbL_eq _ _ h2) (HV.eqbL_eq _ _ h3) h4]
  · rw [h.1, h.2]
  · obtain ⟨⟨⟨h1, h2⟩, h3⟩, h4⟩ := h
    rw [h1, h2, h3, h4]
  · rw [h]
  · rw [h.1, h.2]
  · obtain ⟨⟨h1, h2⟩, h3⟩ := h
    rw [h1, h2, h3]
  · rw [h]

def hsEqb : HS → HS → Bool
  | [], [] => true
  | none :: a, none :: b => hsEqb a b
  | some x :: a, some y :: b => HB.eqb x y && hsEqb a b
  | _, _ => false

theorem hsEqb_eq : ∀ (a b : HS), hsEqb a b = true → a = b
  | [], b, h => by cases b with | nil => rfl | cons x b => cases x <;> simp [hsEqb] at h
  | none :: a, b, h => by
    cases b with
    | nil => simp [hsEqb] at h
    | cons x b => cases x with
      | none => simp only [hsEqb] at h; rw [hsEqb_eq a b h]
      | some => simp [hsEqb] at h
  | some x :: a, b, h => by
    cases b with
    | nil => simp [hsEqb] at h
    | cons y b => cases y with
      | none => simp [hsEqb] at h
      | some y =>
        simp only [hsEqb, Bool.and_eq_true] at h
        rw [HB.eqb_eq x y h.1, hsEqb_eq a b h.2]

def dedup {α : Type} (eq : α → α → Bool) : List α → List α
  | [] => []
  | x :: r => if r.any (eq x) then dedup eq r else x :: dedup eq r

theorem dedup_mem {α : Type} {eq : α → α → Bool} (he : ∀ a b, eq a b = true → a = b) : ∀ {l : List α} {x : α}, x ∈ l → x ∈ dedup eq l
  | [], x, h => by simp at h
  | y :: r, x, h => by
    unfold dedup
    split
    · rename_i hy
      rcases List.mem_cons.1 h with rfl | h
      · obtain ⟨z, hz, hyz⟩ := List.any_eq_true.1 hy
        rw [he _ _ hyz]
        exact dedup_mem he hz
      · exact dedup_mem he h
    · rcases List.mem_cons.1 h with rfl | h
      · exact List.mem_cons_self ..
      · exact List.mem_cons_of_mem _ (dedup_mem he h)

/-! ### what is new is forgotten, if what is handed back has no memory and what was there stands -/
def HV.plain1 : HV → Bool
  | .bool _ | .int _ _ | .str _ | .nilPtr | .nilSlice | .nilMap | .nilFunc | .nilIface => true
  | _ => false
def HV.plain : HV → Bool
  | .tup vs => vs.all HV.plain1
  | .agg vs => vs.all HV.plain1
  | v => v.plain1

theorem Rel.plain1 {β β' : List Ent} {v : HV} {u : Value} (hf : v.plain1 = true) (h : Rel β v u) : Rel β' v u := by
  cases v <;> simp [HV.plain1] at hf <;> simpa only [Rel] using h
theorem RelL.plain1 {β β' : List Ent} : ∀ {xs : List HV} {us : List Value}, xs.all HV.plain1 = true → RelL β xs us → RelL β' xs us
  | [], _, _, h => h
  | x :: xs, us, hf, h => by
    simp only [List.all_cons, Bool.and_eq_true] at hf
    simp only [RelL] at h ⊢
    obtain ⟨u, us', rfl, h1, h2⟩ := h
    exact ⟨u, us', rfl, Rel.plain1 hf.1 h1, RelL.plain1 hf.2 h2⟩
theorem Rel.plain {β β' : List Ent} {v : HV} {u : Value} (hf : v.plain = true) (h : Rel β v u) : Rel β' v u := by
  cases v with
  | tup vs =>
    simp only [Rel] at h ⊢
    obtain ⟨us, hv, h1⟩ := h
    exact ⟨us, hv, RelL.plain1 hf h1⟩
  | agg vs =>
    simp only [Rel] at h ⊢
    obtain ⟨us, hv, h1⟩ := h
    exact ⟨us, hv, RelL.plain1 hf h1⟩
  | _ => exact Rel.plain1 hf h

mutual
/-- what a value of the lesser account is, it is by the lesser account. -/
theorem Rel.back {β β' : List Ent} (hx : Ext β β') : ∀ (x : HV) (u0 u : Value), Rel β x u0 → Rel β' x u → Rel β x u
  | .undef, _, _, _, _ => trivial
  | .bool _, _, _, _, r => r
  | .int _ _, _, _, _, r => r
  | .str _, _, _, _, r => r
  | .ptr _ _, _, _, h, r => by
    simp only [Rel] at *
    obtain ⟨e, he, _⟩ := h
    obtain ⟨e', he', hu⟩ := r
    rw [hx.get he] at he'; cases he'
    exact ⟨e, he, hu⟩
  | .nilPtr, _, _, _, r => r
  | .slice _ _ _ _, _, _, h, r => by
    simp only [Rel] at *
    obtain ⟨e, _, _, he, _⟩ := h
    obtain ⟨e', a, c, he', hu⟩ := r
    rw [hx.get he] at he'; cases he'
    exact ⟨e, a, c, he, hu⟩
  | .nilSlice, _, _, _, r => r
  | .map _, _, _, h, r => by
    simp only [Rel] at *
    obtain ⟨e, he, _⟩ := h
    obtain ⟨e', he', hu⟩ := r
    rw [hx.get he] at he'; cases he'
    exact ⟨e, he, hu⟩
  | .nilMap, _, _, _, r => r
  | .func fn first cap, _, _, h, r => by
    simp only [Rel] at *
    obtain ⟨us0, ws0, _, a1, a2, _⟩ := h
    obtain ⟨us, ws, hu, b1, b2, b3⟩ := r
    exact ⟨us, ws, hu, RelL.back hx first _ _ a1 b1, RelL.back hx cap _ _ a2 b2, b3⟩
  | .nilFunc, _, _, _, r => r
  | .iface t x, _, _, h, r => by
    simp only [Rel] at *
    obtain ⟨u0, _, a1⟩ := h
    obtain ⟨u, hu, b1⟩ := r
    exact ⟨u, hu, Rel.back hx x _ _ a1 b1⟩
  | .nilIface, _, _, _, r => r
  | .agg cs, _, _, h, r => by
    simp only [Rel] at *
    obtain ⟨us0, _, a1⟩ := h
    obtain ⟨us, hu, b1⟩ := r
    exact ⟨us, hu, RelL.back hx cs _ _ a1 b1⟩
  | .tup cs, _, _, h, r => by
    simp only [Rel] at *
    obtain ⟨us0, _, a1⟩ := h
    obtain ⟨us, hu, b1⟩ := r
    exact ⟨us, hu, RelL.back hx cs _ _ a1 b1⟩
  | .yld _, _, _, h, r => by
    simp only [Rel] at *
    obtain ⟨e, he, _⟩ := h
    obtain ⟨e', he', hu⟩ := r
    rw [hx.get he] at he'; cases he'
    exact ⟨e, he, hu⟩
theorem RelL.back {β β' : List Ent} (hx : Ext β β') : ∀ (xs : List HV) (us0 us : List Value), RelL β xs us0 → RelL β' xs us → RelL β xs us
  | [], _, _, _, r => r
  | x :: xs, _, _, h, r => by
    simp only [RelL] at *
    obtain ⟨u0, us0, _, a1, a2⟩ := h
    obtain ⟨u, us, hu, b1, b2⟩ := r
    exact ⟨u, us, hu, Rel.back hx x _ _ a1 b1, RelL.back hx xs _ _ a2 b2⟩
end

theorem RelE.back {β β' : List Ent} (hx : Ext β β') : ∀ (xs : List (HV × HV × Nat)) (es0 es : List MapEntry), RelE β xs es0 → RelE β' xs es → RelE β xs es
  | [], _, _, _, r => r
  | (k, v, n) :: xs, _, _, h, r => by
    simp only [RelE] at *
    obtain ⟨e0, es0, _, a1, a2, a3, a4⟩ := h
    obtain ⟨e, es, hu, b1, b2, b3, b4⟩ := r
    exact ⟨e, es, hu, Rel.back hx k _ _ a1 b1, Rel.back hx v _ _ a2 b2, b3, RelE.back hx xs _ _ a4 b4⟩

theorem BlkRel.back {β β' : List Ent} (hx : Ext β β') {w w' : World} {e : Ent} {b : HB} (h : BlkRel β w e b) (r : BlkRel β' w' e b) : BlkRel β w' e b := by
  cases b with
  | cells s cs ro opn olds =>
    obtain ⟨_, cur0, _, _, _, _, _, _, a5⟩ := h
    obtain ⟨hs, cur, t, fz, h1, h2, h3, h4, h5⟩ := r
    refine ⟨hs, cur, t, fz, h1, h2, h3, h4, fun i x hi => ?_⟩
    obtain ⟨u0, _, g0, _⟩ := a5 i x hi
    obtain ⟨u, h6, h7, h8⟩ := h5 i x hi
    exact ⟨u, h6, Rel.back hx x _ _ g0 h7, h8⟩
  | map es clock =>
    obtain ⟨res0, _, a2⟩ := h
    obtain ⟨res, h1, h2⟩ := r
    exact ⟨res, h1, RelE.back hx es _ _ a2 h2⟩
  | siter s pos => exact r
  | gint g => exact r
  | gtab g k zs => exact r
  | kbox h' =>
    obtain ⟨_, _, _, e0, _, a3⟩ := h
    obtain ⟨h0, t, fz, e', h1, h2⟩ := r
    rw [hx.get a3] at h2; cases h2
    exact ⟨h0, t, fz, e0, h1, a3⟩
  | loop st pend fr ps a b =>
    obtain ⟨_, _, _, _, _, _, _, _, a8⟩ := h
    obtain ⟨rr, h1, h2, h3, h4, h5, h6, h7, h8⟩ := r
    refine ⟨rr, h1, h2, h3, h4, h5, h6, h7, fun i x hi => ?_⟩
    obtain ⟨u0, _, g0⟩ := a8 i x hi
    obtain ⟨u, g1, g2⟩ := h8 i x hi
    exact ⟨u, g1, Rel.back hx x _ _ g0 g2⟩
  | gpin g h' =>
    obtain ⟨_, _, _, e0, a3, _⟩ := h
    obtain ⟨h1, h2, h4, e', h3, h5⟩ := r
    rw [hx.get a3] at h3; cases h3
    exact ⟨h1, h2, h4, e0, a3, h5⟩
  | miter m since seen stepped =>
    obtain ⟨_, _, _, a2⟩ := h
    obtain ⟨h0, mb, h1, h2⟩ := r
    refine ⟨h0, mb, h1, ?_⟩
    cases m with
    | none => exact h2
    | some m =>
      obtain ⟨e0, a3, _⟩ := a2
      obtain ⟨e', h3, h4⟩ := h2
      rw [hx.get a3] at h3; cases h3
      exact ⟨e0, a3, h4⟩

theorem take_get {α : Type} {l l' : List α} (h : l'.take l.length = l) {i : Nat} {x : α} (hi : l[i]? = some x) : l'[i]? = some x := by
  have hlt := lt_of_get hi
  rw [← h, List.getElem?_take_of_lt hlt] at hi
  exact hi

theorem Step.gc {β β' : List Ent} {hs hs' : HS} {w w' : World} (E : Emb β hs w) (S : Step β hs w β' hs' w') (h : hs'.take hs.length = hs) : Step β hs w β hs w' := by
  refine ⟨Ext.refl _, ⟨E.len, fun i e b h1 h2 => ?_, E.sep⟩, S.size, S.same, fun _ _ h => h, S.os, S.output, S.tape, fun _ _ hl he => absurd (lt_of_get he) (by omega)⟩
  exact (E.blk i e b h1 h2).back S.ext (S.emb.blk i e b (S.ext.get h1) (take_get h h2))

def gcE (hs : HS) (r : HV × HS) : HV × HS := if r.1.plain && hsEqb (r.2.take hs.length) hs then (r.1, hs) else r

section
variable {P : Program}

theorem gc_end {β β' : List Ent} {hs hs' : HS} {w w' : World} {v : HV} {u : Value} (E : Emb β hs w) (S : Step β hs w β' hs' w') (hr : Rel β' v u) : ∃ β2, Rel β2 (gcE hs (v, hs')).1 u ∧ Step β hs w β2 (gcE hs (v, hs')).2 w' := by
  unfold gcE
  split
  · rename_i h
    simp only [Bool.and_eq_true] at h
    exact ⟨β, hr.plain h.1, S.gc E (hsEqb_eq _ _ h.2)⟩
  · exact ⟨β', hr, S⟩

theorem HCall.gc {f : FuncId} {args : List HV} {hs : HS} {Q : HV → HS → Prop} (h : HCall P f args hs Q) : HCall P f args hs fun v hs' => ∃ v1 hs1, Q v1 hs1 ∧ gcE hs (v1, hs1) = (v, hs') := by
  rcases h with ⟨ok, h⟩ | h
  · refine .inl ⟨ok, fun β w us E R => (h β w us E R).mono ?_⟩
    rintro e w' ⟨β', u, v, hs', he, hq, hr, S⟩
    obtain ⟨β2, h1, h2⟩ := gc_end E S hr
    exact ⟨β2, u, _, _, he, ⟨v, hs', hq, rfl⟩, h1, h2⟩
  · refine .inr fun β w us E R => ?_
    obtain ⟨w', β', u, v, hs', he, hq, hr, S⟩ := h β w us E R
    obtain ⟨β2, h1, h2⟩ := gc_end E S hr
    exact ⟨w', β2, u, _, _, he, ⟨v, hs', hq, rfl⟩, h1, h2⟩

/-! ### for the kernel: lists laid out -/
def forceH {γ : Type} (v : HV) (k : HV → γ) : γ :=
  match v with
  | .undef => k .undef
  | .bool b => k (.bool b)
  | .int j n => k (.int j n)
  | .str s => k (.str s)
  | .ptr h o => k (.ptr h o)
  | .nilPtr => k .nilPtr
  | .slice h o n c => k (.slice h o n c)
  | .nilSlice => k .nilSlice
  | .map h => k (.map h)
  | .nilMap => k .nilMap
  | .func f a b => k (.func f a b)
  | .nilFunc => k .nilFunc
  | .iface t v => k (.iface t v)
  | .nilIface => k .nilIface
  | .agg l => k (.agg l)
  | .tup l => k (.tup l)
  | .yld h => k (.yld h)
theorem forceH_eq {γ : Type} (v : HV) (k : HV → γ) : forceH v k = k v := by cases v <;> rfl
def forceO {γ : Type} (o : Option HB) (k : Option HB → γ) : γ :=
  match o with
  | none => k none
  | some b => k (some b)
theorem forceO_eq {γ : Type} (o : Option HB) (k : Option HB → γ) : forceO o k = k o := by cases o <;> rfl
def forceV {γ : Type} : List HV → (List HV → γ) → γ
  | [], k => k []
  | x :: r, k => forceH x fun x => forceV r fun r => k (x :: r)
theorem forceV_eq {γ : Type} : ∀ (l : List HV) (k : List HV → γ), forceV l k = k l
  | [], k => rfl
  | x :: r, k => by simp only [forceV, forceH_eq, forceV_eq r]
def forceS {γ : Type} : HS → (HS → γ) → γ
  | [], k => k []
  | x :: r, k => forceO x fun x => forceS r fun r => k (x :: r)
theorem forceS_eq {γ : Type} : ∀ (l : HS) (k : HS → γ), forceS l k = k l
  | [], k => rfl
  | x :: r, k => by simp only [forceS, forceO_eq, forceS_eq r]
def frc {γ : Type} (fr : List HV) (hs : HS) (k : List HV → HS → γ) : γ := forceV fr fun fr => forceS hs fun hs => k fr hs
theorem frc_eq {γ : Type} (fr : List HV) (hs : HS) (k : List HV → HS → γ) : frc fr hs k = k fr hs := by simp only [frc, forceV_eq, forceS_eq]

/-! ### lists of ends -/
def bindL {α γ : Type} : List α → (α → Option (List γ)) → Option (List γ)
  | [], _ => some []
  | x :: r, f => match f x with
    | none => none
    | some a => match bindL r f with
      | none => none
      | some b => some (a ++ b)

theorem bindL_mem {α γ : Type} {f : α → Option (List γ)} : ∀ {l : List α} {r : List γ}, bindL l f = some r → ∀ x ∈ l, ∃ a, f x = some a ∧ ∀ y ∈ a, y ∈ r
  | [], r, _, x, hx => by simp at hx
  | z :: l, r, h, x, hx => by
    unfold bindL at h
    split at h
    · simp at h
    · rename_i a ha
      split at h
      · simp at h
      · rename_i b hb
        simp at h; subst h
        rcases List.mem_cons.1 hx with rfl | hx
        · exact ⟨a, ha, fun y hy => List.mem_append_left _ hy⟩
        · obtain ⟨a', h1, h2⟩ := bindL_mem hb x hx
          exact ⟨a', h1, fun y hy => List.mem_append_right _ (h2 y hy)⟩

abbrev CallN := Callee → List HV → HS → Option (List (HV × HS))
def CallsOkN (P : Program) (call : CallN) : Prop := ∀ c args hs l, call c args hs = some l → HCallee P c args hs fun v hs' => (v, hs') ∈ l

def hactN (call : CallN) (act : HAct) (fr : List HV) (hs : HS) : Option (List (HV × HS)) :=
  match act with
  | .op o => (hop o fr hs).map fun r => [r]
  | .next x => hnextAll hs (x.ev fr)
  | .call f args => match calleeC (f.ev fr) (args.map (HX.ev fr)) with
    | some (g, xs) => call g xs hs
    | none => none
  | .inv tab r args => match calleeI tab hs (r.ev fr) (args.map (HX.ev fr)) with
    | some (g, xs) => call g xs hs
    | none => none

theorem hactN_sound {call : CallN} (C : CallsOkN P call) {act : HAct} {fr : List HV} {hs : HS} {l : List (HV × HS)} (h : hactN call act fr hs = some l) : act.does P fr hs fun v hs' => (v, hs') ∈ l := by
  cases act with
  | op o =>
    simp only [hactN, Option.map_eq_some_iff] at h
    obtain ⟨r, h1, rfl⟩ := h
    exact ⟨r.1, r.2, h1, by simp⟩
  | next x => exact ⟨l, h, fun p hp => hp⟩
  | call f args =>
    simp only [hactN] at h
    split at h
    · rename_i g xs hg
      exact ⟨g, xs, hg, C g xs hs l h⟩
    · simp at h
  | inv tab r args =>
    simp only [hactN] at h
    split at h
    · rename_i g xs hg
      exact ⟨g, xs, hg, C g xs hs l h⟩
    · simp at h

abbrev FHs := List (List HV × HS)

def hopsN (call : CallN) : List HOper → List HV → HS → Option FHs
  | [], fr, hs => some [(fr, hs)]
  | o :: r, fr, hs =>
    match wantH o.guard fr with
    | none => none
    | some false => hopsN call r (put fr o.dst (.tup [])) hs
    | some true => match hactN call o.act fr hs with
      | none => none
      | some l => bindL l fun p => hopsN call r (put fr o.dst p.1) p.2

theorem hopsN_sound {call : CallN} (C : CallsOkN P call) {K : List HV → HS → Prop} : ∀ {l : List HOper} {fr : List HV} {hs : HS} {r : FHs}, hopsN call l fr hs = some r → (∀ p ∈ r, K p.1 p.2) → HL P l fr hs K
  | [], fr, hs, r, h, hk => by simp [hopsN] at h; subst h; exact hk (fr, hs) (by simp)
  | o :: l, fr, hs, r, h, hk => by
    simp only [hopsN] at h
    simp only [HL]
    split at h
    · simp at h
    · rename_i hw
      exact ⟨false, hw, by simpa using hopsN_sound C h hk⟩
    · rename_i hw
      split at h
      · simp at h
      · rename_i l' ha
        refine ⟨true, hw, ?_⟩
        simp only [if_true]
        refine HAct.does_mono (hactN_sound C ha) ?_
        intro v hs1 hm
        obtain ⟨a, h1, h2⟩ := bindL_mem h _ hm
        exact hopsN_sound C h1 fun p hp => hk p (h2 p hp)

def hdrN (call : CallN) (hos : List HOper) (ps : List (List Nat)) : List Nat → List Pend → List HV → HS → Option FHs
  | [], _, fr, hs => some [(fr, hs)]
  | i :: r, pend, fr, hs =>
    match hos[i]? with
    | none => none
    | some o =>
      match wantH o.guard fr with
      | none => none
      | some false => hdrN call hos ps r pend (put fr o.dst (.tup [])) hs
      | some true =>
        if o.loud then
          match hactN call o.act fr hs with
          | none => none
          | some l => bindL l fun p => if holdsE ps i p.2 pend then hdrN call hos ps r pend (put fr o.dst p.1) p.2 else none
        else match o.act with
          | .op q => match hop q fr hs with
            | none => none
            | some (v, _) => hdrN call hos ps r (if q.looks then (q, fr, v, i) :: pend else pend) (put fr o.dst v) hs
          | _ => none

theorem hdrN_sound {call : CallN} (C : CallsOkN P call) {K : List HV → HS → Prop} {hos : List HOper} {ps : List (List Nat)} : ∀ {l : List Nat} {pend : List Pend} {fr : List HV} {hs : HS} {r : FHs}, (∀ p ∈ pend, p.1.loud = false) → hdrN call hos ps l pend fr hs = some r → (∀ p ∈ r, K p.1 p.2) → DR P hos ps l pend fr hs K
  | [], pend, fr, hs, r, _, h, hk => by simp [hdrN] at h; subst h; exact hk (fr, hs) (by simp)
  | i :: l, pend, fr, hs, r, hq, h, hk => by
    simp only [hdrN] at h
    simp only [DR]
    split at h
    · simp at h
    · rename_i o ho
      simp only [ho]
      split at h
      · simp at h
      · rename_i hw
        exact ⟨false, hw, by simpa using hdrN_sound C hq h hk⟩
      · rename_i hw
        refine ⟨true, hw, ?_⟩
        simp only [if_true]
        split at h
        · rename_i hlo
          rw [if_pos hlo]
          split at h
          · simp at h
          · rename_i l' ha
            refine HAct.does_mono (hactN_sound C ha) ?_
            intro v hs1 hm
            obtain ⟨a, h1, h2⟩ := bindL_mem h _ hm
            simp only at h1
            split at h1
            · rename_i hh
              exact ⟨holdsE_sound hq hh, hdrN_sound C hq h1 fun p hp => hk p (h2 p hp)⟩
            · simp at h1
        · rename_i hlo
          rw [if_neg hlo]
          split at h
          · rename_i q hqa
            split at h
            · simp at h
            · rename_i v hs1 hh
              have hql : q.loud = false := by simpa [HOper.loud, hqa] using hlo
              have e1 := hop_quiet hql hh
              subst e1
              simp only [hqa]
              refine ⟨v, hh, hdrN_sound C ?_ h hk⟩
              intro p hp
              split at hp
              · rcases List.mem_cons.1 hp with rfl | hp
                · exact hql
                · exact hq p hp
              · exact hq p hp
          · simp at h

def fhEqb (a b : List HV × HS) : Bool := HV.eqbL a.1 b.1 && hsEqb a.2 b.2
theorem fhEqb_eq (a b : List HV × HS) (h : fhEqb a b = true) : a = b := by
  obtain ⟨a1, a2⟩ := a
  obtain ⟨b1, b2⟩ := b
  simp only [fhEqb, Bool.and_eq_true] at h
  rw [HV.eqbL_eq _ _ h.1, hsEqb_eq _ _ h.2]

def gcCall (call : CallN) : CallN := fun c args hs => match c with
  | .fn f => (call (.fn f) args hs).map fun l => l.map (gcE hs)
  | .yld h => call (.yld h) args hs
theorem gcCall_ok {call : CallN} (C : CallsOkN P call) : CallsOkN P (gcCall call) := by
  intro c args hs l h
  cases c with
  | yld p => exact C (.yld p) args hs l h
  | fn f =>
    simp only [gcCall, Option.map_eq_some_iff] at h
    obtain ⟨l', h1, rfl⟩ := h
    refine (HCall.gc (C (.fn f) args hs l' h1)).mono ?_
    rintro v hs' ⟨v1, hs1, hm, he⟩
    exact List.mem_map.2 ⟨_, hm, he⟩

def hdtN (call : CallN) (hos : List HOper) (es ps : List (List Nat)) : Nat → List Nat → List Nat → List Pend → List HV → HS → Option FHs
  | 0, _, _, _, _, _ => none
  | n + 1, todo, pre, pend, fr, hs =>
    match nextCalm hos es todo pre fr with
    | some i =>
      match hos[i]? with
      | none => none
      | some o => match wantH o.guard fr with
        | none => none
        | some false => hdtN call hos es ps n (todo.erase i) (pre ++ [i]) pend (put fr o.dst (.tup [])) hs
        | some true => match o.act with
          | .op q => if q.loud then none else match hop q fr hs with
            | none => none
            | some (v, _) => hdtN call hos es ps n (todo.erase i) (pre ++ [i]) (if q.looks then (q, fr, v, i) :: pend else pend) (put fr o.dst v) hs
          | _ => none
    | none => match todo with
      | [] => some [(fr, hs)]
      | _ :: _ => (bindL (todo.filter (readyIn es pre)) fun i =>
        match hos[i]? with
        | none => none
        | some o => match wantH o.guard fr with
          | some true => match hactN call o.act fr hs with
            | none => none
            | some l => bindL l fun p => if holdsE ps i p.2 pend then hdtN call hos es ps n (todo.erase i) (pre ++ [i]) pend (put fr o.dst p.1) p.2 else none
          | _ => none).map (dedup fhEqb)

theorem hdtN_sound {call : CallN} (C : CallsOkN P call) {K : List HV → HS → Prop} {hos : List HOper} {es ps : List (List Nat)} : ∀ (n : Nat) {todo pre : List Nat} {pend : List Pend} {fr : List HV} {hs : HS} {r : FHs}, (∀ p ∈ pend, p.1.loud = false) → hdtN call hos es ps n todo pre pend fr hs = some r → (∀ p ∈ r, K p.1 p.2) → DT P hos es ps n todo pre pend fr hs K
  | 0, todo, pre, pend, fr, hs, r, _, h, _ => by simp [hdtN] at h
  | n + 1, todo, pre, pend, fr, hs, r, hq, h, hk => by
    simp only [hdtN] at h
    simp only [DT]
    split at h
    · rename_i i hi
      rw [hi]
      split at h
      · simp at h
      · rename_i o ho
        simp only [ho]
        split at h
        · simp at h
        · rename_i hw
          exact ⟨false, hw, by simpa using hdtN_sound C n hq h hk⟩
        · rename_i hw
          refine ⟨true, hw, ?_⟩
          simp only [if_true]
          split at h
          · rename_i q hqa
            split at h
            · simp at h
            · rename_i hql
              have hql : q.loud = false := by simpa using hql
              split at h
              · simp at h
              · rename_i v hs1 hh
                have e1 := hop_quiet hql hh
                subst e1
                simp only [hqa]
                refine ⟨hql, v, hh, hdtN_sound C n ?_ h hk⟩
                intro p hp
                split at hp
                · rcases List.mem_cons.1 hp with rfl | hp
                  · exact hql
                  · exact hq p hp
                · exact hq p hp
          · simp at h
    · rename_i hnc
      rw [hnc]
      split at h
      · simp at h; subst h
        exact ⟨fun _ => hk (fr, hs) (by simp), fun i hi => by simp at hi⟩
      · rename_i t0 ts
        refine ⟨fun h => by simp at h, fun i hi hr => ?_⟩
        simp only [Option.map_eq_some_iff] at h
        obtain ⟨l, hb, rfl⟩ := h
        obtain ⟨a, h1, h2⟩ := bindL_mem hb i (List.mem_filter.2 ⟨hi, hr⟩)
        split at h1
        · simp at h1
        · rename_i o ho
          simp only [ho]
          split at h1
          · rename_i hw
            refine ⟨hw, ?_⟩
            split at h1
            · simp at h1
            · rename_i l' ha
              refine HAct.does_mono (hactN_sound C ha) ?_
              intro v hs1 hm
              obtain ⟨a', g1, g2⟩ := bindL_mem h1 _ hm
              simp only at g1
              split at g1
              · rename_i hh
                exact ⟨holdsE_sound hq hh, hdtN_sound C n hq g1 fun p hp => hk p (dedup_mem fhEqb_eq (h2 p (g2 p hp)))⟩
              · simp at g1
          · simp at h1

abbrev Ends := List (HExit × List HV × HS)

def hxN (call : CallN) (okb : FuncId → Bool) (top : Bool) : Nat → HCode → List HV → HS → Option Ends
  | 0, _, _, _ => none
  | n + 1, c, fr, hs =>
    match c with
    | .skip | .lab => some [(.normal, fr, hs)]
    | .ret => some [(.ret, fr, hs)]
    | .exit id => some [(.exit id, fr, hs)]
    | .bad => none
    | .rangeFunc g ps a b => if top then match g.ev fr with
      | .func (.func gf) first cap => if okb gf then match call (.fn gf) (first ++ [.yld hs.length] ++ cap) (hs ++ [some (.loop .ready none fr ps a b)]) with
        | none => none
        | some l => bindL l fun p => match p.2[hs.length]? with
          | some (some (.loop .busy _ _ _ _ _)) => none
          | some (some (.loop _ pend _ _ _ _)) => some [(jumpExit pend, fr, p.2.set hs.length none)]
          | _ => none
        else none
      | _ => none
      else none
    | .scope c => hxN call okb top n c fr hs
    | .region ops kill => (hopsN call ops fr hs).map fun l => l.map fun p => (.normal, killFr kill p.1, p.2)
    | .draw ops ord ps kill => (hdrN call ops ps ord [] fr hs).map fun l => l.map fun p => (.normal, killFr kill p.1, p.2)
    | .tree ops ord es ps kill => (hdtN (gcCall call) ops es ps (ops.length + 1) ord [] [] fr hs).map fun l => (dedup fhEqb (l.map fun p => (killFr kill p.1, p.2))).map fun p => (.normal, p.1, p.2)
    | .seq a b => match hxN call okb top n a fr hs with
      | none => none
      | some l => bindL l fun p => match p.1 with
        | .normal => frc p.2.1 p.2.2 fun fr hs => hxN call okb top n b fr hs
        | _ => some [p]
    | .cond c a b => match c.ev fr with
      | .bool t => hxN call okb top n (if t then a else b) fr hs
      | _ => none
    | .block id c => (hxN call okb top n c fr hs).map fun l => l.map fun p => match p.1 with
      | .exit id' => (if id' = id then .normal else .exit id', p.2.1, p.2.2)
      | _ => p
    | .loop c => match hxN call okb top n c fr hs with
      | none => none
      | some l => bindL l fun p => match p.1 with
        | .normal => frc p.2.1 p.2.2 fun fr hs => hxN call okb top n (.loop c) fr hs
        | _ => some [p]

theorem HCall.hc {f : FuncId} {args : List HV} {hs : HS} {Q : HV → HS → Prop} (ok : okF P f) (h : HCall P f args hs Q) : HC P f args hs Q := by
  rcases h with ⟨_, h⟩ | h
  · exact h
  · intro β w us E R
    obtain ⟨w', β', u, v, hs', h1, _⟩ := h β w us E R
    obtain ⟨fn, e1, e2, e3⟩ := ok
    have hb : fn.body ≠ none := by cases hbd : fn.body <;> simp_all
    have e2' : fn.name ≠ "runtime.NumGoroutine" := by simpa using e2
    simp [callFunc, e1, e2', hb] at h1

theorem hxN_sound (hm : P.follows .mixedOrders = true) {call : CallN} (C : CallsOkN P call) {okb : FuncId → Bool} (B : ∀ f, okb f = true → okF P f) {top : Bool} {ro : Option Nat} (htop : top = true → ro = none) : ∀ (n : Nat) {c : HCode} {fr : List HV} {hs : HS} {l : Ends}, hxN call okb top n c fr hs = some l → HWr P ro c fr hs fun e1 fr1 hs1 => (e1, fr1, hs1) ∈ l
  | 0, c, fr, hs, l, h => by simp [hxN] at h
  | n + 1, c, fr, hs, l, h => by
    cases c with
    | skip => simp [hxN] at h; subst h; exact HW.skip (by simp)
    | lab => simp [hxN] at h; subst h; exact HW.lab (by simp)
    | ret => simp [hxN] at h; subst h; exact HW.ret (by simp)
    | exit id => simp [hxN] at h; subst h; exact HW.exit (by simp)
    | bad => simp [hxN] at h
    | rangeFunc g ps a b =>
      simp only [hxN] at h
      split at h
      · rename_i ht
        obtain rfl := htop ht
        split at h
        · rename_i gf first cap hg
          split at h
          · rename_i hok
            split at h
            · simp at h
            · rename_i l' hh
              refine HW.rangeFunc hg (B gf hok) ((HCall.hc (B gf hok) (C _ _ _ _ hh)).mono ?_)
              intro v hs2 hmem
              obtain ⟨r, h1, h2⟩ := bindL_mem h _ hmem
              simp only at h1
              split at h1
              · simp at h1
              · rename_i st pend fr' ps' a' b' hst hl
                simp at h1; subst h1
                exact ⟨st, pend, fr', ps', a', b', hl, fun e => hst e, h2 _ (by simp)⟩
              · simp at h1
          · simp at h
        · simp at h
      · simp at h
    | scope c => exact HW.scope (hxN_sound hm C B htop n (by simpa only [hxN] using h))
    | region ops kill =>
      simp only [hxN, Option.map_eq_some_iff] at h
      obtain ⟨r, h1, rfl⟩ := h
      exact HW.region (hopsN_sound C h1 fun p hp => List.mem_map.2 ⟨p, hp, rfl⟩)
    | draw ops ord ps kill =>
      simp only [hxN, Option.map_eq_some_iff] at h
      obtain ⟨r, h1, rfl⟩ := h
      exact HW.draw hm (hdrN_sound C (fun p hp => by simp at hp) h1 fun p hp => List.mem_map.2 ⟨p, hp, rfl⟩)
    | tree ops ord es ps kill =>
      simp only [hxN, Option.map_eq_some_iff] at h
      obtain ⟨r, h1, rfl⟩ := h
      refine HW.tree hm (hdtN_sound (gcCall_ok C) _ (fun p hp => by simp at hp) h1 fun p hp => ?_)
      exact List.mem_map.2 ⟨(killFr kill p.1, p.2), dedup_mem fhEqb_eq (List.mem_map.2 ⟨p, hp, rfl⟩), rfl⟩
    | seq a b =>
      simp only [hxN] at h
      refine HW.seq ?_
      split at h
      · simp at h
      · rename_i l' hh
        refine (hxN_sound hm C B htop n hh).mono ?_
        intro e1 fr2 hs2 hmem
        obtain ⟨r, h1, h2⟩ := bindL_mem h _ hmem
        cases e1 with
        | normal =>
          simp only [frc_eq] at h1
          exact (hxN_sound hm C B htop n h1).mono fun e fr hs hm => h2 _ hm
        | exit id => simp at h1; subst h1; exact h2 _ (by simp)
        | ret => simp at h1; subst h1; exact h2 _ (by simp)
    | cond c a b =>
      simp only [hxN] at h
      split at h
      · rename_i t ht
        exact HW.cond ht (hxN_sound hm C B htop n h)
      · simp at h
    | block id c =>
      simp only [hxN, Option.map_eq_some_iff] at h
      obtain ⟨r, hh, rfl⟩ := h
      refine HW.block ((hxN_sound hm C B htop n hh).mono ?_)
      intro e1 fr2 hs2 hmem
      cases e1 with
      | normal => exact List.mem_map.2 ⟨_, hmem, rfl⟩
      | ret => exact List.mem_map.2 ⟨_, hmem, rfl⟩
      | exit id' =>
        simp only [HBlock]
        split
        · rename_i hid
          exact List.mem_map.2 ⟨_, hmem, by simp only [if_pos hid]⟩
        · rename_i hid
          exact List.mem_map.2 ⟨_, hmem, by simp only [if_neg hid]⟩
    | loop c =>
      refine HW.loop (fun m fr hs => m ≤ n + 1 ∧ ∃ l', hxN call okb top m (.loop c) fr hs = some l' ∧ ∀ p ∈ l', p ∈ l) (n + 1) ⟨Nat.le_refl _, l, h, fun p hp => hp⟩ ?_
      rintro m fr1 hs1 ⟨hmn, l', hI, hsub⟩
      cases m with
      | zero => simp [hxN] at hI
      | succ m =>
        simp only [hxN] at hI
        split at hI
        · simp at hI
        · rename_i l2 hh
          have hih : HWr P ro c fr1 hs1 (fun e1 fr3 hs3 => (e1, fr3, hs3) ∈ l2) := by
            rcases Nat.lt_or_ge m (n + 1) with hlt | hge
            · exact hxN_sound hm C B htop m hh
            · omega
          refine hih.mono ?_
          intro e1 fr3 hs3 hmem
          obtain ⟨r, h1, h2⟩ := bindL_mem hI _ hmem
          cases e1 with
          | normal =>
            simp only [frc_eq] at h1
            exact ⟨m, Nat.lt_succ_self m, by omega, r, h1, fun p hp => hsub p (h2 p hp)⟩
          | exit id => simp at h1; subst h1; exact hsub _ (h2 _ (by simp))
          | ret => simp at h1; subst h1; exact hsub _ (h2 _ (by simp))
  termination_by n => n

end

def veEqb (a b : HV × HS) : Bool := HV.eqb a.1 b.1 && hsEqb a.2 b.2
theorem veEqb_eq (a b : HV × HS) (h : veEqb a b = true) : a = b := by
  obtain ⟨a1, a2⟩ := a
  obtain ⟨b1, b2⟩ := b
  simp only [veEqb, Bool.and_eq_true] at h
  rw [HV.eqb_eq _ _ h.1, hsEqb_eq _ _ h.2]

/-- ends of a call; if there are many: what is new is forgotten where it may be, and like ones are one. -/
def fewer (hs : HS) (l : List (HV × HS)) : List (HV × HS) :=
  match l with
  | [] => []
  | [x] => [canonE hs x]
  | l => dedup veEqb (l.map (canonE hs))

/-- a round, by reckoning; cc: how code is turned. -/
def yldN (call : CallN) (okb : FuncId → Bool) (cc : Code → Option HCode) (n : Nat) (h : Nat) (xs : List HV) (hs : HS) : Option (List (HV × HS)) :=
  match hs[h]? with
  | some (some (.loop .ready none fr ps a b)) =>
    if ps.length = xs.length then
      match cc a, cc b with
      | some ha, some hb => match hxN call okb false n ha (setAll ps xs fr) hs with
        | none => none
        | some l => bindL l fun p => match p.1, p.2.2[h]? with
          | .normal, some (some (.loop .ready none fr1 ps1 a1 b1)) => match hxN call okb false n hb p.2.1 (p.2.2.set h (some (.loop .busy none fr1 ps1 a1 b1))) with
            | none => none
            | some l2 => bindL l2 fun q => match q.2.2[h]? with
              | some (some (.loop .busy none fr4 ps4 a4 b4)) => some [(.bool (isNormal q.1), q.2.2.set h (some (.loop (afterE q.1).1 (afterE q.1).2 fr4 ps4 a4 b4)))]
              | _ => none
          | _, _ => none
      | _, _ => none
    else none
  | _ => none

def CcOk (P : Program) (cc : Code → Option HCode) : Prop := ∀ c h, cc c = some h → cCode P [] c = some h

theorem yldN_sound {P : Program} (hm : P.follows .mixedOrders = true) {call : CallN} (C : CallsOkN P call) {okb : FuncId → Bool} (B : ∀ f, okb f = true → okF P f) {cc : Code → Option HCode} (hcc : CcOk P cc) {n h : Nat} {xs : List HV} {hs : HS} {l : List (HV × HS)} (hh : yldN call okb cc n h xs hs = some l) :
    HYld P h xs hs fun v hs' => (v, hs') ∈ l := by
  unfold yldN at hh
  split at hh
  · rename_i fr ps a b hl
    split at hh
    · rename_i hps
      split at hh
      · rename_i ha hb h1 h2
        split at hh
        · simp at hh
        · rename_i l1 hx1
          refine HYld.of hl hps (hcc _ _ h1) (hcc _ _ h2) ((hxN_sound hm C B (top := false) (ro := some h) (fun e => by simp at e) n hx1).mono ?_)
          intro e fr2 hs2 hmem
          obtain ⟨r, g1, g2⟩ := bindL_mem hh _ hmem
          simp only at g1
          split at g1
          · rename_i fr1 ps1 a1 b1 hl2
            split at g1
            · simp at g1
            · rename_i l2 hx2
              refine ⟨rfl, fr1, ps1, a1, b1, hl2, ((hxN_sound hm C B (top := false) (ro := some h) (fun e => by simp at e) n hx2).mono ?_)⟩
              intro e3 fr3 hs3 hmem3
              obtain ⟨r', k1, k2⟩ := bindL_mem g1 _ hmem3
              simp only at k1
              split at k1
              · rename_i fr4 ps4 a4 b4 hl3
                simp at k1; subst k1
                exact ⟨fr4, ps4, a4, b4, hl3, g2 _ (k2 _ (by simp))⟩
              · simp at k1
          · simp at g1
      · simp at hh
    · simp at hh
  · simp at hh

theorem HC.gcs {P : Program} {f : FuncId} {args : List HV} {hs : HS} {l : List (HV × HS)} (h : HC P f args hs fun v hs' => (v, hs') ∈ l) : HC P f args hs fun v hs' => (v, hs') ∈ fewer hs l := by
  unfold fewer
  split
  · exact h
  · rename_i x
    intro β w us E R
    refine (h β w us E R).mono ?_
    rintro e w' ⟨β', u, v, hs', he, hq, hr, S⟩
    simp only [List.mem_singleton] at hq
    subst hq
    obtain ⟨β2, h1, h2⟩ := canon_end E S hr
    exact ⟨β2, u, _, _, he, by simp, h1, h2⟩
  · intro β w us E R
    refine (h β w us E R).mono ?_
    rintro e w' ⟨β', u, v, hs', he, hq, hr, S⟩
    obtain ⟨β2, h1, h2⟩ := canon_end E S hr
    exact ⟨β2, u, _, _, he, dedup_mem veEqb_eq (List.mem_map.2 ⟨_, hq, rfl⟩), h1, h2⟩

/-- calls by the functions' own bodies, but for those that are given; T: calls whose ends are known. -/
def hallM (cc : Code → Option HCode) (F : FuncId → Option HFn) (X : FuncId → Option (List HV → HS → Option (HV × HS))) (T : FuncId → List HV → HS → Option (HV × HS)) : Nat → CallN
  | 0, _, _, _ => none
  | n + 1, .yld h, args, hs => yldN (hallM cc F X T n) (fun f => (F f).isSome) cc n h args hs
  | n + 1, .fn f, args, hs =>
    match T f args hs with
    | some r => some [r]
    | none => match X f with
      | some g => (g args hs).map fun r => [r]
      | none => match F f with
        | none => none
        | some hf => match hxN (hallM cc F X T n) (fun f => (F f).isSome) true n hf.body (frame0 hf.ntmps args) hs with
          | none => none
          | some l => (bindL l fun p => if p.1.ended then (hres hf.res p.2.1 p.2.2).map fun v => [(v, p.2.2)] else none).map (fewer hs)

def TOk (P : Program) (T : FuncId → List HV → HS → Option (HV × HS)) : Prop := ∀ f args hs v hs', T f args hs = some (v, hs') → HCall P f args hs fun v1 hs1 => v1 = v ∧ hs1 = hs'

section
variable {P : Program} {cc : Code → Option HCode} {F : FuncId → Option HFn} {X : FuncId → Option (List HV → HS → Option (HV × HS))} {T : FuncId → List HV → HS → Option (HV × HS)}

theorem okb_ok (hF : FOk P F) : ∀ f, (F f).isSome = true → okF P f := by
  intro f h
  obtain ⟨hf, hff⟩ := Option.isSome_iff_exists.1 h
  obtain ⟨fn, kills, h1, h2⟩ := hF f hf hff
  exact cFn_ok h1 h2

theorem body_HC (hm : P.follows .mixedOrders = true) (hF : FOk P F) {call : CallN} (C : CallsOkN P call) {n : Nat} {f : FuncId} {args : List HV} {hs : HS} {hf : HFn} (hff : F f = some hf) {l : Ends} {r : List (HV × HS)}
    (hh : hxN call (fun f => (F f).isSome) true n hf.body (frame0 hf.ntmps args) hs = some l) (hr : (bindL l fun p => if p.1.ended then (hres hf.res p.2.1 p.2.2).map fun v => [(v, p.2.2)] else none) = some r) : okF P f ∧ HC P f args hs fun v hs' => (v, hs') ∈ r := by
  obtain ⟨fn, kills, h1, h2⟩ := hF f hf hff
  refine ⟨cFn_ok h1 h2, HC.body h1 h2 ((hxN_sound hm C (okb_ok hF) (ro := none) (fun _ => rfl) n hh).mono ?_)⟩
  intro e fr hs' hmem
  obtain ⟨a, g1, g2⟩ := bindL_mem hr _ hmem
  simp only at g1
  split at g1
  · rename_i he
    simp only [Option.map_eq_some_iff] at g1
    obtain ⟨v, hv, rfl⟩ := g1
    exact ⟨he, v, hv, g2 _ (by simp)⟩
  · simp at g1

theorem hallM_sound (hm : P.follows .mixedOrders = true) (hcc : CcOk P cc) (hF : FOk P F) (hX : XOk P X) (hT : TOk P T) : ∀ n, CallsOkN P (hallM cc F X T n)
  | 0 => fun c args hs l h => by cases c <;> simp [hallM] at h
  | n + 1 => fun c args hs l h => by
    cases c with
    | yld p =>
      simp only [hallM] at h
      exact yldN_sound hm (hallM_sound hm hcc hF hX hT n) (okb_ok hF) hcc h
    | fn f =>
      simp only [hallM] at h
      split at h
      · rename_i r hr
        simp at h; subst h
        refine HCall.mono (hT f args hs r.1 r.2 hr) ?_
        rintro v hs' ⟨rfl, rfl⟩
        simp
      · split at h
        · rename_i g hg
          simp only [Option.map_eq_some_iff] at h
          obtain ⟨r, h1, rfl⟩ := h
          refine HCall.mono (hX f g hg args hs r.1 r.2 h1) ?_
          rintro v hs' ⟨rfl, rfl⟩
          simp
        · split at h
          · simp at h
          · rename_i hf hff
            split at h
            · simp at h
            · rename_i l' hh
              simp only [Option.map_eq_some_iff] at h
              obtain ⟨r, hr, rfl⟩ := h
              obtain ⟨ok, hc⟩ := body_HC hm hF (hallM_sound hm hcc hF hX hT n) hff hh hr
              exact .inl ⟨ok, hc.gcs⟩

def hcallM (cc : Code → Option HCode) (F : FuncId → Option HFn) (X : FuncId → Option (List HV → HS → Option (HV × HS))) (T : FuncId → List HV → HS → Option (HV × HS)) (n : Nat) (f : FuncId) (args : List HV) (hs : HS) : Option (List (HV × HS)) := hallM cc F X T n (.fn f) args hs

/-- one call's end. -/
theorem hcallM_lit (hm : P.follows .mixedOrders = true) (hcc : CcOk P cc) (hF : FOk P F) (hX : XOk P X) (hT : TOk P T) {n : Nat} {f : FuncId} {A : List HV} {H R : HS} {v : HV}
    (h : ((hcallM cc F X T n f A H).map fun l => l.all fun x => veEqb x (v, R)) = some true) : HCall P f A H fun v1 hs1 => v1 = v ∧ hs1 = R := by
  unfold hcallM at h
  cases hr : hallM cc F X T n (.fn f) A H with
  | none => rw [hr] at h; simp at h
  | some l =>
    rw [hr] at h
    simp only [Option.map_some, Option.some.injEq, List.all_eq_true] at h
    refine HCall.mono (hallM_sound hm hcc hF hX hT n (.fn f) A H l hr) fun v1 hs1 hm => ?_
    have := veEqb_eq _ _ (h _ hm)
    simp at this
    exact this

/-- a run all of whose ends are one bool. -/
theorem hcallM_bool (hm : P.follows .mixedOrders = true) (hcc : CcOk P cc) (hF : FOk P F) (hX : XOk P X) (hT : TOk P T) {n : Nat} {f : FuncId} {args : List HV} {hs : HS} {b : Bool} (hf0 : (F f).isSome = true)
    (h : ((hcallM cc F X T n f args hs).map fun l => l.all fun x => HV.eqb x.1 (.bool b)) = some true) : HC P f args hs fun v _ => v = .bool b := by
  unfold hcallM at h
  cases hr : hallM cc F X T n (.fn f) args hs with
  | none => rw [hr] at h; simp at h
  | some l =>
    rw [hr] at h
    simp only [Option.map_some, Option.some.injEq, List.all_eq_true] at h
    exact (HCall.hc (okb_ok hF f hf0) (hallM_sound hm hcc hF hX hT n (.fn f) args hs l hr)).mono fun v hs' hm => HV.eqb_eq _ _ (h _ hm)

def hcallN (F : FuncId → Option HFn) (X : FuncId → Option (List HV → HS → Option (HV × HS))) : Nat → FuncId → List HV → HS → Option (List (HV × HS)) := hcallM (fun _ => none) F X fun _ _ _ => none
theorem hcallN_bool (hm : P.follows .mixedOrders = true) (hF : FOk P F) (hX : XOk P X) {n : Nat} {f : FuncId} {args : List HV} {hs : HS} {b : Bool} (hf0 : (F f).isSome = true)
    (h : ((hcallN F X n f args hs).map fun l => l.all fun x => HV.eqb x.1 (.bool b)) = some true) : HC P f args hs fun v _ => v = .bool b :=
  hcallM_bool hm (fun _ _ h => by simp at h) hF hX (fun _ _ _ _ _ h => by simp at h) hf0 h
end
end Go.HL
