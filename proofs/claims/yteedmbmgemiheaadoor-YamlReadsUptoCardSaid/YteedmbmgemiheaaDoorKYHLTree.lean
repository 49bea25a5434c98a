/-
  HL: a region whose order is open and has more than one loud operation at a time: all orders of the loud ones are followed.
-/
import Derived.Test.YteedmbmgemiheaaDoorKYHLDraw
namespace Go.HL
open Go
variable {ds : List Deferred}

/-! ### what the check says -/
structure OrdersT (ops : List Oper) (hos : List HOper) : Prop where
  low : ∀ (i : Nat) (o : Oper) (k : Nat), ops[i]? = some o → k ∈ edgesOf o → k < i
  one : ∀ (i k : Nat) (o p : HOper) (d : Nat), k ≠ i → hos[i]? = some o → hos[k]? = some p → p.dst = some d → o.dst ≠ some d
  conf : ∀ (i k : Nat) (o p : HOper) (d : Nat), k ≠ i → hos[i]? = some o → hos[k]? = some p → p.dst = some d → d ∈ readsOf o → Bef ops k i ∨ Bef ops i k

theorem treeOk_sound {ops : List Oper} {hos : List HOper} {ord : List Nat} (h : treeOk ops hos ord = true) : OrdersT ops hos ∧ (∀ i, i < ops.length → i ∈ ord) ∧ (∀ i ∈ ord, i < ops.length) ∧ ord.Nodup := by
  unfold treeOk at h
  simp only [Bool.and_eq_true] at h
  obtain ⟨⟨⟨⟨h3, h4⟩, h5⟩, h1⟩, h7⟩ := h
  have psOk : ∀ i k, k ∈ (predsGo ops []).getD i [] → Bef ops k i := predsGo_sound ops ops [] ⟨[], rfl, rfl⟩ (fun i k hk => by simp at hk)
  have low : ∀ (i : Nat) (o : Oper) (k : Nat), ops[i]? = some o → k ∈ edgesOf o → k < i := by
    intro i o k ho hk
    have hm : (edgesOf o, i) ∈ (ops.map edgesOf).zipIdx := by
      rw [List.mem_zipIdx_iff_getElem?]
      simp [ho]
    have := List.all_eq_true.1 h1 _ hm
    have := List.all_eq_true.1 this k hk
    simpa using this
  have C : ∀ (i k : Nat) (o p : HOper) (d : Nat), k ≠ i → hos[i]? = some o → hos[k]? = some p → p.dst = some d → o.dst ≠ some d ∧ (d ∈ readsOf o → Bef ops k i ∨ Bef ops i k) := by
    intro i k o p d hki ho hp hd
    have hi := lt_of_get ho
    have hk := lt_of_get hp
    have := List.all_eq_true.1 (List.all_eq_true.1 h7 i (by simpa using hi)) k (by simpa using hk)
    simp only [ho, hp, hd] at this
    have hne : (i == k) = false := by simpa using fun e : i = k => hki e.symm
    simp only [hne, Bool.false_or, Bool.and_eq_true, Bool.or_eq_true] at this
    refine ⟨by simpa using this.1, fun hdr => ?_⟩
    rcases this.2 with (hq | hq) | hq
    · simp [hdr] at hq
    · exact .inl (psOk i k (by simpa using hq))
    · exact .inr (psOk k i (by simpa using hq))
  obtain ⟨nd, _⟩ := extends_sound (ops.map edgesOf) ord [] (by simp) h5
  refine ⟨⟨low, fun i k o p d a b c e => (C i k o p d a b c e).1, fun i k o p d a b c e => (C i k o p d a b c e).2⟩, fun i hi => ?_, fun i hi => by simpa using List.all_eq_true.1 h4 i hi, by simpa using nd⟩
  have := List.all_eq_true.1 h3 i (by simpa using hi)
  simpa using this

/-! ### all orders -/
def readyIn (es : List (List Nat)) (pre : List Nat) (i : Nat) : Bool := (es.getD i []).all pre.contains

/-- what may be done at once: it is quiet, or is not wanted. -/
def calmAt (hos : List HOper) (fr : List HV) (i : Nat) : Bool :=
  match hos[i]? with
  | some o => !o.loud || wantH o.guard fr == some false
  | none => true

def nextCalm (hos : List HOper) (es : List (List Nat)) (todo pre : List Nat) (fr : List HV) : Option Nat := todo.find? fun i => readyIn es pre i && calmAt hos fr i

def DT (P : Program) (hos : List HOper) (es ps : List (List Nat)) : Nat → List Nat → List Nat → List Pend → List HV → HS → (List HV → HS → Prop) → Prop
  | 0, _, _, _, _, _, _ => False
  | n + 1, todo, pre, pend, fr, hs, K =>
    match nextCalm hos es todo pre fr with
    | some i =>
      match hos[i]? with
      | none => False
      | some o =>
        ∃ b, wantH o.guard fr = some b ∧
          if b then
            match o.act with
            | .op q => q.loud = false ∧ ∃ v, hop q fr hs = some (v, hs) ∧ DT P hos es ps n (todo.erase i) (pre ++ [i]) (if q.looks then (q, fr, v, i) :: pend else pend) (put fr o.dst v) hs K
            | _ => False
          else DT P hos es ps n (todo.erase i) (pre ++ [i]) pend (put fr o.dst (.tup [])) hs K
    | none => (todo = [] → K fr hs) ∧ ∀ i ∈ todo, readyIn es pre i = true →
      match hos[i]? with
      | none => False
      | some o => wantH o.guard fr = some true ∧ o.act.does P fr hs fun v hs' => Holds ps i hs' pend ∧ DT P hos es ps n (todo.erase i) (pre ++ [i]) pend (put fr o.dst v) hs' K

section
variable {P : Program}

structure InvT (P : Program) (ds : List Deferred) (rops : Array Oper) (hos : List HOper) (ps : List (List Nat)) (fr0 : List HV) (β0 : List Ent) (hs0 : HS) (w0 : World) (K : List HV → HS → Prop) (listed : Array Bool) (a : Act) (w : World)
    (n : Nat) (todo pre : List Nat) (pend : List Pend) (val : Nat → HV) (cf : Nat → List HV) (frc fr : List HV) (hs : HS) (β : List Ent) : Prop where
  all : ∀ i, i < rops.size → i ∈ pre ∨ i ∈ todo
  apart : ∀ i, i ∈ pre → i ∉ todo
  nodup : todo.Nodup
  nodupP : pre.Nodup
  sub : ∀ i, Lst listed i → i ∈ pre
  closed : ∀ (i : Nat) (o : Oper) (k : Nat), Lst listed i → rops.toList[i]? = some o → k ∈ edgesOf o → Lst listed k
  lin : ∀ pre1 i post, pre = pre1 ++ i :: post → ∀ (o : Oper) (k : Nat), rops.toList[i]? = some o → k ∈ edgesOf o → k ∈ pre1
  agc : Agree hos fr0 (· ∈ pre) val frc
  ag : Agree hos fr0 (Lst listed) val fr
  cfs : ∀ i ∈ pre, ∃ pre1 post, pre = pre1 ++ i :: post ∧ Agree hos fr0 (· ∈ pre1) val (cf i)
  left : ∀ i ∈ pre, ¬ Lst listed i → ∃ o, hos[i]? = some o ∧ ((wantH o.guard (cf i) = some false ∧ val i = .tup []) ∨
    (wantH o.guard (cf i) = some true ∧ ∃ q, o.act = .op q ∧ q.loud = false ∧ hop q (cf i) hs = some (val i, hs) ∧ (q.looks = true → (q, cf i, val i, i) ∈ pend)))
  dt : DT P hos (rops.toList.map edgesOf) ps n todo pre pend frc hs K
  fr : FrRel ds β fr a
  st : Step β0 hs0 w0 β hs w

variable {rops : Array Oper} {hos : List HOper} {ps : List (List Nat)} {fr0 : List HV} {β0 : List Ent} {hs0 : HS} {w0 : World} {K : List HV → HS → Prop} {listed : Array Bool} {a : Act} {w : World}

theorem es_get (rops : Array Oper) {i : Nat} {o : Oper} (ho : rops.toList[i]? = some o) : (rops.toList.map edgesOf).getD i [] = edgesOf o := by
  rw [List.getD_eq_getElem?_getD, List.getElem?_map, ho]; rfl

theorem readyIn_iff {pre : List Nat} {i : Nat} {o : Oper} (ho : rops.toList[i]? = some o) : readyIn (rops.toList.map edgesOf) pre i = true ↔ ∀ k ∈ edgesOf o, k ∈ pre := by
  unfold readyIn
  rw [es_get rops ho, List.all_eq_true]
  simp

/-- what stands in a prefix has all of its forerunners there, ahead of it. -/
theorem lin_bef {ops : List Oper} {pre : List Nat} (hl : ∀ pre1 i post, pre = pre1 ++ i :: post → ∀ (o : Oper) (k : Nat), ops[i]? = some o → k ∈ edgesOf o → k ∈ pre1) : ∀ {k i : Nat}, Bef ops k i → ∀ pre1 post, pre = pre1 ++ i :: post → k ∈ pre1 := by
  intro k i hb
  induction hb with
  | edge o ho hk => intro pre1 post hp; exact hl pre1 _ post hp o _ ho hk
  | @trans a b c _ _ ih1 ih2 =>
    intro pre1 post hp
    have hj := ih2 pre1 post hp
    obtain ⟨p1, p2, rfl⟩ := List.append_of_mem hj
    have := ih1 p1 (p2 ++ c :: post) (by rw [hp]; simp)
    exact List.mem_append_left _ this

theorem lin_mem {ops : List Oper} {pre : List Nat} (hl : ∀ pre1 i post, pre = pre1 ++ i :: post → ∀ (o : Oper) (k : Nat), ops[i]? = some o → k ∈ edgesOf o → k ∈ pre1) {k i : Nat} (hb : Bef ops k i) (hi : i ∈ pre) : k ∈ pre := by
  obtain ⟨p1, p2, hp⟩ := List.append_of_mem hi
  rw [hp]; exact List.mem_append_left _ (lin_bef hl hb p1 p2 hp)

/-- one more behind a prefix. -/
theorem lin_snoc {ops : List Oper} {pre : List Nat} (hl : ∀ pre1 i post, pre = pre1 ++ i :: post → ∀ (o : Oper) (k : Nat), ops[i]? = some o → k ∈ edgesOf o → k ∈ pre1) {j : Nat} (hj : ∀ (o : Oper) (k : Nat), ops[j]? = some o → k ∈ edgesOf o → k ∈ pre) :
    ∀ pre1 i post, pre ++ [j] = pre1 ++ i :: post → ∀ (o : Oper) (k : Nat), ops[i]? = some o → k ∈ edgesOf o → k ∈ pre1 := by
  intro pre1 i post hp o k ho hk
  rcases List.eq_nil_or_concat post with rfl | ⟨post', x, rfl⟩
  · have h2 := List.append_inj' hp (by simp)
    obtain ⟨h3, h4⟩ := h2
    simp at h4; subst h4 h3
    exact hj o k ho hk
  · have hp' : pre ++ [j] = (pre1 ++ i :: post') ++ [x] := by rw [hp]; simp
    obtain ⟨h3, _⟩ := List.append_inj' hp' (by simp)
    exact hl pre1 i post' h3 o k ho hk

def CalmDone (hos : List HOper) (es : List (List Nat)) (todo pre : List Nat) (frc : List HV) : Prop := nextCalm hos es todo pre frc = none

theorem InvT.advance (O : OrdersT rops.toList hos) : ∀ (n : Nat) (todo pre : List Nat) (pend : List Pend) (val : Nat → HV) (cf : Nat → List HV) (frc fr : List HV) (hs : HS) (β : List Ent),
    InvT P ds rops hos ps fr0 β0 hs0 w0 K listed a w n todo pre pend val cf frc fr hs β → (∀ i ∈ todo, i < rops.size) →
    ∃ n' todo' pre' pend' val' cf' frc', InvT P ds rops hos ps fr0 β0 hs0 w0 K listed a w n' todo' pre' pend' val' cf' frc' fr hs β ∧ (∀ i ∈ todo', i < rops.size) ∧ CalmDone hos (rops.toList.map edgesOf) todo' pre' frc'
  | 0, todo, pre, pend, val, cf, frc, fr, hs, β, I, _ => I.dt.elim
  | n + 1, todo, pre, pend, val, cf, frc, fr, hs, β, I, hlt => by
    have hdt := I.dt
    simp only [DT] at hdt
    cases hnc : nextCalm hos (rops.toList.map edgesOf) todo pre frc with
    | none => exact ⟨n + 1, todo, pre, pend, val, cf, frc, I, hlt, hnc⟩
    | some i =>
      rw [hnc] at hdt
      simp only at hdt
      have hit : i ∈ todo := List.mem_of_find?_eq_some hnc
      have hic := List.find?_some hnc
      simp only [Bool.and_eq_true] at hic
      have hir : i < rops.size := hlt i hit
      have hro : rops.toList[i]? = some rops[i] := by simp [hir]
      have hedge := (readyIn_iff hro).1 hic.1
      have hni : i ∉ pre := fun h => I.apart i h hit
      split at hdt
      · exact hdt.elim
      · rename_i o ho
        obtain ⟨b, hb, hdt⟩ := hdt
        have hlt' : ∀ k ∈ todo.erase i, k < rops.size := fun k hk => hlt k (List.mem_of_mem_erase hk)
        have pass : ∀ (v : HV) (pend' : List Pend), (∀ p ∈ pend, p ∈ pend') →
            ((wantH o.guard frc = some false ∧ v = .tup []) ∨ (wantH o.guard frc = some true ∧ ∃ q, o.act = .op q ∧ q.loud = false ∧ hop q frc hs = some (v, hs) ∧ (q.looks = true → (q, frc, v, i) ∈ pend'))) →
            DT P hos (rops.toList.map edgesOf) ps n (todo.erase i) (pre ++ [i]) pend' (put frc o.dst v) hs K →
            ∃ n' todo' pre' pend' val' cf' frc', InvT P ds rops hos ps fr0 β0 hs0 w0 K listed a w n' todo' pre' pend' val' cf' frc' fr hs β ∧ (∀ i ∈ todo', i < rops.size) ∧ CalmDone hos (rops.toList.map edgesOf) todo' pre' frc' := by
          intro v pend' hpp hv hd
          have hne : ∀ k, k ∈ pre → k ≠ i := fun k hk e => hni (e ▸ hk)
          refine InvT.advance O n (todo.erase i) (pre ++ [i]) pend' (fun k => if k = i then v else val k) (fun k => if k = i then frc else cf k) (put frc o.dst v) fr hs β ?_ hlt'
          refine ⟨?_, ?_, I.nodup.erase i, ?_, fun k hk => List.mem_append_left _ (I.sub k hk), I.closed, ?_, ?_, ?_, ?_, ?_, hd, I.fr, I.st⟩
          · intro k hk
            by_cases hki : k = i
            · subst hki; exact .inl (by simp)
            · rcases I.all k hk with h | h
              · exact .inl (List.mem_append_left _ h)
              · exact .inr ((List.mem_erase_of_ne hki).2 h)
          · intro k hk hkt
            rcases List.mem_append.1 hk with hk | hk
            · exact I.apart k hk (List.mem_of_mem_erase hkt)
            · simp at hk; subst hk
              exact (List.Nodup.not_mem_erase I.nodup) hkt
          · rw [List.nodup_append]
            exact ⟨I.nodupP, by simp, fun x hx y hy => by simp at hy; subst hy; exact hne x hx⟩
          · refine lin_snoc I.lin fun o' k ho' hk => ?_
            rw [hro] at ho'; cases ho'
            exact hedge k hk
          · exact I.agc.put ho v (fun k => by simp) (by simp) (fun k hk hki => by simp [hki]) hni (fun k p d hki hp hd => O.one i k o p d hki ho hp hd)
          · refine I.ag.congr fun k hk => ?_
            rw [if_neg (hne k (I.sub k hk))]
          · intro k hk
            rcases List.mem_append.1 hk with hk | hk
            · obtain ⟨p1, p2, h1, h2⟩ := I.cfs k hk
              refine ⟨p1, p2 ++ [i], by rw [h1]; simp, ?_⟩
              rw [if_neg (hne k hk)]
              refine h2.congr fun j hj => ?_
              rw [if_neg (hne j (by rw [h1]; exact List.mem_append_left _ hj))]
            · simp at hk; subst hk
              refine ⟨pre, [], rfl, ?_⟩
              simp only [if_true]
              refine I.agc.congr fun j hj => ?_
              rw [if_neg (hne j hj)]
          · intro k hk hkl
            rcases List.mem_append.1 hk with hk | hk
            · obtain ⟨o', h1, h2⟩ := I.left k hk hkl
              refine ⟨o', h1, ?_⟩
              simp only [if_neg (hne k hk)]
              rcases h2 with h2 | ⟨h2, q, h3, h4, h5, h6⟩
              · exact .inl h2
              · exact .inr ⟨h2, q, h3, h4, h5, fun hq => hpp _ (h6 hq)⟩
            · simp at hk; subst hk
              refine ⟨o, ho, ?_⟩
              simp only [if_true]
              exact hv
        cases b with
        | false =>
          simp only [Bool.false_eq_true, if_false] at hdt
          exact pass (.tup []) pend (fun p h => h) (.inl ⟨hb, rfl⟩) hdt
        | true =>
          simp only [if_true] at hdt
          split at hdt
          · rename_i q hq
            obtain ⟨hql, v, h1, h2⟩ := hdt
            refine pass v _ (fun p h => ?_) (.inr ⟨hb, q, hq, hql, h1, fun hk => ?_⟩) h2
            · split
              · exact List.mem_cons_of_mem _ h
              · exact h
            · rw [if_pos hk]; exact List.mem_cons_self ..
          · exact hdt.elim

theorem nextT_ag (O : OrdersT rops.toList hos) {fr : List HV} {val val' : Nat → HV} {i : Nat} {o : HOper} {v : HV} (ag : Agree hos fr0 (Lst listed) val fr) (ho : hos[i]? = some o) (hi : listed[i]? = some false) (hv : val' i = v) (hvo : ∀ k, Lst listed k → k ≠ i → val' k = val k) :
    Agree hos fr0 (Lst (listed.setIfInBounds i true)) val' (put fr o.dst v) := by
  have hlt := lt_of_geta hi
  refine ag.put ho v (fun k => ?_) hv hvo (by simp [Lst, hi]) (fun k p d hki hp hd => O.one i k o p d hki ho hp hd)
  unfold Lst
  rw [Array.getElem?_setIfInBounds]
  by_cases hk : i = k
  · subst hk; simp [hlt]
  · simp [hk]; intro e; exact absurd e.symm hk

theorem tree_any {ro : Option Nat} (O : OrdersT rops.toList hos) (hc : cOpers P rops rops.toList = some hos) (hps : ∀ i k, k ∈ ps.getD i [] → Bef rops.toList k i) {Q : Exit → Act → World → Prop}
    (hQ : ∀ β' w' a' fr' hs', K fr' hs' → Step β0 hs0 w0 β' hs' w' → FrRel ds β' fr' a' → Q .normal a' w') :
    ∀ (fuel : Nat) (listed : Array Bool) (a : Act) (w : World) (n : Nat) (todo pre : List Nat) (pend : List Pend) (val : Nat → HV) (cf : Nat → List HV) (frc fr : List HV) (hs : HS) (β : List Ent),
      listed.size = rops.size → (∃ l : List Nat, l.length ≤ fuel ∧ ∀ i, i < rops.size → ¬ Lst listed i → i ∈ l) → (∀ i ∈ todo, i < rops.size) →
      InvT P ds rops hos ps fr0 β0 hs0 w0 K listed a w n todo pre pend val cf frc fr hs β → CalmDone hos (rops.toList.map edgesOf) todo pre frc → wpAnyIn (FR ro) 0 P .any rops Q fuel listed a w := by
  intro fuel
  have fin : ∀ (listed : Array Bool) (a : Act) (w : World) (n : Nat) (todo pre : List Nat) (pend : List Pend) (val : Nat → HV) (cf : Nat → List HV) (frc fr : List HV) (hs : HS) (β : List Ent), listed.size = rops.size → (∀ i ∈ todo, i < rops.size) →
      InvT P ds rops hos ps fr0 β0 hs0 w0 K listed a w n todo pre pend val cf frc fr hs β → CalmDone hos (rops.toList.map edgesOf) todo pre frc → Region.ready .any rops listed = [] → Q .normal a w := by
    intro listed a w n todo pre pend val cf frc fr hs β hsz hlt I hat hr
    have hall : ∀ n i, i < n → i < rops.size → Lst listed i := by
      intro n
      induction n with
      | zero => intro i h; omega
      | succ n ih =>
        intro i hi his
        by_cases hn : i < n
        · exact ih i hn his
        · by_cases hl : Lst listed i
          · exact hl
          · exfalso
            have hf : listed[i]? = some false := by
              have : i < listed.size := by omega
              unfold Lst at hl
              rw [Array.getElem?_eq_getElem this] at hl ⊢
              cases hb : listed[i] <;> simp_all
            have ho : rops[i]? = some rops[i] := by simp [his]
            have : i ∈ Region.ready .any rops listed := ready_iff.2 ⟨his, hf, _, ho, fun k hk => by
              have := O.low i _ k (by simp) hk
              exact ih k (by omega) (by omega)⟩
            rw [hr] at this; simp at this
    have htodo : todo = [] := by
      apply List.eq_nil_iff_forall_not_mem.2
      intro i hi
      exact I.apart i (I.sub i (hall _ i (Nat.lt_succ_self i) (hlt i hi))) hi
    subst htodo
    have hK : K frc hs := by
      have hdt := I.dt
      cases n with
      | zero => exact hdt.elim
      | succ n =>
        simp only [DT, show nextCalm hos (rops.toList.map edgesOf) [] pre frc = none from hat] at hdt
        exact hdt.1 trivial
    have heq : fr = frc := by
      apply List.ext_getElem?
      intro d
      by_cases hd : ∃ i o, i ∈ pre ∧ hos[i]? = some o ∧ o.dst = some d
      · obtain ⟨i, o, hi, ho, hdo⟩ := hd
        have his : i < rops.size := by
          have := lt_of_get ho
          rw [(cOpers_get hc).1] at this
          simpa using this
        have hl := hall _ i (Nat.lt_succ_self i) his
        by_cases hlt : d < fr0.length
        · rw [I.ag.hit i o d hl ho hdo hlt, I.agc.hit i o d hi ho hdo hlt]
        · rw [List.getElem?_eq_none (by rw [I.ag.len]; omega), List.getElem?_eq_none (by rw [I.agc.len]; omega)]
      · rw [I.ag.miss d fun i o hi ho hdo => hd ⟨i, o, I.sub i hi, ho, hdo⟩, I.agc.miss d fun i o hi ho hdo => hd ⟨i, o, hi, ho, hdo⟩]
    subst heq
    exact hQ β w a fr hs hK I.st I.fr
  induction fuel with
  | zero =>
    rintro listed a w n todo pre pend val cf frc fr hs β hsz ⟨l, hl, hcov⟩ hlt I hat
    have hl0 : l = [] := List.eq_nil_of_length_eq_zero (by omega)
    subst hl0
    have hr : Region.ready .any rops listed = [] := by
      apply List.eq_nil_iff_forall_not_mem.2
      intro i hi
      obtain ⟨h1, h2, _⟩ := ready_iff.1 hi
      have := hcov i h1 (by simp [Lst, h2])
      simp at this
    exact ⟨hr, fin listed a w n todo pre pend val cf frc fr hs β hsz hlt I hat hr⟩
  | succ fuel ih =>
    rintro listed a w n todo pre pend val cf frc fr hs β hsz ⟨cov, hcl, hcov⟩ hlt I hat
    refine ⟨fin listed a w n todo pre pend val cf frc fr hs β hsz hlt I hat, ?_⟩
    intro i hi
    obtain ⟨his, hif, o, ho, hedges⟩ := ready_iff.1 hi
    have hol : rops.toList[i]? = some o := by simpa using ho
    obtain ⟨hoo, hho, hco⟩ := (cOpers_get hc).2 i o hol
    have hnl : ¬ Lst listed i := by simp [Lst, hif]
    have hcov' : ∃ l : List Nat, l.length ≤ fuel ∧ ∀ k, k < rops.size → ¬ Lst (listed.setIfInBounds i true) k → k ∈ l := by
      refine ⟨cov.erase i, ?_, fun k hk hkl => ?_⟩
      · have := List.length_erase_of_mem (hcov i his hnl)
        omega
      · have h1 : ¬ Lst listed k := fun h => hkl (Lst_mono h)
        have h2 : k ≠ i := by
          rintro rfl
          apply hkl
          unfold Lst
          simp [show k < listed.size by omega]
        exact (List.mem_erase_of_ne h2).2 (hcov k hk h1)
    have hsz' : (listed.setIfInBounds i true).size = rops.size := by simpa using hsz
    have hclosed' : ∀ (j : Nat) (o' : Oper) (k : Nat), Lst (listed.setIfInBounds i true) j → rops.toList[j]? = some o' → k ∈ edgesOf o' → Lst (listed.setIfInBounds i true) k := by
      intro j o' k hj ho' hk
      rcases Lst_set hj with hj | rfl
      · exact Lst_mono (I.closed j o' k hj ho' hk)
      · rw [hol] at ho'; cases ho'
        exact Lst_mono (hedges k hk)
    have hbef : ∀ {k}, Bef rops.toList k i → Lst listed k := fun h => ready_bef I.closed hol hedges h
    have hC := fun (k : Nat) (p : HOper) (d : Nat) (a1 : k ≠ i) (a2 : hos[k]? = some p) (a3 : p.dst = some d) (a4 : d ∈ readsOf hoo) => O.conf i k hoo p d a1 hho a2 a3 a4
    unfold cOper at hco
    split at hco
    · rename_i act g hact hg
      simp at hco; subst hco
      unfold wpOpIn
      simp only [ho]
      by_cases hip : i ∈ pre
      · -- one that the followed order has passed
        obtain ⟨p1, post, hpre, hag1⟩ := I.cfs i hip
        have hnd := I.nodupP
        rw [hpre] at hnd
        have hnp1 : i ∉ p1 := fun h => by
          rw [List.nodup_append] at hnd
          exact hnd.2.2 i h i (by simp) rfl
        have hreads := Agree.reads (ops := rops.toList) I.ag hag1 (o := ⟨o.dst, act, g⟩) hC
          (fun k hb => ⟨hbef hb, lin_bef I.lin hb p1 post hpre⟩)
          (fun k hb => ⟨fun hk => hnl (Lst_bef I.closed hb hk), fun hk => by
            obtain ⟨x, y, rfl⟩ := List.append_of_mem hk
            have := lin_bef I.lin hb x (y ++ i :: post) (by rw [hpre]; simp)
            exact hnp1 (List.mem_append_left _ this)⟩) hnl hnp1
        have hcongr := wantH_congr hreads
        obtain ⟨o', ho', hleft⟩ := I.left i hip hnl
        rw [hho] at ho'; cases ho'
        rcases hleft with ⟨hw, hv⟩ | ⟨hw, q, hq, hql, hqh, _⟩
        · simp only at hw hcongr
          rw [wantH_sound I.fr hg (hcongr.trans hw)]
          simp only [Bool.false_eq_true, if_false]
          refine ⟨fun _ _ => trivial, ?_⟩
          refine ih _ _ _ n todo pre pend val cf frc (put fr o.dst (.tup [])) hs β hsz' hcov' hlt ?_ hat
          refine ⟨I.all, I.apart, I.nodup, I.nodupP, fun k hk => ?_, hclosed', I.lin, I.agc, ?_, I.cfs, fun k hk hkl => I.left k hk fun h => hkl (Lst_mono h), I.dt, I.fr.put o.dst (v := .tup []) (u := undef) rel_tup0, I.st⟩
          · rcases Lst_set hk with hk | rfl
            · exact I.sub k hk
            · exact hip
          · exact nextT_ag O (o := ⟨o.dst, act, g⟩) I.ag hho hif hv fun _ _ _ => rfl
        · simp only at hw hcongr hq
          subst hq
          rw [wantH_sound I.fr hg (hcongr.trans hw)]
          simp only [if_true]
          have hcon : hop q fr hs = some (val i, hs) := by
            rw [← hqh]
            exact hop_congr fun t ht => hreads t (by simp [readsOf, ht])
          refine does_sound I.st.emb I.fr hact (K := fun v hs' => v = val i ∧ hs' = hs) ⟨val i, hs, hcon, rfl, rfl⟩ ?_
          rintro v hs' β' w' a' ⟨rfl, rfl⟩ S F
          refine ih _ _ _ n todo pre pend val cf frc (put fr o.dst (val i)) hs' β' hsz' hcov' hlt ?_ hat
          refine ⟨I.all, I.apart, I.nodup, I.nodupP, fun k hk => ?_, hclosed', I.lin, I.agc, ?_, I.cfs, fun k hk hkl => I.left k hk fun h => hkl (Lst_mono h), I.dt, F, I.st.trans S⟩
          · rcases Lst_set hk with hk | rfl
            · exact I.sub k hk
            · exact hip
          · exact nextT_ag O (o := ⟨o.dst, .op q, g⟩) I.ag hho hif rfl fun _ _ _ => rfl
      · -- a loud one: it stands among those that are followed
        have hit : i ∈ todo := (I.all i his).resolve_left hip
        have hrdy : readyIn (rops.toList.map edgesOf) pre i = true := (readyIn_iff hol).2 fun k hk => I.sub k (hedges k hk)
        have hdt := I.dt
        cases n with
        | zero => exact hdt.elim
        | succ n =>
        simp only [DT, show nextCalm hos (rops.toList.map edgesOf) todo pre frc = none from hat] at hdt
        have hdi := hdt.2 i hit hrdy
        simp only [hho] at hdi
        obtain ⟨hwl, hdr⟩ := hdi
        have hreads := Agree.reads (ops := rops.toList) I.agc I.ag (o := ⟨o.dst, act, g⟩) hC
          (fun k hb => ⟨I.sub k (hbef hb), hbef hb⟩)
          (fun k hb => ⟨fun hk => hip (lin_mem I.lin hb hk), fun hk => hnl (Lst_bef I.closed hb hk)⟩) hip hnl
        have hcongr := wantH_congr hreads
        simp only at hcongr
        rw [wantH_sound I.fr hg (hcongr.symm.trans hwl)]
        simp only [if_true]
        refine does_sound I.st.emb I.fr hact (does_congr hreads hdr) ?_
        rintro v hs' β' w' a' ⟨hH, hD⟩ S F
        have hne : ∀ k, k ∈ pre → k ≠ i := fun k hk e => hip (e ▸ hk)
        have I' : InvT P ds rops hos ps fr0 β0 hs0 w0 K (listed.setIfInBounds i true) a' w' n (todo.erase i) (pre ++ [i]) pend (fun k => if k = i then v else val k) (fun k => if k = i then frc else cf k) (put frc o.dst v) (put fr o.dst v) hs' β' := by
          refine ⟨?_, ?_, I.nodup.erase i, ?_, fun k hk => ?_, hclosed', ?_, ?_, ?_, ?_, ?_, hD, F, I.st.trans S⟩
          · intro k hk
            by_cases hki : k = i
            · subst hki; exact .inl (by simp)
            · rcases I.all k hk with h | h
              · exact .inl (List.mem_append_left _ h)
              · exact .inr ((List.mem_erase_of_ne hki).2 h)
          · intro k hk hkt
            rcases List.mem_append.1 hk with hk | hk
            · exact I.apart k hk (List.mem_of_mem_erase hkt)
            · simp at hk; subst hk
              exact (List.Nodup.not_mem_erase I.nodup) hkt
          · rw [List.nodup_append]
            exact ⟨I.nodupP, by simp, fun x hx y hy => by simp at hy; subst hy; exact hne x hx⟩
          · rcases Lst_set hk with hk | rfl
            · exact List.mem_append_left _ (I.sub k hk)
            · simp
          · refine lin_snoc I.lin fun o' k ho' hk => ?_
            rw [hol] at ho'; cases ho'
            exact I.sub k (hedges k hk)
          · exact I.agc.put (o := ⟨o.dst, act, g⟩) hho v (fun k => by simp) (by simp) (fun k hk hki => by simp [hki]) hip (fun k p d hki hp hd => O.one i k _ p d hki hho hp hd)
          · exact nextT_ag O (o := ⟨o.dst, act, g⟩) I.ag hho hif (by simp) fun k hk hki => by simp [hki]
          · intro k hk
            rcases List.mem_append.1 hk with hk | hk
            · obtain ⟨q1, q2, h1, h2⟩ := I.cfs k hk
              refine ⟨q1, q2 ++ [i], by rw [h1]; simp, ?_⟩
              rw [if_neg (hne k hk)]
              refine h2.congr fun j hj => ?_
              rw [if_neg (hne j (by rw [h1]; exact List.mem_append_left _ hj))]
            · simp at hk; subst hk
              refine ⟨pre, [], rfl, ?_⟩
              simp only [if_true]
              refine I.agc.congr fun j hj => ?_
              rw [if_neg (hne j hj)]
          · intro k hk hkl
            rcases List.mem_append.1 hk with hk | hk
            · have hkl0 : ¬ Lst listed k := fun h => hkl (Lst_mono h)
              obtain ⟨o', h1, h2⟩ := I.left k hk hkl0
              refine ⟨o', h1, ?_⟩
              simp only [if_neg (hne k hk)]
              rcases h2 with h2 | ⟨h2, q, h3, h4, h5, h6⟩
              · exact .inl h2
              · refine .inr ⟨h2, q, h3, h4, ?_, h6⟩
                cases hlk : q.looks with
                | false => exact hop_pure h4 hlk h5 hs'
                | true =>
                  refine hH.mem (h6 hlk) ?_
                  simp only
                  cases hcon : (ps.getD i []).contains k with
                  | false => rfl
                  | true => exact absurd (hbef (hps i k (by simpa using hcon))) hkl0
            · simp at hk; subst hk
              exfalso
              apply hkl
              unfold Lst
              simp [show k < listed.size by omega]
        obtain ⟨n', todo', pre', pend', val', cf', frc', I'', hlt'', hat'⟩ := I'.advance O _ _ _ _ _ _ _ _ _ _ (fun k hk => hlt k (List.mem_of_mem_erase hk))
        exact ih _ _ _ n' todo' pre' pend' val' cf' frc' _ hs' β' hsz' hcov' hlt'' I'' hat'
    · simp at hco

/-- A REGION WHOSE ORDER IS OPEN: all orders of its loud ones. -/
theorem HW.tree {ro : Option Nat} (hm : P.follows .mixedOrders = true) {ops : List HOper} {ord : List Nat} {es ps : List (List Nat)} {kill : List Nat} {fr : List HV} {hs : HS} {Q : HExit → List HV → HS → Prop} {n : Nat}
    (h : DT P ops es ps n ord [] [] fr hs fun fr hs => Q .normal (killFr kill fr) hs) : HWr P ro (.tree ops ord es ps kill) fr hs Q := by
  intro k c' hc ds β a w rb hr0 E F
  cases c' <;> simp only [cCode] at hc <;> (try (simp at hc; done))
  case region id rops draw =>
    split at hc
    · rename_i hos h1
      split at hc
      · rename_i hd
        split at hc
        · simp at hc
        · split at hc
          · rename_i hok
            simp at hc; obtain ⟨rfl, rfl, rfl, rfl, rfl⟩ := hc
            have hd' : draw = true := hd
            subst hd'
            obtain ⟨O, hall, hlo, hnd⟩ := treeOk_sound hok
            refine wpIn_region_any hm ?_
            have S := Step.drew E (w.drawn + 1)
            have hlen : hos.length = rops.size := by rw [(cOpers_get h1).1]; simp
            have hno : ∀ i, ¬ Lst (Array.replicate rops.size false) i := by
              intro i h
              unfold Lst at h
              rw [Array.getElem?_replicate] at h
              split at h <;> simp at h
            have I0 : InvT P ds rops hos (predsOf rops.toList hos) fr β hs { w with drawn := w.drawn + 1 } (fun fr hs => Q .normal (killFr (killsOf k id) fr) hs) (Array.replicate rops.size false) a { w with drawn := w.drawn + 1 } n (eager rops.toList hos) [] [] (fun _ => .undef) (fun _ => []) fr fr hs β := by
              refine ⟨fun i hi => .inr (hall i (by simpa using hi)), fun i hi => by simp at hi, hnd, by simp, fun i hi => absurd hi (hno i), fun i o k hi => absurd hi (hno i), fun pre1 i post hp => by simp at hp,
                ⟨rfl, fun i o d hi => by simp at hi, fun d _ => rfl⟩, ⟨rfl, fun i o d hi => absurd hi (hno i), fun d _ => rfl⟩, fun i hi => by simp at hi, fun i hi => by simp at hi, h, F, Step.refl S.emb⟩
            obtain ⟨n', todo', pre', pend', val', cf', frc', I', hlt', hat'⟩ := I0.advance O _ _ _ _ _ _ _ _ _ _ (fun i hi => by simpa using hlo i hi)
            refine tree_any (K := fun fr hs => Q .normal (killFr (killsOf k id) fr) hs) O h1 (predsOf_sound rops.toList hos) ?_ rops.size _ a _ n' todo' pre' pend' val' cf' frc' fr hs β (by simp) ⟨List.range rops.size, by simp, fun i hi _ => by simpa using hi⟩ hlt' I' hat'
            intro β' w' a' fr' hs' q S' F'
            exact ⟨.normal, β', _, hs', rfl, q, ⟨_, _, F'.kill _, .refl⟩, S.trans S'⟩
          · simp at hc
      · simp at hc
    · simp at hc
  all_goals (split at hc <;> (try split at hc) <;> (try split at hc) <;> (try split at hc) <;> simp at hc)

end
end Go.HL
