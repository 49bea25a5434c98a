/-
  HL: the code of a function, turned; what it comes to.
-/
import Derived.Test.YteedmbmgemiheaaDoorKYHLCode2
import Derived.LoopN
import Derived.Tactics
import Derived.Deep.LoopGhost
import Derived.Scope
import Derived.Sort.LoopGhostIn
import Derived.TacticsIn
import Derived.OrdersIn
namespace Go.HL
open Go
variable {ds : List Deferred}

inductive HAct where
  | op (o : HOp)
  | call (f : HX) (args : List HX)
  | next (x : HX)
  /-- a call of an interface's method; tab: the method of each type. -/
  | inv (tab : List (TypeId × FuncId × Option (Option Nat))) (r : HX) (args : List HX)

structure HOper where
  dst : Option Nat
  act : HAct
  guard : Option (Nat × Bool)

inductive HCode where
  | skip
  | region (ops : List HOper) (kill : List Nat)
  | draw (ops : List HOper) (ord : List Nat) (ps : List (List Nat)) (kill : List Nat)
  | tree (ops : List HOper) (ord : List Nat) (es ps : List (List Nat)) (kill : List Nat)
  | seq (a b : HCode)
  | cond (c : HX) (a b : HCode)
  | block (id : Nat) (c : HCode)
  | loop (c : HCode)
  | exit (id : Nat)
  | ret
  | scope (c : HCode)
  | rangeFunc (g : HX) (ps : List Nat) (a b : Code)
  | lab
  | bad

inductive HExit where
  | normal
  | exit (id : Nat)
  | ret

def HExit.to : HExit → Exit
  | .normal => .normal
  | .exit id => .exit id
  | .ret => .ret

/-! ### turning -/
section
variable (P : Program)

def cGuard (ops : Array Oper) : Option (Nat × Bool) → Option (Option (Nat × Bool))
  | none => some none
  | some (j, want) => match (ops[j]?).bind (·.dst) with
    | some t => some (some (t, want))
    | none => none

/-- how the receiver is handed on: as it is, or what it points at. -/
def recvMode (t : TypeId) (ptr : Bool) : Option (Option (Option Nat)) :=
  match P.underlying t with
  | some (.pointer el) => if ptr then some none else (aggT P el).map some
  | some _ => if ptr then none else some none
  | none => none

/-- which function a method is, type by type. -/
def dispatchAt (name : String) (t : TypeId) : Option (FuncId × Option (Option Nat)) :=
  match P.info? t with
  | some i => match i.methods.find? (·.name == name) with
    | some m => if m.path.isEmpty then match m.func with
      | some (f, ptr) => (recvMode P t ptr).map fun k => (f, k)
      | none => none
      else none
    | none => none
  | none => none

def dispatch (name : String) : List (TypeId × FuncId × Option (Option Nat)) := (List.range P.types.size).filterMap fun t => (dispatchAt P name t).map fun f => (t, f)

def cAct0 (o : Op) : Option HAct :=
  match o with
  | .call { callee := .value f, args, .. } => match cX f, cXs args.toList with
    | some f, some xs => some (.call f xs)
    | _, _ => none
  | .next x false => (cX x).map .next
  | .call { callee := .invoke r name, args, .. } => match cX r, cXs args.toList with
    | some r, some xs => some (.inv (dispatch P name) r xs)
    | _, _ => none
  | o => (cOp P o).map .op

/-- what cannot be turned is turned to a thing that never comes to anything. -/
def cAct (o : Op) : Option HAct :=
  match cAct0 P o with
  | some a => some a
  | none => some (.op .bad)

def cOper (ops : Array Oper) (o : Oper) : Option HOper :=
  match cAct P o.op, cGuard ops o.guard with
  | some a, some g => some ⟨o.dst, a, g⟩
  | _, _ => none

def cOpers (ops : Array Oper) : List Oper → Option (List HOper)
  | [] => some []
  | o :: r => match cOper P ops o, cOpers ops r with
    | some h, some hs => some (h :: hs)
    | _, _ => none

/-- kills: for each region's number the places that nobody reads behind it. -/
def killsOf (kills : List (Nat × List Nat)) (id : Nat) : List Nat :=
  match kills with
  | [] => []
  | (k, l) :: r => if k = id then l else killsOf r id

/-! orders that a region leaves open: who must run ahead of whom. -/
def edgesOf (o : Oper) : List Nat := (o.after.toList.filter (Region.binds .any)).map (·.on)

def predsGo : List Oper → List (List Nat) → List (List Nat)
  | [], acc => acc
  | o :: r, acc => predsGo r (acc ++ [((edgesOf o).map fun k => k :: acc.getD k []).flatten.eraseDups])

def rx : HX → List Nat
  | .tmp t => [t]
  | .cst _ => []
def rxs (l : List HX) : List Nat := (l.map rx).flatten
def rxo : Option HX → List Nat
  | some y => rx y
  | none => []
def rps (ps : List (Nat × Nat × HX)) : List Nat := (ps.map fun p => rx p.2.2).flatten

def readsOp : HOp → List Nat
  | .mv a | .box a | .load _ a | .nilc a | .un _ a | .cInt _ a | .mark a | .cStr a | .b2s a | .s2b a | .faddr _ a | .field _ _ a | .clr a | .rangeStr a | .nextStr a | .rangeMap a | .entry a | .cap a | .iface _ a | .assert _ _ _ a | .ext _ a | .len _ a => rx a
  | .pick a b c | .mapUpd _ a b c => rx a ++ rx b ++ rx c
  | .build _ ps | .bslice _ _ _ ps => rps ps
  | .store _ a b | .bin _ _ a b | .idxS _ a b | .idxA _ _ a b | .idxV _ _ _ a b | .idxStr a b | .mkSlice _ _ _ a b | .lookup _ _ _ a b | .del _ a b | .append _ _ a b | .copy _ a b => rx a ++ rx b
  | .sliceStr a b c => rx a ++ rxo b ++ rxo c
  | .sliceSl _ a b c d | .sliceArr _ _ a b c d => rx a ++ rxo b ++ rxo c ++ rxo d
  | .mkMap | .bad | .gload _ _ => []
  | .gidxA _ _ _ i => rx i
  | .mkfn _ f c => rxs f ++ rxs c
  | .minmax _ l => rxs l

def readsOf (o : HOper) : List Nat :=
  (match o.guard with | some (t, _) => [t] | none => []) ++
  match o.act with
  | .call f args => rx f ++ rxs args
  | .op o => readsOp o
  | .next x => rx x
  | .inv _ r xs => rx r ++ rxs xs

/-- operations that turn memory, or may. -/
def HOp.loud : HOp → Bool
  | .box _ | .bslice _ _ _ _ | .store _ _ _ | .s2b _ | .mkSlice _ _ _ _ _ | .mkMap | .mapUpd _ _ _ _ | .del _ _ _ | .clr _ | .rangeStr _ | .nextStr _ | .rangeMap _ | .append _ _ _ _ | .copy _ _ _ => true
  | _ => false

def HOper.loud (o : HOper) : Bool :=
  match o.act with
  | .call _ _ => true
  | .op o => o.loud
  | .next _ => true
  | .inv _ _ _ => true

/-- operations that look at memory. -/
def HOp.looks : HOp → Bool
  | .load _ _ | .gload _ _ | .gidxA _ _ _ _ | .mark _ | .b2s _ | .idxS _ _ _ | .sliceSl _ _ _ _ _ | .sliceArr _ _ _ _ _ _ | .lookup _ _ _ _ _ | .len _ _ | .entry _ => true
  | _ => false

/-- an order in which what is quiet comes as early as may be. -/
def eagerGo (es : List (List Nat)) (loud : List Bool) : Nat → List Nat → List Nat → List Nat
  | 0, _, done => done
  | n + 1, todo, done =>
    let ready := todo.filter fun i => (es.getD i []).all done.contains
    match (ready.filter fun i => !loud.getD i false) ++ ready with
    | [] => done
    | i :: _ => eagerGo es loud n (todo.filter (· != i)) (done ++ [i])

def eager (ops : List Oper) (hos : List HOper) : List Nat := eagerGo (ops.map edgesOf) (hos.map HOper.loud) ops.length (List.range ops.length) []

/-- each one's edges lead to such as stand ahead of it. -/
def extends_ (es : List (List Nat)) : List Nat → List Nat → Bool
  | _, [] => true
  | seen, i :: r => (es.getD i []).all seen.contains && !seen.contains i && extends_ es (seen ++ [i]) r

/-- what is quiet and stands behind a loud one must wait for it; loud ones wait for each other. -/
def waits (ps : List (List Nat)) (loud : List Bool) : Option Nat → List Nat → Bool
  | _, [] => true
  | last, i :: r => (match last with | some l => (ps.getD i []).contains l | none => true) && waits ps loud (if loud.getD i false then some i else last) r

def conflictsOk (ps : List (List Nat)) (hos : List HOper) : Bool :=
  (List.range hos.length).all fun i => (List.range hos.length).all fun k =>
    i == k || match hos[i]?, hos[k]? with
    | some o, some p =>
      match p.dst with
      | some d => o.dst != some d && (!(readsOf o).contains d || (ps.getD i []).contains k || (ps.getD k []).contains i)
      | none => true
    | _, _ => false

/-- are the orders such that every one does the same as this one? -/
def orderOk (ops : List Oper) (hos : List HOper) (ord : List Nat) : Bool :=
  let es := ops.map edgesOf
  let ps := predsGo ops []
  (es.zipIdx.all fun (e, i) => e.all fun k => decide (k < i)) && ord.length == ops.length && (List.range ops.length).all ord.contains && ord.all (fun i => decide (i < ops.length)) && extends_ es [] ord && waits ps (hos.map HOper.loud) none ord && conflictsOk ps hos

/-- may all orders be followed? -/
def treeOk (ops : List Oper) (hos : List HOper) (ord : List Nat) : Bool :=
  (List.range ops.length).all ord.contains && ord.all (fun i => decide (i < ops.length)) && extends_ (ops.map edgesOf) [] ord &&
  ((ops.map edgesOf).zipIdx.all fun (e, i) => e.all fun k => decide (k < i)) && conflictsOk (predsGo ops []) hos

def HOper.looks (o : HOper) : Bool :=
  match o.act with
  | .op q => q.looks
  | _ => false

/-- for each loud one: which of those that look at memory run ahead of it in any case. -/
def predsOf (ops : List Oper) (hos : List HOper) : List (List Nat) :=
  (predsGo ops []).zipIdx.map fun (l, i) => if ((hos[i]?).map HOper.loud).getD false then l.filter fun k => ((hos[k]?).map HOper.looks).getD false else []

def cCode (kills : List (Nat × List Nat)) : Code → Option HCode
  | .skip => some .skip
  | .region id ops draw =>
    match cOpers P ops ops.toList with
    | some hos => if draw then (if orderOk ops.toList hos (eager ops.toList hos) = true then some (.draw hos (eager ops.toList hos) (predsOf ops.toList hos) (killsOf kills id)) else if treeOk ops.toList hos (eager ops.toList hos) = true then some (.tree hos (eager ops.toList hos) (ops.toList.map edgesOf) (predsOf ops.toList hos) (killsOf kills id)) else some .bad) else some (.region hos (killsOf kills id))
    | none => none
  | .seq a b => match cCode kills a, cCode kills b with
    | some x, some y => some (.seq x y)
    | _, _ => none
  | .cond c a b => match cX c, cCode kills a, cCode kills b with
    | some c, some x, some y => some (.cond c x y)
    | none, some _, some _ => some .bad
    | _, _, _ => none
  | .block id c => (cCode kills c).map (.block id)
  | .loop c => (cCode kills c).map .loop
  | .exit id => some (.exit id)
  | .ret => some .ret
  | .scope c => (cCode kills c).map .scope
  | .label _ => some .lab
  | .rangeFunc g ps a b => match cX g with
    | some g => some (.rangeFunc g ps.toList a b)
    | none => some .bad
  | _ => some .bad

end

def put (fr : List HV) (dst : Option Nat) (v : HV) : List HV :=
  match dst with
  | some d => fr.set d v
  | none => fr

def killFr (l : List Nat) (fr : List HV) : List HV := l.foldl (fun fr t => fr.set t .undef) fr

theorem FrRel.put {β : List Ent} {fr : List HV} {a : Act} (F : FrRel ds β fr a) (dst : Option Nat) {v : HV} {u : Value} (h : Rel β v u) : FrRel ds β (put fr dst v) (a.put dst u) := by
  cases dst with
  | none => exact F
  | some d =>
    refine ⟨by simp [HL.put, Act.put, F.len], fun i x hx => ?_, F.defers⟩
    simp only [HL.put, List.getElem?_set] at hx
    simp only [Act.put]
    split at hx
    · rename_i hd; subst hd
      split at hx
      · rename_i hlt
        simp at hx; subst hx
        have : d < a.tmps.size := by rw [← F.len]; exact hlt
        exact ⟨u, by simp [this], h⟩
      · simp at hx
    · rename_i hd
      rw [Array.getElem?_setIfInBounds_ne hd]
      exact F.get i x hx

theorem FrRel.undef {β : List Ent} {fr : List HV} {a : Act} (F : FrRel ds β fr a) (t : Nat) : FrRel ds β (fr.set t .undef) a := by
  refine ⟨by simp [F.len], fun i x hx => ?_, F.defers⟩
  rw [List.getElem?_set] at hx
  split at hx
  · rename_i hd; subst hd
    split at hx
    · rename_i hlt
      simp at hx; subst hx
      have hlt' : t < a.tmps.size := by rw [← F.len]; exact hlt
      exact ⟨a.tmps[t], by simp [hlt'], trivial⟩
    · simp at hx
  · exact F.get i x hx

theorem FrRel.kill {β : List Ent} {a : Act} (l : List Nat) : ∀ {fr : List HV}, FrRel ds β fr a → FrRel ds β (killFr l fr) a := by
  induction l with
  | nil => intro fr F; exact F
  | cons t l ih => intro fr F; exact ih (F.undef t)

/-! ### contracts -/
/-- what a call of a function comes to. -/
def HC (P : Program) (f : FuncId) (args : List HV) (hs : HS) (Q : HV → HS → Prop) : Prop :=
  ∀ (β : List Ent) (w : World) (us : List Value), Emb β hs w → RelL β args us →
    Calls P f us.toArray w fun e w' => ∃ β' u v hs', e = .returned u ∧ Q v hs' ∧ Rel β' v u ∧ Step β hs w β' hs' w'

/-- a function that has a body. -/
def okF (P : Program) (f : FuncId) : Prop := ∃ fn, P.funcs[f]? = some fn ∧ (fn.name == "runtime.NumGoroutine") = false ∧ fn.body.isSome = true

/-- what a function that has no body comes to. -/
def HXt (P : Program) (f : FuncId) (args : List HV) (hs : HS) (Q : HV → HS → Prop) : Prop :=
  ∀ (β : List Ent) (w : World) (us : List Value), Emb β hs w → RelL β args us →
    ∃ w' β' u v hs', (callFunc f us.toArray).run P w = .ok (.value u) w' ∧ Q v hs' ∧ Rel β' v u ∧ Step β hs w β' hs' w'

def HCall (P : Program) (f : FuncId) (args : List HV) (hs : HS) (Q : HV → HS → Prop) : Prop := (okF P f ∧ HC P f args hs Q) ∨ HXt P f args hs Q

theorem HC.mono {P : Program} {f : FuncId} {args : List HV} {hs : HS} {Q Q' : HV → HS → Prop} (h : HC P f args hs Q) (hq : ∀ v hs, Q v hs → Q' v hs) : HC P f args hs Q' :=
  fun β w us E R => (h β w us E R).mono fun _ _ ⟨β', u, v, hs', h1, h2, h3⟩ => ⟨β', u, v, hs', h1, hq _ _ h2, h3⟩

theorem HCall.mono {P : Program} {f : FuncId} {args : List HV} {hs : HS} {Q Q' : HV → HS → Prop} (h : HCall P f args hs Q) (hq : ∀ v hs, Q v hs → Q' v hs) : HCall P f args hs Q' := by
  rcases h with ⟨h1, h2⟩ | h
  · exact .inl ⟨h1, h2.mono hq⟩
  · exact .inr fun β w us E R => let ⟨w', β', u, v, hs', h1, h2, h3⟩ := h β w us E R; ⟨w', β', u, v, hs', h1, hq _ _ h2, h3⟩

/-- the fence that asks nothing, in a round or in none. -/
def FR (ro : Option Nat) : Fence := { fn := fun _ => True, depth := none, alive := false, round := ro }
theorem calls_FR {P : Program} {ro : Option Nat} {n : Nat} {f : FuncId} {args : Array Value} {w : World} {R : Ending → World → Prop} (h : Calls P f args w R) : CallsIn (FR ro) n P f args w R :=
  (callsIn_wide (n := n)).2 h

/-- what a call of a range's 'yield' comes to. -/
def HYld (P : Program) (h : Nat) (args : List HV) (hs : HS) (Q : HV → HS → Prop) : Prop :=
  ∀ (β : List Ent) (w : World) (us : List Value) (e : Ent), Emb β hs w → RelL β args us → β[h]? = some e →
    ∃ fn T a b, (Instr.yield e.blk us.toArray).run P w = .ok (.round e.blk fn T a b) w ∧
      RoundIn Fence.wide 0 P e.blk fn T a b w fun e' w' => ∃ β' u v hs', e' = .returned u ∧ Q v hs' ∧ Rel β' v u ∧ Step β hs w β' hs' w'

theorem HYld.mono {P : Program} {h : Nat} {args : List HV} {hs : HS} {Q Q' : HV → HS → Prop} (hh : HYld P h args hs Q) (hq : ∀ v hs, Q v hs → Q' v hs) : HYld P h args hs Q' :=
  fun β w us e E R he => let ⟨fn, T, a, b, h1, h2⟩ := hh β w us e E R he
    ⟨fn, T, a, b, h1, h2.mono fun _ _ ⟨β', u, v, hs', q1, q2, q3⟩ => ⟨β', u, v, hs', q1, hq _ _ q2, q3⟩⟩

theorem round_FR {P : Program} {ro : Option Nat} {n l : Nat} {fn : FuncId} {T : Array Value} {a b : Code} {w : World} {R : Ending → World → Prop} (h : RoundIn Fence.wide n P l fn T a b w R) : RoundIn (FR ro) n P l fn T a b w R := h

/-- who is called: a function, or a range's 'yield'. -/
inductive Callee where
  | fn (f : FuncId)
  | yld (h : Nat)

def HCallee (P : Program) (c : Callee) (args : List HV) (hs : HS) (Q : HV → HS → Prop) : Prop :=
  match c with
  | .fn f => HCall P f args hs Q
  | .yld h => HYld P h args hs Q

theorem HCallee.mono {P : Program} {c : Callee} {args : List HV} {hs : HS} {Q Q' : HV → HS → Prop} (hh : HCallee P c args hs Q) (hq : ∀ v hs, Q v hs → Q' v hs) : HCallee P c args hs Q' := by
  cases c with
  | fn f => exact HCall.mono hh hq
  | yld h => exact HYld.mono hh hq

/-- a function value that is called: which function, with what. -/
def calleeOf : HV → List HV → Option (FuncId × List HV)
  | .func (.func f) first captured, args => some (f, first ++ args ++ captured)
  | _, _ => none

def calleeC (v : HV) (args : List HV) : Option (Callee × List HV) :=
  match v with
  | .yld h => some (.yld h, args)
  | v => match calleeOf v args with
    | some (f, xs) => some (.fn f, xs)
    | none => none

def lookupT : List (TypeId × FuncId × Option (Option Nat)) → TypeId → Option (FuncId × Option (Option Nat))
  | [], _ => none
  | (t', f) :: r, t => if Nat.beq t' t then some f else lookupT r t

theorem lookupT_mem : ∀ {l : List (TypeId × FuncId × Option (Option Nat))} {t : TypeId} {f : FuncId × Option (Option Nat)}, lookupT l t = some f → (t, f) ∈ l
  | [], t, f, h => by simp [lookupT] at h
  | (t', f') :: r, t, f, h => by
    unfold lookupT at h
    split at h
    · rename_i ht
      have := Nat.eq_of_beq_eq_true ht
      simp at h; subst h; subst this
      exact List.mem_cons_self ..
    · exact List.mem_cons_of_mem _ (lookupT_mem h)

def recvVal (hs : HS) (k : Option (Option Nat)) (x : HV) : Option HV :=
  match k with
  | none => some x
  | some n => hload n hs x

/-- a method that is called: which function, with what. -/
def calleeI (tab : List (TypeId × FuncId × Option (Option Nat))) (hs : HS) (v : HV) (args : List HV) : Option (Callee × List HV) :=
  match v with
  | .iface t x => match lookupT tab t with
    | some (f, none) => some (.fn f, x :: args)
    | some (f, some n) => match hload n hs x with
      | some y => some (.fn f, y :: args)
      | none => none
    | none => none
  | _ => none

theorem calleeC_fn {v : HV} {args xs : List HV} {f : FuncId} (h : calleeOf v args = some (f, xs)) : calleeC v args = some (.fn f, xs) := by
  unfold calleeC
  split
  · simp [calleeOf] at h
  · rw [h]

section
variable {P : Program} {β : List Ent} {hs : HS} {w : World}

theorem cAct0_cases {o : Op} {ha : HAct} (h : cAct0 P o = some ha) :
    (∃ f args ts hf hargs, o = .call ⟨.value f, args, ts⟩ ∧ ha = .call hf hargs ∧ cX f = some hf ∧ cXs args.toList = some hargs) ∨ (∃ ho, ha = .op ho ∧ cOp P o = some ho) ∨ (∃ x x', o = .next x false ∧ ha = .next x' ∧ cX x = some x') ∨ (∃ r name args ts hr hargs, o = .call ⟨.invoke r name, args, ts⟩ ∧ ha = .inv (dispatch P name) hr hargs ∧ cX r = some hr ∧ cXs args.toList = some hargs) := by
  unfold cAct0 at h
  split at h
  · rename_i f args ts
    split at h
    · rename_i hf hxs h1 h2
      simp at h; subst h
      exact .inl ⟨f, args, ts, hf, hxs, rfl, rfl, h1, h2⟩
    · simp at h
  · rename_i x
    simp only [Option.map_eq_some_iff] at h
    obtain ⟨x', h1, rfl⟩ := h
    exact .inr (.inr (.inl ⟨x, x', rfl, rfl, h1⟩))
  · rename_i r name args ts
    split at h
    · rename_i hr hxs h1 h2
      simp at h; subst h
      exact .inr (.inr (.inr ⟨r, name, args, ts, hr, hxs, rfl, rfl, h1, h2⟩))
    · simp at h
  · simp only [Option.map_eq_some_iff] at h
    obtain ⟨ho, h1, rfl⟩ := h
    exact .inr (.inl ⟨ho, rfl, h1⟩)

theorem cAct_cases {o : Op} {ha : HAct} (h : cAct P o = some ha) :
    (∃ f args ts hf hargs, o = .call ⟨.value f, args, ts⟩ ∧ ha = .call hf hargs ∧ cX f = some hf ∧ cXs args.toList = some hargs) ∨ (∃ ho, ha = .op ho ∧ cOp P o = some ho) ∨ (∃ x x', o = .next x false ∧ ha = .next x' ∧ cX x = some x') ∨ (∃ r name args ts hr hargs, o = .call ⟨.invoke r name, args, ts⟩ ∧ ha = .inv (dispatch P name) hr hargs ∧ cX r = some hr ∧ cXs args.toList = some hargs) ∨ ha = .op .bad := by
  unfold cAct at h
  split at h
  · rename_i a h1
    simp at h; subst h
    rcases cAct0_cases h1 with h | h | h | h
    · exact .inl h
    · exact .inr (.inl h)
    · exact .inr (.inr (.inl h))
    · exact .inr (.inr (.inr (.inl h)))
  · simp at h; exact .inr (.inr (.inr (.inr h.symm)))

/-- an operation's step: either by itself, or by its callee's contract. -/
def HAct.does (P : Program) (act : HAct) (fr : List HV) (hs : HS) (K : HV → HS → Prop) : Prop :=
  match act with
  | .op o => ∃ v hs', hop o fr hs = some (v, hs') ∧ K v hs'
  | .next x => ∃ l, hnextAll hs (x.ev fr) = some l ∧ ∀ p ∈ l, K p.1 p.2
  | .inv tab r args => ∃ g xs, calleeI tab hs (r.ev fr) (args.map (HX.ev fr)) = some (g, xs) ∧ HCallee P g xs hs K
  | .call f args => ∃ g xs, calleeC (f.ev fr) (args.map (HX.ev fr)) = some (g, xs) ∧ HCallee P g xs hs K

theorem callMethod_dispatch (E : Emb β hs w) {name : String} {t : TypeId} {f : FuncId} {k : Option (Option Nat)} (h : lookupT (dispatch P name) t = some (f, k)) {x y : HV} {v : Value} (hx : Rel β x v) (hy : recvVal hs k x = some y) (args : Array Value) :
    ∃ u w' β', (callMethod (.iface t v) name args).run P w = (callFunc f (#[u] ++ args)).run P w' ∧ Rel β' y u ∧ Step β hs w β' hs w' := by
  have hm := lookupT_mem h
  unfold dispatch at hm
  rw [List.mem_filterMap] at hm
  obtain ⟨t', _, hm⟩ := hm
  rw [Option.map_eq_some_iff] at hm
  obtain ⟨f', hd, he⟩ := hm
  simp at he; obtain ⟨rfl, rfl⟩ := he
  unfold dispatchAt at hd
  split at hd
  · rename_i i hi
    split at hd
    · rename_i m hfm
      split at hd
      · rename_i hp
        split at hd
        · rename_i f'' ptr hf
          rw [Option.map_eq_some_iff] at hd
          obtain ⟨k', hr, he⟩ := hd
          simp at he; obtain ⟨rfl, rfl⟩ := he
          have hpl : m.path.toList = [] := by simpa using hp
          have hp' : m.path = #[] := by simpa using hp
          obtain ⟨fu, hfu⟩ : ∃ j, P.types.size + Made.depth = j + 1 := ⟨P.types.size + 99, rfl⟩
          unfold recvMode at hr
          split at hr
          · rename_i el hu
            split at hr
            · rename_i hptr
              subst hptr
              simp at hr; subst hr
              simp [recvVal] at hy; subst hy
              have hmeth : (method (P.types.size + Made.depth) t' v name).run P w = .ok (f'', v) w := by
                rw [hfu]
                simp [method, run_typeInfo w hi, hfm, hpl, follow, hf, receiverAt, run_underlying hu, Place.get]
              exact ⟨v, w, β, by simp [callMethod, hmeth], hx, Step.refl E⟩
            · rename_i hptr
              have hptr : ptr = false := by simpa using hptr
              subst hptr
              rw [Option.map_eq_some_iff] at hr
              obtain ⟨n, hag, rfl⟩ := hr
              simp only [recvVal] at hy
              have hptrv : ∃ a, v = .pointer (some a) := by
                unfold hload at hy
                split at hy
                · simp only [Rel] at hx
                  obtain ⟨e, _, rfl⟩ := hx
                  exact ⟨_, rfl⟩
                · simp at hy
              obtain ⟨a, rfl⟩ := hptrv
              obtain ⟨u, w', β', hl, hyu, S⟩ := hload_sound E hag hx hy
              have hl' : (loadVar el a).run P w = .ok u w' := by simpa [Instr.loadAt, Instr.sureAddr] using hl
              have hmeth : (method (P.types.size + Made.depth) t' (.pointer (some a)) name).run P w = .ok (f'', u) w' := by
                rw [hfu]
                have hchk : ∀ nm : String, (Builtin.ssaWrapNilChk_ #[t'] t' #[.pointer (some a), strVal "", strVal nm]).run P w = .ok (.pointer (some a)) w := fun _ => rfl
                simp [method, run_typeInfo w hi, hfm, hpl, follow, hf, receiverAt, run_underlying hu, Place.get, hp', follow, hchk, asAddr, hl']
              exact ⟨u, w', β', by simp [callMethod, hmeth], hyu, S⟩
          · rename_i d hne hu
            split at hr
            · simp at hr
            · rename_i hptr
              have hptr : ptr = false := by simpa using hptr
              subst hptr
              simp at hr; subst hr
              simp [recvVal] at hy; subst hy
              have hmeth : (method (P.types.size + Made.depth) t' v name).run P w = .ok (f'', v) w := by
                rw [hfu]
                cases d <;> first | (exact absurd rfl (hne _)) | simp [method, run_typeInfo w hi, hfm, hpl, follow, hf, receiverAt, run_underlying hu, Place.get]
              exact ⟨v, w, β, by simp [callMethod, hmeth], hx, Step.refl E⟩
          · simp at hr
        · simp at hd
      · simp at hd
    · simp at hd
  · simp at hd

theorem does_sound (E : Emb β hs w) {o : Oper} {act : HAct} {fr : List HV} {a : Act} (F : FrRel ds β fr a) (hc : cAct P o.op = some act) {ro : Option Nat} {K : HV → HS → Prop} (h : act.does P fr hs K) {next : Act → World → Prop} {Q : Exit → Act → World → Prop}
    (hn : ∀ v hs' β' w' a', K v hs' → Step β hs w β' hs' w' → FrRel ds β' (put fr o.dst v) a' → next a' w') : o.wpIn (FR ro) 0 P a w next Q := by
  rcases cAct_cases hc with ⟨f, args, ts, hf, hargs, ho, rfl, h1, h2⟩ | ⟨ho, rfl, h1⟩ | ⟨x, x', ho, rfl, h1⟩ | ⟨r, name, args, ts, hr, hargs, ho, rfl, h1, h2⟩ | rfl
  · obtain ⟨dst, op, type, pos, after, guard⟩ := o
    simp only at ho hn; subst ho
    obtain ⟨g, xs, hg, hcall⟩ := h
    have hfr := cX_rel F h1
    have har := cXs_rel F h2
    unfold calleeC at hg
    split at hg
    · rename_i hh hx
      simp at hg; obtain ⟨rfl, rfl⟩ := hg
      rw [hx] at hfr
      simp only [Rel] at hfr
      obtain ⟨e, he, hv⟩ := hfr
      obtain ⟨fn, T, ca, cb, hy, hR⟩ := hcall β w _ e E har he
      have hexec : execOp a.eval ⟨dst, .call ⟨.value f, args, ts⟩, type, pos, after, guard⟩ = Instr.yield e.blk (args.toList.map a.eval).toArray := by
        simp only [execOp, resolve, hv, Deferred.ofValue, pure_bind, invoke]
        congr 1
        apply Array.ext'
        simp
      refine ⟨fun _ _ => trivial, ?_⟩
      rw [Oper.semAt_eq _ _ _ (fun c hc => by cases hc), hexec, hy]
      refine ⟨fun h => by simp [FR] at h, round_FR (hR.mono ?_)⟩
      rintro e' w' ⟨β', u, v, hs', rfl, k1, k2, k3⟩
      exact hn v hs' β' w' _ k1 k3 ((F.mono k3.ext).put dst k2)
    split at hg
    · rename_i gx xx hco
      simp at hg; obtain ⟨rfl, rfl⟩ := hg
      simp only [HCallee] at hcall
      unfold calleeOf at hco
      split at hco
      rotate_left
      · simp at hco
      rename_i g' first captured hx
      simp at hco; obtain ⟨rfl, rfl⟩ := hco
      rw [hx] at hfr
      simp only [Rel] at hfr
      obtain ⟨us, ws, hv, q1, q2, q3⟩ := hfr
      have hrl : RelL β (first ++ (hargs.map (HX.ev fr)) ++ captured) (us.toList ++ args.toList.map a.eval ++ ws.toList) := (q1.append har).append q2
      have hexec : execOp a.eval ⟨dst, .call ⟨.value f, args, ts⟩, type, pos, after, guard⟩ = callFunc g' (us.toList ++ args.toList.map a.eval ++ ws.toList).toArray := by
        simp only [execOp, resolve, hv, Deferred.ofValue, pure_bind, invoke]
        congr 1
        apply Array.ext'
        simp
      have hrl : RelL β (first ++ ((hargs.map (HX.ev fr)) ++ captured)) (us.toList ++ args.toList.map a.eval ++ ws.toList) := by rw [← List.append_assoc]; exact hrl
      refine ⟨fun _ _ => trivial, ?_⟩
      rw [Oper.semAt_eq _ _ _ (fun c hc => by cases hc), hexec]
      rcases hcall with ⟨⟨fn, e1, e2, e3⟩, hC⟩ | hX
      · have hrun : (callFunc g' (us.toList ++ args.toList.map a.eval ++ ws.toList).toArray).run P w = .ok (.enter g' (us.toList ++ args.toList.map a.eval ++ ws.toList).toArray) w := by
          have hb : fn.body ≠ none := by cases hbd : fn.body <;> simp_all
          have e2' : fn.name ≠ "runtime.NumGoroutine" := by simpa using e2
          simp [callFunc, e1, e2', hb]
        rw [hrun]
        refine ⟨fun h => by simp [FR] at h, calls_FR ((hC β w _ E hrl).mono ?_)⟩
        rintro e w' ⟨β', u, v, hs', rfl, k1, k2, k3⟩
        exact hn v hs' β' w' _ k1 k3 ((F.mono k3.ext).put dst k2)
      · obtain ⟨w', β', u, v, hs', k0, k1, k2, k3⟩ := hX β w _ E hrl
        rw [k0]
        simp only [Oper.uponIn]
        exact hn v hs' β' w' _ k1 k3 ((F.mono k3.ext).put dst k2)
    · simp at hg
  · obtain ⟨v, hs', h2, h3⟩ := h
    obtain ⟨n, w', β', k1, k2, k3⟩ := hop_sound E F h1 h2
    refine ⟨fun _ _ => trivial, ?_⟩
    rw [Oper.semAt_eq _ _ _ (fun c hc => by rw [hc] at h1; simp [cOp] at h1), k1]
    rcases k2 with ⟨u, rfl, k4⟩ | ⟨rfl, rfl⟩
    · exact hn v hs' β' w' _ h3 k3 ((F.mono k3.ext).put o.dst k4)
    · exact hn .undef hs' β' w' _ h3 k3 ((F.mono k3.ext).put o.dst (v := .undef) (u := undef) trivial)
  · obtain ⟨l, h2, h3⟩ := h
    obtain ⟨dst, op, type, pos, after, guard⟩ := o
    simp only at ho hn; subst ho
    obtain ⟨v, hs', hm, u, w', β', k1, k2, k3⟩ := hnextAll_sound (P := P) (ty := type) E (cX_rel F h1) h2
    have hexec : execOp a.eval ⟨dst, .next x false, type, pos, after, guard⟩ = (do pure (.value (← Instr.next (a.eval x) false type))) := by simp only [execOp]
    refine ⟨fun _ _ => trivial, ?_⟩
    rw [Oper.semAt_eq _ _ _ (fun c hc => by cases hc), hexec]
    simp only [Sem.run_bind, k1, Result.andThen]
    exact hn v hs' β' w' _ (h3 _ hm) k3 ((F.mono k3.ext).put dst k2)
  · obtain ⟨dst, op, type, pos, after, guard⟩ := o
    simp only at ho hn; subst ho
    obtain ⟨g, xs, hg, hcall⟩ := h
    have hfr := cX_rel F h1
    have har := cXs_rel F h2
    unfold calleeI at hg
    split at hg
    · rename_i t x hx
      rw [hx] at hfr
      simp only [Rel] at hfr
      obtain ⟨u0, hv, q1⟩ := hfr
      have key : ∃ f k y, lookupT (dispatch P name) t = some (f, k) ∧ recvVal hs k x = some y ∧ g = .fn f ∧ xs = y :: hargs.map (HX.ev fr) := by
        split at hg
        · rename_i f hl
          simp at hg; obtain ⟨rfl, rfl⟩ := hg
          exact ⟨f, none, x, hl, rfl, rfl, rfl⟩
        · rename_i f n hl
          split at hg
          · rename_i y hy
            simp at hg; obtain ⟨rfl, rfl⟩ := hg
            exact ⟨f, some n, y, hl, hy, rfl, rfl⟩
          · simp at hg
        · simp at hg
      obtain ⟨f, k, y, hl, hy, rfl, rfl⟩ := key
      obtain ⟨u1, w1, β1, hcm, q2, S1⟩ := callMethod_dispatch E hl q1 hy (args.map a.eval)
      have hexec : (execOp a.eval ⟨dst, .call ⟨.invoke r name, args, ts⟩, type, pos, after, guard⟩).run P w = (callFunc f (u1 :: args.toList.map a.eval).toArray).run P w1 := by
        simp only [execOp, resolve, hv, pure_bind, invoke]
        have hz : (#[Value.iface t u0] ++ args.map a.eval)[0]? = some (.iface t u0) := by
          rw [Array.getElem?_append_left (by simp)]; rfl
        simp only [hz]
        have hex : (#[Value.iface t u0] ++ args.map a.eval).extract 1 (#[Value.iface t u0] ++ args.map a.eval).size = args.map a.eval := by
          apply Array.ext'
          simp [List.take_of_length_le]
        rw [hex, hcm]
        congr 2
        apply Array.ext'
        simp
      have hrl : RelL β1 (y :: hargs.map (HX.ev fr)) (u1 :: args.toList.map a.eval) := ⟨u1, _, rfl, q2, har.mono S1.ext _ _⟩
      refine ⟨fun _ _ => trivial, ?_⟩
      rw [Oper.semAt_eq _ _ _ (fun c hc => by cases hc), hexec]
      rcases hcall with ⟨⟨fn, e1, e2, e3⟩, hC⟩ | hX
      · have hrun : (callFunc f (u1 :: args.toList.map a.eval).toArray).run P w1 = .ok (.enter f (u1 :: args.toList.map a.eval).toArray) w1 := by
          have hb : fn.body ≠ none := by cases hbd : fn.body <;> simp_all
          have e2' : fn.name ≠ "runtime.NumGoroutine" := by simpa using e2
          simp [callFunc, e1, e2', hb]
        rw [hrun]
        refine ⟨fun h => by simp [FR] at h, calls_FR ((hC β1 w1 _ S1.emb hrl).mono ?_)⟩
        rintro e w' ⟨β', u, v, hs', rfl, k1, k2, k3⟩
        exact hn v hs' β' w' _ k1 (S1.trans k3) ((F.mono (S1.ext.trans k3.ext)).put dst k2)
      · obtain ⟨w', β', u, v, hs', k0, k1, k2, k3⟩ := hX β1 w1 _ S1.emb hrl
        rw [k0]
        simp only [Oper.uponIn]
        exact hn v hs' β' w' _ k1 (S1.trans k3) ((F.mono (S1.ext.trans k3.ext)).put dst k2)
    · simp at hg
  · obtain ⟨v, hs', h2, h3⟩ := h
    simp [hop] at h2

theorem rel_tup0 {β : List Ent} : Rel β (.tup []) undef := ⟨#[], rfl, rfl⟩

/-- is an operation wanted? -/
def wantH (g : Option (Nat × Bool)) (fr : List HV) : Option Bool :=
  match g with
  | none => some true
  | some (t, want) => match fr[t]? with
    | some (.bool b) => some (b == want)
    | some (.tup []) => some false
    | _ => none

theorem wantH_sound {ops : Array Oper} {o : Oper} {fr : List HV} {a : Act} (F : FrRel ds β fr a) {g : Option (Nat × Bool)} (hc : cGuard ops o.guard = some g) {b : Bool} (h : wantH g fr = some b) : Region.wanted o (yielded ops a.tmps) = b := by
  unfold cGuard at hc
  unfold Region.wanted
  split at hc
  · rename_i hg
    simp at hc; subst hc
    simp [wantH] at h; subst h
    rw [hg]
  · rename_i j want hg
    split at hc
    · rename_i t ht
      simp at hc; subst hc
      simp only [wantH] at h
      split at h
      · rename_i b' hb
        simp at h; subst h
        rw [hg]
        obtain ⟨u, h1, h2⟩ := F.get t _ hb
        simp only [Rel] at h2; subst h2
        have : yielded ops a.tmps j = some b' := by simp [yielded, ht, h1]
        simp only [this]
        cases b' <;> cases want <;> rfl
      · rename_i hb
        simp at h; subst h
        rw [hg]
        obtain ⟨u, h1, h2⟩ := F.get t _ hb
        simp only [Rel, RelL] at h2
        obtain ⟨us, rfl, _⟩ := h2
        have : yielded ops a.tmps j = none := by simp [yielded, ht, h1]
        simp only [this]
        rfl
      · simp at h
    · simp at hc

/-- a list of operations. -/
def HL (P : Program) : List HOper → List HV → HS → (List HV → HS → Prop) → Prop
  | [], fr, hs, K => K fr hs
  | o :: r, fr, hs, K =>
    ∃ b, wantH o.guard fr = some b ∧
      (if b then o.act.does P fr hs fun v hs' => HL P r (put fr o.dst v) hs' K else HL P r (put fr o.dst (.tup [])) hs K)

theorem HL_sound {ro : Option Nat} {ops : Array Oper} {K : List HV → HS → Prop} {Q : Exit → Act → World → Prop} : ∀ {l : List Oper} {hos : List HOper} {fr : List HV} {hs : HS} {β : List Ent} {w : World} {a : Act}, cOpers P ops l = some hos → Emb β hs w → FrRel ds β fr a → HL P hos fr hs K →
    (∀ β' w' a' fr' hs', K fr' hs' → Step β hs w β' hs' w' → FrRel ds β' fr' a' → Q .normal a' w') → wpListIn (FR ro) 0 P ops Q l a w
  | [], hos, fr, hs, β, w, a, hc, E, F, h, hk => by
    simp [cOpers] at hc; subst hc
    exact hk β w a fr hs h (Step.refl E) F
  | o :: l, hos, fr, hs, β, w, a, hc, E, F, h, hk => by
    unfold cOpers at hc
    split at hc
    · rename_i ho hr h1 h2
      simp at hc; subst hc
      unfold cOper at h1
      split at h1
      · rename_i act g h3 h4
        simp at h1; subst h1
        obtain ⟨b, hw, hb⟩ := h
        have hwt := wantH_sound F h4 hw
        simp only [wpListIn, hwt]
        cases b with
        | true =>
          simp only [if_true] at hb ⊢
          refine does_sound E F h3 hb ?_
          intro v hs' β' w' a' k1 k2 k3
          exact HL_sound h2 k2.emb k3 k1 fun β2 w2 a2 fr2 hs2 q1 q2 q3 => hk β2 w2 a2 fr2 hs2 q1 (k2.trans q2) q3
        | false =>
          simp only [Bool.false_eq_true, if_false] at hb ⊢
          exact ⟨fun _ _ => trivial, HL_sound h2 E (F.put o.dst (v := .tup []) (u := undef) rel_tup0) hb hk⟩
      · simp at h1
    · simp at hc

/-! ### code -/
/-- marks among an activation's deferred calls: of ranges over functions. -/
def mkM (D : Nat) : Deferred := { target := .collected D, args := #[] }

/-- what was added to the marks, newest first: blocks of their own, empty. -/
structure Marks (w : World) (ds ds' : List Deferred) (β' : List Ent) (hs' : HS) (w' : World) (ms : List Nat) : Prop where
  eq : ds' = ms.map mkM ++ ds
  nodup : ms.Nodup
  at_ : ∀ D ∈ ms, w.heap.size ≤ D ∧ w'.heap[D]? = some (.deferred (some [])) ∧ ¬ Own β' hs' D

theorem Marks.refl {w w' : World} {β' : List Ent} {hs' : HS} : Marks w ds ds β' hs' w' [] := ⟨rfl, by simp, fun D h => by simp at h⟩

theorem Marks.trans {β1 β2 : List Ent} {hs1 hs2 : HS} {w w1 w2 : World} {ds1 ds2 : List Deferred} {ms ms' : List Nat} (hw : w.heap.size ≤ w1.heap.size) (M : Marks w ds ds1 β1 hs1 w1 ms) (S : Step β1 hs1 w1 β2 hs2 w2) (M' : Marks w1 ds1 ds2 β2 hs2 w2 ms') : Marks w ds ds2 β2 hs2 w2 (ms' ++ ms) := by
  refine ⟨by rw [M'.eq, M.eq]; simp, ?_, ?_⟩
  · rw [List.nodup_append]
    refine ⟨M'.nodup, M.nodup, fun a ha b hb e => ?_⟩
    subst e
    have h1 := (M'.at_ a ha).1
    have h2 := lt_of_geta (M.at_ a hb).2.1
    omega
  · intro D hD
    rcases List.mem_append.1 hD with h | h
    · obtain ⟨h1, h2, h3⟩ := M'.at_ D h
      exact ⟨Nat.le_trans hw h1, h2, h3⟩
    · obtain ⟨h1, h2, h3⟩ := M.at_ D h
      have hlt := lt_of_geta h2
      exact ⟨h1, by rw [S.same D hlt h3]; exact h2, fun h => h3 (S.own D hlt h)⟩

def HPost (β : List Ent) (hs : HS) (w : World) (ds : List Deferred) (Q : HExit → List HV → HS → Prop) : Exit → Act → World → Prop :=
  fun e a w' => ∃ he β' fr' hs', e = he.to ∧ Q he fr' hs' ∧ (∃ ds' ms, FrRel ds' β' fr' a ∧ Marks w ds ds' β' hs' w' ms) ∧ Step β hs w β' hs' w'

/-- the round that a handle names. -/
def RoRel (β : List Ent) : Option Nat → Option Nat → Prop
  | none, rb => rb = none
  | some h, rb => ∃ e, β[h]? = some e ∧ rb = some e.blk
theorem RoRel.ext {β β' : List Ent} {ro rb : Option Nat} (h : RoRel β ro rb) (x : Ext β β') : RoRel β' ro rb := by
  cases ro with
  | none => exact h
  | some i =>
    obtain ⟨e, h1, h2⟩ := h
    exact ⟨e, x.get h1, h2⟩

/-- what turned code comes to; in a round, or not. -/
def HWr (P : Program) (ro : Option Nat) (hc : HCode) (fr : List HV) (hs : HS) (Q : HExit → List HV → HS → Prop) : Prop :=
  ∀ (kills : List (Nat × List Nat)) (c : Code), cCode P kills c = some hc → ∀ (ds : List Deferred) (β : List Ent) (a : Act) (w : World) (rb : Option Nat), RoRel β ro rb → Emb β hs w → FrRel ds β fr a → c.wpIn (FR rb) 0 P (HPost β hs w ds Q) a w
abbrev HW (P : Program) (hc : HCode) (fr : List HV) (hs : HS) (Q : HExit → List HV → HS → Prop) : Prop := HWr P none hc fr hs Q

theorem HWr.mono {ro : Option Nat} {hc : HCode} {fr : List HV} {hs : HS} {Q Q' : HExit → List HV → HS → Prop} (h : HWr P ro hc fr hs Q) (hq : ∀ e fr hs, Q e fr hs → Q' e fr hs) : HWr P ro hc fr hs Q' :=
  fun k c hcc ds β a w rb hr0 E F => Code.wpIn_mono (fun _ _ _ ⟨he, β', fr', hs', h1, h2, h3⟩ => ⟨he, β', fr', hs', h1, hq _ _ _ h2, h3⟩) (h k c hcc ds β a w rb hr0 E F)

def HThen (next : List HV → HS → Prop) (Q : HExit → List HV → HS → Prop) : HExit → List HV → HS → Prop
  | .normal, fr, hs => next fr hs
  | e, fr, hs => Q e fr hs

theorem HW.skip {ro : Option Nat} {fr : List HV} {hs : HS} {Q : HExit → List HV → HS → Prop} (h : Q .normal fr hs) : HWr P ro .skip fr hs Q := by
  intro k c hc ds β a w rb hr0 E F
  cases c <;> simp only [cCode] at hc <;> (try (simp at hc; done)) <;> (try (split at hc <;> simp at hc; done)) <;> (try (split at hc <;> (try split at hc) <;> (try split at hc) <;> (try split at hc) <;> simp at hc; done))
  exact wpIn_skip ⟨.normal, β, fr, hs, rfl, h, ⟨_, _, F, .refl⟩, Step.refl E⟩

theorem HW.ret {ro : Option Nat} {fr : List HV} {hs : HS} {Q : HExit → List HV → HS → Prop} (h : Q .ret fr hs) : HWr P ro .ret fr hs Q := by
  intro k c hc ds β a w rb hr0 E F
  cases c <;> simp only [cCode] at hc <;> (try (simp at hc; done)) <;> (try (split at hc <;> simp at hc; done)) <;> (try (split at hc <;> (try split at hc) <;> (try split at hc) <;> (try split at hc) <;> simp at hc; done))
  exact wpIn_ret ⟨.ret, β, fr, hs, rfl, h, ⟨_, _, F, .refl⟩, Step.refl E⟩

theorem HW.exit {ro : Option Nat} {id : Nat} {fr : List HV} {hs : HS} {Q : HExit → List HV → HS → Prop} (h : Q (.exit id) fr hs) : HWr P ro (.exit id) fr hs Q := by
  intro k c hc ds β a w rb hr0 E F
  cases c <;> simp only [cCode] at hc <;> (try (simp at hc; done)) <;> (try (split at hc <;> simp at hc; done)) <;> (try (split at hc <;> (try split at hc) <;> (try split at hc) <;> (try split at hc) <;> simp at hc; done))
  simp at hc; subst hc
  exact wpIn_exit ⟨.exit _, β, fr, hs, rfl, h, ⟨_, _, F, .refl⟩, Step.refl E⟩

theorem HW.seq {ro : Option Nat} {x y : HCode} {fr : List HV} {hs : HS} {Q : HExit → List HV → HS → Prop} (h : HWr P ro x fr hs (HThen (fun fr hs => HWr P ro y fr hs Q) Q)) : HWr P ro (.seq x y) fr hs Q := by
  intro k c hc ds β a w rb hr0 E F
  cases c <;> simp only [cCode] at hc <;> (try (simp at hc; done)) <;> (try (split at hc <;> (try split at hc) <;> (try split at hc) <;> (try split at hc) <;> simp at hc; done))
  rename_i c1 c2
  split at hc
  · rename_i x' y' h1 h2
    simp at hc; obtain ⟨rfl, rfl⟩ := hc
    refine wpIn_seq (Code.wpIn_mono ?_ (h k c1 h1 ds β a w rb hr0 E F))
    rintro e a1 w1 ⟨he, β1, fr1, hs1, rfl, q, F1, S1⟩
    cases he with
    | normal =>
      obtain ⟨ds1, ms1, F1, M1⟩ := F1
      refine Code.wpIn_mono ?_ (q k c2 h2 ds1 β1 a1 w1 rb (hr0.ext S1.ext) S1.emb F1)
      rintro e a2 w2 ⟨he, β2, fr2, hs2, rfl, q2, ⟨ds2, ms2, F2, M2⟩, S2⟩
      exact ⟨he, β2, fr2, hs2, rfl, q2, ⟨ds2, _, F2, M1.trans S1.size S2 M2⟩, S1.trans S2⟩
    | exit id => exact ⟨.exit id, β1, fr1, hs1, rfl, q, F1, S1⟩
    | ret => exact ⟨.ret, β1, fr1, hs1, rfl, q, F1, S1⟩
  · simp at hc

theorem HW.cond {ro : Option Nat} {c : HX} {x y : HCode} {fr : List HV} {hs : HS} {Q : HExit → List HV → HS → Prop} {t : Bool} (ht : c.ev fr = .bool t) (h : HWr P ro (if t then x else y) fr hs Q) : HWr P ro (.cond c x y) fr hs Q := by
  intro k c' hc ds β a w rb hr0 E F
  cases c' <;> simp only [cCode] at hc <;> (try (simp at hc; done)) <;> (try (split at hc <;> (try split at hc) <;> (try split at hc) <;> (try split at hc) <;> simp at hc; done))
  rename_i o c1 c2
  split at hc
  · rename_i x0 x' y' h0 h1 h2
    simp at hc; obtain ⟨rfl, rfl, rfl⟩ := hc
    have hr := cX_rel F h0
    rw [ht] at hr
    simp only [Rel] at hr
    refine wpIn_cond hr ?_
    cases t
    · exact h k c2 h2 ds β a w rb hr0 E F
    · exact h k c1 h1 ds β a w rb hr0 E F
  all_goals simp at hc

def HBlock (id : Nat) (Q : HExit → List HV → HS → Prop) : HExit → List HV → HS → Prop
  | .exit id', fr, hs => if id' = id then Q .normal fr hs else Q (.exit id') fr hs
  | e, fr, hs => Q e fr hs

theorem HW.block {ro : Option Nat} {id : Nat} {x : HCode} {fr : List HV} {hs : HS} {Q : HExit → List HV → HS → Prop} (h : HWr P ro x fr hs (HBlock id Q)) : HWr P ro (.block id x) fr hs Q := by
  intro k c' hc ds β a w rb hr0 E F
  cases c' <;> simp only [cCode] at hc <;> (try (simp at hc; done)) <;> (try (split at hc <;> (try split at hc) <;> (try split at hc) <;> (try split at hc) <;> simp at hc; done))
  rename_i id' c1
  simp only [Option.map_eq_some_iff] at hc
  obtain ⟨x', h1, h2⟩ := hc
  simp at h2; obtain ⟨rfl, rfl⟩ := h2
  refine wpIn_block (Code.wpIn_mono ?_ (h k c1 h1 ds β a w rb hr0 E F))
  rintro e a1 w1 ⟨he, β1, fr1, hs1, rfl, q, F1, S1⟩
  cases he with
  | normal => exact ⟨.normal, β1, fr1, hs1, rfl, q, F1, S1⟩
  | ret => exact ⟨.ret, β1, fr1, hs1, rfl, q, F1, S1⟩
  | exit id =>
    simp only [HBlock] at q
    simp only [HExit.to, Exit.inBlock]
    split at q
    · rename_i hid
      rw [if_pos hid]
      exact ⟨.normal, β1, fr1, hs1, rfl, q, F1, S1⟩
    · rename_i hid
      rw [if_neg hid]
      exact ⟨.exit id, β1, fr1, hs1, rfl, q, F1, S1⟩

theorem cCode_loop {kills : List (Nat × List Nat)} {c : Code} {x : HCode} (hc : cCode P kills c = some (.loop x)) : ∃ c1, c = .loop c1 ∧ cCode P kills c1 = some x := by
  cases c <;> simp only [cCode] at hc <;> (try (simp at hc; done)) <;> (try (split at hc <;> (try split at hc) <;> (try split at hc) <;> (try split at hc) <;> simp at hc; done))
  rename_i c1
  simp only [Option.map_eq_some_iff] at hc
  obtain ⟨x', h1, h2⟩ := hc
  simp at h2; subst h2
  exact ⟨c1, rfl, h1⟩

theorem wpIn_scope_straight {F : Fence} {n : Nat} {c : Code} {Q : Exit → Act → World → Prop} {a : Act} {w : World} (h : c.wpIn F n P (Exit.noGoto Q) a w) : (Code.scope c).wpIn F n P Q a w := by
  intro b k cs hro hb hr
  have s1 : step P (lone (b.atR a (.code (.scope c) :: k)) cs w) = .next (lone (b.atR a (.code c :: .inScope c :: k)) cs w) :=
    step_lone_go (by simp [stepG, stepG.exec, Frame.atR])
  obtain ⟨e, a₁, w₁, hq, harr⟩ := h b (.inScope c :: k) cs hro hb hr
  have st := StepsIn.one (fenced_calm (P := P) (F := F) (fr := b.atR a (.code (.scope c) :: k)) (cs := cs) (w := w) hb hr rfl) s1
  cases e with
  | normal =>
    have s2 : step P (lone (b.atR a₁ (.inScope c :: k)) cs w₁) = .next (lone (b.atR a₁ k) cs w₁) :=
      step_lone_go (by simp [stepG, stepG.exec, Frame.atR])
    exact ⟨.normal, a₁, w₁, hq, StepsIn.trans st (StepsIn.trans harr (.one (fenced_calm (fr := b.atR a₁ (.inScope c :: k)) hb hr rfl) s2))⟩
  | exit id => exact ⟨.exit id, a₁, w₁, hq, ⟨fun k' hk => StepsIn.trans st (harr.1 k' (by simp [exitTo, hk])), fun hro' hk => by
      obtain ⟨k1, h1, h2⟩ := harr.2 hro' (by simp [exitTo, hk])
      exact ⟨k1, h1, StepsIn.trans st h2⟩⟩⟩
  | goto l => exact hq.elim
  | ret => exact ⟨_, a₁, w₁, hq, .of_steps st harr⟩
  | panic ch => exact ⟨_, a₁, w₁, hq, .of_steps st harr⟩
  | outgrown => exact ⟨_, a₁, w₁, hq, .of_steps st harr⟩

theorem HW.scope {ro : Option Nat} {x : HCode} {fr : List HV} {hs : HS} {Q : HExit → List HV → HS → Prop} (h : HWr P ro x fr hs Q) : HWr P ro (.scope x) fr hs Q := by
  intro k c' hc ds β a w rb hr0 E F
  cases c' <;> simp only [cCode] at hc <;> (try (simp at hc; done)) <;> (try (split at hc <;> (try split at hc) <;> (try split at hc) <;> (try split at hc) <;> simp at hc; done))
  rename_i c1
  simp only [Option.map_eq_some_iff] at hc
  obtain ⟨x', h1, h2⟩ := hc
  simp at h2; subst h2
  refine wpIn_scope_straight (Code.wpIn_mono ?_ (h k c1 h1 ds β a w rb hr0 E F))
  rintro e a1 w1 ⟨he, β1, fr1, hs1, rfl, q, F1, S1⟩
  cases he <;> exact ⟨_, β1, fr1, hs1, rfl, q, F1, S1⟩

theorem HW.lab {ro : Option Nat} {fr : List HV} {hs : HS} {Q : HExit → List HV → HS → Prop} (h : Q .normal fr hs) : HWr P ro .lab fr hs Q := by
  intro k c hc ds β a w rb hr0 E F
  cases c <;> simp only [cCode] at hc <;> (try (simp at hc; done)) <;> (try (split at hc <;> simp at hc; done)) <;> (try (split at hc <;> (try split at hc) <;> (try split at hc) <;> (try split at hc) <;> simp at hc; done))
  exact wpIn_label ⟨.normal, β, fr, hs, rfl, h, ⟨_, _, F, .refl⟩, Step.refl E⟩

/-- a loop: an invariant with a number that goes down. -/
theorem HW.loop {ro : Option Nat} {x : HCode} {fr : List HV} {hs : HS} {Q : HExit → List HV → HS → Prop} (I : Nat → List HV → HS → Prop) (n : Nat) (h0 : I n fr hs)
    (round : ∀ n fr hs, I n fr hs → HWr P ro x fr hs (HThen (fun fr' hs' => ∃ m, m < n ∧ I m fr' hs') Q)) : HWr P ro (.loop x) fr hs Q := by
  intro k c' hc ds β a w rb hr0 E F
  obtain ⟨c1, rfl, h1⟩ := cCode_loop hc
  refine wpIn_loop_ghost (fun n a w' => ∃ β' fr' hs', I n fr' hs' ∧ (∃ ds' ms, FrRel ds' β' fr' a ∧ Marks w ds ds' β' hs' w' ms) ∧ Step β hs w β' hs' w') n ⟨β, fr, hs, h0, ⟨_, _, F, .refl⟩, Step.refl E⟩ ?_
  rintro n a1 w1 ⟨β1, fr1, hs1, hI, ⟨ds1, ms1, F1, M1⟩, S1⟩
  refine Code.wpIn_mono ?_ (round n fr1 hs1 hI k c1 h1 ds1 β1 a1 w1 rb (hr0.ext S1.ext) S1.emb F1)
  rintro e a2 w2 ⟨he, β2, fr2, hs2, rfl, q, ⟨ds2, ms2, F2, M2⟩, S2⟩
  have M := M1.trans S1.size S2 M2
  cases he with
  | normal =>
    obtain ⟨m, hlt, hI2⟩ := q
    exact ⟨m, hlt, β2, fr2, hs2, hI2, ⟨_, _, F2, M⟩, S1.trans S2⟩
  | exit id => exact ⟨.exit id, β2, fr2, hs2, rfl, q, ⟨_, _, F2, M⟩, S1.trans S2⟩
  | ret => exact ⟨.ret, β2, fr2, hs2, rfl, q, ⟨_, _, F2, M⟩, S1.trans S2⟩

theorem HW.region {ro : Option Nat} {ops : List HOper} {kill : List Nat} {fr : List HV} {hs : HS} {Q : HExit → List HV → HS → Prop} (h : HL P ops fr hs fun fr hs => Q .normal (killFr kill fr) hs) : HWr P ro (.region ops kill) fr hs Q := by
  intro k c' hc ds β a w rb hr0 E F
  cases c' <;> simp only [cCode] at hc <;> (try (simp at hc; done))
  case region id rops draw =>
    split at hc
    · rename_i hos h1
      split at hc
      · split at hc <;> (try split at hc) <;> simp at hc
      · rename_i hd
        simp at hc; obtain ⟨rfl, rfl⟩ := hc
        have hd' : draw = false := by simpa using hd
        subst hd'
        refine wpIn_region_list ?_
        exact HL_sound h1 E F h fun β' w' a' fr' hs' q S F' => ⟨.normal, β', _, hs', rfl, q, ⟨_, _, F'.kill _, .refl⟩, S⟩
    · simp at hc
  all_goals (split at hc <;> (try split at hc) <;> (try split at hc) <;> (try split at hc) <;> simp at hc)

end
end Go.HL
