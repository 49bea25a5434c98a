/-
  HL: is it the same; interfaces; strings gone through; the rest.
-/
import Derived.Test.YteedmbmgemiheaaDoorKYHLOps5
import Derived.Laws.StructEq
import Derived.ChangeKeysEq
namespace Go.HL
open Go

/-- how two values of a type are compared. -/
inductive EK where
  | bool | int | str | ptr | slice | map | func | iface
  /-- pointers to what has a size. -/
  | ptrN
  | struct (fs : List (Nat × Option Nat × EK))
  deriving Inhabited

mutual
def eqv : EK → HV → HV → Option Bool
  | .bool, .bool a, .bool b => some (a == b)
  | .int, .int j a, .int k b => if j = k then some (a == b) else none
  | .str, .str a, .str b => some (a == b)
  | .ptr, .nilPtr, .nilPtr => some true
  | .ptr, .nilPtr, .ptr _ _ => some false
  | .ptr, .ptr _ _, .nilPtr => some false
  | .slice, .nilSlice, .nilSlice => some true
  | .slice, .nilSlice, .slice _ _ _ _ => some false
  | .slice, .slice _ _ _ _, .nilSlice => some false
  | .map, .nilMap, .nilMap => some true
  | .map, .nilMap, .map _ => some false
  | .map, .map _, .nilMap => some false
  | .func, .nilFunc, .nilFunc => some true
  | .func, .nilFunc, .func _ _ _ => some false
  | .func, .func _ _ _, .nilFunc => some false
  | .iface, .nilIface, .iface _ _ => some false
  | .iface, .iface _ _, .nilIface => some false
  | .struct fs, .agg xs, .agg ys => eqvL fs xs ys
  | .ptrN, .nilPtr, .nilPtr => some true
  | .ptrN, .nilPtr, .ptr _ _ => some false
  | .ptrN, .ptr _ _, .nilPtr => some false
  | .ptrN, .ptr a b, .ptr c d => if a = c then some (b == d) else none
  | _, _, _ => none
def eqvL : List (Nat × Option Nat × EK) → List HV → List HV → Option Bool
  | [], _, _ => some true
  | (o, n, k) :: fs, xs, ys =>
    match hpart n o xs, hpart n o ys with
    | some x, some y =>
      match eqv k x y with
      | some true => eqvL fs xs ys
      | some false => some false
      | none => none
    | _, _ => none
end

section
variable (P : Program)

def fieldsEK (rec : TypeId → Option EK) : List Field → Option (List (Nat × Option Nat × EK))
  | [] => some []
  | f :: fs =>
    if f.name ≠ "_" then
      match aggT P f.type, rec f.type, fieldsEK rec fs with
      | some n, some k, some r => some ((f.offset, n, k) :: r)
      | _, _, _ => none
    else none

def sizedB (t : TypeId) : Bool := (P.info? t).isSome && P.cellsOf t != 0

def ekOf : Nat → TypeId → Option EK
  | 0, _ => none
  | d + 1, t =>
    match P.underlying t with
    | some .bool => some .bool
    | some (.int _) => some .int
    | some .string => some .str
    | some (.pointer e) => if sizedB P e = true then some .ptrN else some .ptr
    | some (.slice _) => some .slice
    | some (.map _ _) => some .map
    | some (.func _ _ _) => some .func
    | some (.interface _) => some .iface
    | some (.struct fs) => if P.stoodInHeld t = false then (fieldsEK P (ekOf d) fs.toList).map .struct else none
    | some (.array n e) => match P.info? e, aggT P e, ekOf d e with
      | some _, some a, some k => some (.struct ((List.range n).map fun j => (j * P.cellsOf e, a, k)))
      | _, _, _ => none
    | _ => none
end

section
variable {P : Program} {β : List Ent} {hs : HS} {w : World}

theorem eqFields_sound {d : Nat} (ih : ∀ (t : TypeId) (k : EK) (x y : HV) (u v : Value) (b : Bool), ekOf P d t = some k → Rel β x u → Rel β y v → eqv k x y = some b → ∀ d', d ≤ d' → (Op.equalIn d' t u v).run P w = .ok b w) :
    ∀ (fl : List Field) (fs : List (Nat × Option Nat × EK)) (xs ys : List HV) (us vs : Array Value) (b : Bool), fieldsEK P (ekOf P d) fl = some fs → RelL β xs us.toList → RelL β ys vs.toList → eqvL fs xs ys = some b →
      ∀ d', d ≤ d' → (Op.eqFields d' us vs fl).run P w = .ok b w
  | [], fs, xs, ys, us, vs, b, h, _, _, hb, d', _ => by
    simp [fieldsEK] at h; subst h
    simp [eqvL] at hb; subst hb
    simp [Op.eqFields]
  | f :: fl, fs, xs, ys, us, vs, b, h, hx, hy, hb, d', hd => by
    unfold fieldsEK at h
    split at h
    · rename_i hn
      split at h
      · rename_i n k r h1 h2 h3
        simp at h; subst h
        unfold eqvL at hb
        split at hb
        · rename_i x y hpx hpy
          obtain ⟨u, q1, q2⟩ := hpart_sound (P := P) (w := w) h1 hx hpx
          obtain ⟨v, q3, q4⟩ := hpart_sound (P := P) (w := w) h1 hy hpy
          split at hb
          · rename_i he
            have := ih _ _ _ _ _ _ _ h2 q2 q4 he d' hd
            have hr := eqFields_sound ih fl r xs ys us vs b h3 hx hy hb d' hd
            unfold Op.eqFields
            rw [if_pos hn]
            simp [q1, q3, this, hr]
          · rename_i he
            simp at hb; subst hb
            have := ih _ _ _ _ _ _ _ h2 q2 q4 he d' hd
            unfold Op.eqFields
            rw [if_pos hn]
            simp [q1, q3, this]
          · simp at hb
        · simp at hb
      · simp at h
    · simp at h

theorem eqItems_sound {d : Nat} (ih : ∀ (t : TypeId) (k : EK) (x y : HV) (u v : Value) (b : Bool), ekOf P d t = some k → Rel β x u → Rel β y v → eqv k x y = some b → ∀ d', d ≤ d' → (Op.equalIn d' t u v).run P w = .ok b w)
    {e : TypeId} {a : Option Nat} {k : EK} (h1 : aggT P e = some a) (h2 : ekOf P d e = some k) (c : Nat) :
    ∀ (is : List Nat) (xs ys : List HV) (us vs : Array Value) (b : Bool), RelL β xs us.toList → RelL β ys vs.toList → eqvL (is.map fun j => (j * c, a, k)) xs ys = some b →
      ∀ d', d ≤ d' → (Op.eqItems d' e c us vs is).run P w = .ok b w
  | [], xs, ys, us, vs, b, _, _, hb, d', _ => by
    simp [eqvL] at hb; subst hb
    simp [Op.eqItems]
  | j :: is, xs, ys, us, vs, b, hx, hy, hb, d', hd => by
    simp only [List.map_cons] at hb
    unfold eqvL at hb
    split at hb
    · rename_i x y hpx hpy
      obtain ⟨u, q1, q2⟩ := hpart_sound (P := P) (w := w) h1 hx hpx
      obtain ⟨v, q3, q4⟩ := hpart_sound (P := P) (w := w) h1 hy hpy
      split at hb
      · rename_i he
        have := ih _ _ _ _ _ _ _ h2 q2 q4 he d' hd
        have hr := eqItems_sound ih h1 h2 c is xs ys us vs b hx hy hb d' hd
        unfold Op.eqItems
        simp [q1, q3, this, hr]
      · rename_i he
        simp at hb; subst hb
        have := ih _ _ _ _ _ _ _ h2 q2 q4 he d' hd
        unfold Op.eqItems
        simp [q1, q3, this]
      · simp at hb
    · simp at hb

set_option maxHeartbeats 2000000 in
theorem equalIn_sound : ∀ (d : Nat) (t : TypeId) (k : EK) (x y : HV) (u v : Value) (b : Bool), ekOf P d t = some k → Rel β x u → Rel β y v → eqv k x y = some b → ∀ d', d ≤ d' → (Op.equalIn d' t u v).run P w = .ok b w
  | 0, _, _, _, _, _, _, _, h, _, _, _, _, _ => by simp [ekOf] at h
  | d + 1, t, k, x, y, u, v, b, h, hx, hy, hb, d', hd => by
    obtain ⟨d', rfl⟩ : ∃ m, d' = m + 1 := ⟨d' - 1, by omega⟩
    unfold ekOf at h
    cases hu : P.underlying t with
    | none => rw [hu] at h; simp at h
    | some desc =>
      rw [hu] at h
      unfold eqv at hb
      split at hb <;> (try (simp at hb; done))
      case h_18 fs xs ys =>
        cases desc <;> simp at h
        case pointer el => split at h <;> simp at h
        case struct fl =>
          obtain ⟨h1, h2⟩ := h
          simp only [Rel] at hx hy
          obtain ⟨us, rfl, hus⟩ := hx
          obtain ⟨vs, rfl, hvs⟩ := hy
          have hf : P.fieldsOf t = fl := by simp [Program.fieldsOf, hu]
          rw [run_equalIn_struct w d' t us vs (by rw [hf]; exact hu) h1, hf]
          exact eqFields_sound (fun t k x y u v b => equalIn_sound d t k x y u v b) fl.toList fs xs ys us vs b h2 hus hvs hb d' (by omega)
        case array n e =>
          split at h
          · rename_i i a k g1 g2 g3
            simp at h; subst h
            simp only [Rel] at hx hy
            obtain ⟨us, rfl, hus⟩ := hx
            obtain ⟨vs, rfl, hvs⟩ := hy
            rw [run_equalIn_array (w := w) d' us vs hu g1]
            exact eqItems_sound (fun t k x y u v b => equalIn_sound d t k x y u v b) g2 g3 _ (List.range n) xs ys us vs b hus hvs hb d' (by omega)
          · simp at h
      case h_22 a b c d =>
        split at hb
        · rename_i hac; subst hac
          simp at hb; subst hb
          cases desc <;> simp at h <;> (try (split at h <;> simp at h; done)) <;> simp only [Rel] at hx hy
          case pointer el =>
            obtain ⟨e1, he1, rfl⟩ := hx
            obtain ⟨e2, he2, rfl⟩ := hy
            rw [he1] at he2; cases he2
            have hs : sizedB P el = true := h
            unfold sizedB at hs
            simp only [Bool.and_eq_true, bne_iff_ne, ne_eq] at hs
            obtain ⟨i, hi⟩ := Option.isSome_iff_exists.1 hs.1
            have hsz := run_sizeOf w hi
            have hbeq : ((⟨e1.blk, e1.shift + b, none⟩ : Addr) == ⟨e1.blk, e1.shift + d, none⟩) = (b == d) := by
              by_cases hbd : b = d
              · subst hbd; simp
              · have : (⟨e1.blk, e1.shift + b, none⟩ : Addr) ≠ ⟨e1.blk, e1.shift + d, none⟩ := fun e => by
                  injection e with _ e2 _
                  exact hbd (by omega)
                rw [beq_eq_false_iff_ne.2 this, beq_eq_false_iff_ne.2 hbd]
            simp [Op.equalIn, run_underlying hu, hsz, hs.2, sameAddr, hbeq]
        · simp at hb
      case h_2 =>
        split at hb
        · rename_i hjk; subst hjk
          simp at hb; subst hb
          cases desc <;> simp at h <;> (try (split at h <;> simp at h; done)) <;> simp only [Rel] at hx hy <;> subst hx <;> subst hy <;> simp [Op.equalIn, run_underlying hu]
        · simp at hb
      all_goals (simp at hb; subst hb; cases desc <;> simp at h <;> (try (split at h <;> simp at h; done)) <;> simp only [Rel] at hx hy)
      all_goals (try (obtain ⟨_, _, _, _, rfl, _⟩ := hx)) <;> (try (obtain ⟨_, _, rfl, _⟩ := hx)) <;> (try (obtain ⟨_, _, rfl⟩ := hx)) <;> (try (obtain ⟨_, rfl, _⟩ := hx)) <;> (try subst hx)
      all_goals (try (obtain ⟨_, _, _, _, rfl, _⟩ := hy)) <;> (try (obtain ⟨_, _, rfl, _⟩ := hy)) <;> (try (obtain ⟨_, _, rfl⟩ := hy)) <;> (try (obtain ⟨_, rfl, _⟩ := hy)) <;> (try subst hy)
      all_goals simp [Op.equalIn, run_underlying hu, beq_toListBytes]

/-- '==', '!=' and the like: whole numbers, strings, else by the type. -/
def hbin (op : BinOp) (k : Option EK) (x y : HV) : Option HV :=
  match x, y with
  | .int j a, .int l b => ibin op j l a b
  | .str a, .str b => sbin op a b
  | x, y =>
    match op, k with
    | .eql, some k => (eqv k x y).map .bool
    | .neq, some k => (eqv k x y).map fun b => .bool !b
    | _, _ => none

/-- how a comparison's type is compared; nothing, where it can't be told. -/
def ekBin (P : Program) (op : BinOp) (t : TypeId) : Option EK :=
  match op with
  | .eql | .neq =>
    match ekOf P 12 t with
    | some (.struct fs) => if P.eqGuardType P.depth t = false then some (.struct fs) else none
    | r => r
  | _ => none

theorem eqGuard_ok {op : BinOp} {t : TypeId} {x y : Operand} {a b : HV} {u v : Value} {k : EK} {r : Bool} (hk : ekBin P op t = some k) (ha : Rel β a u) (hb : Rel β b v) (h : eqv k a b = some r) :
    (eqGuard op t x y u v).run P w = .ok () w := by
  unfold eqv at h
  split at h <;> (try (simp at h; done)) <;> simp only [Rel] at ha hb
  case h_18 fs xs ys =>
    obtain ⟨us, rfl, _⟩ := ha
    obtain ⟨vs, rfl, _⟩ := hb
    refine run_eqGuard_agg w op t x y us vs ?_
    unfold ekBin at hk
    cases op <;> simp at hk <;> (split at hk <;> (try (simp at hk; done)))
    all_goals first | (exact hk.1) | (rename_i hne; simp_all)
  all_goals (try (obtain ⟨_, _, _, _, rfl, _⟩ := ha)) <;> (try (obtain ⟨_, _, rfl, _⟩ := ha)) <;> (try (obtain ⟨_, _, rfl⟩ := ha)) <;> (try (obtain ⟨_, rfl, _⟩ := ha)) <;> (try subst ha)
  all_goals (try (obtain ⟨_, _, _, _, rfl, _⟩ := hb)) <;> (try (obtain ⟨_, _, rfl, _⟩ := hb)) <;> (try (obtain ⟨_, _, rfl⟩ := hb)) <;> (try (obtain ⟨_, rfl, _⟩ := hb)) <;> (try subst hb)
  all_goals (cases op <;> simp [eqGuard])

theorem binOp_eql_run {t : TypeId} {a b : HV} {u v : Value} {k : EK} {r : Bool} (hk : ekBin P .eql t = some k ∨ ekBin P .neq t = some k) (ha : Rel β a u) (hb : Rel β b v) (h : eqv k a b = some r) (hn1 : ∀ j n l m, ¬ (a = .int j n ∧ b = .int l m)) (hn2 : ∀ n m, ¬ (a = .str n ∧ b = .str m)) :
    (binOp .eql t u v).run P w = .ok (.bool r) w ∧ (binOp .neq t u v).run P w = .ok (.bool !r) w := by
  have hko : ∃ k', ekOf P 12 t = some k' ∧ k' = k := by
    rcases hk with hk | hk <;> (unfold ekBin at hk; simp only at hk; split at hk)
    · rename_i hq; simp at hk; exact ⟨_, hq, hk.2⟩
    · exact ⟨k, hk, rfl⟩
    · rename_i hq; simp at hk; exact ⟨_, hq, hk.2⟩
    · exact ⟨k, hk, rfl⟩
  obtain ⟨k', hk', rfl⟩ := hko
  have he := equalIn_sound (P := P) (w := w) 12 t k' a b u v r hk' ha hb h 10000 (by omega)
  have e1 : (Op.equal t u v).run P w = .ok r w := he
  unfold eqv at h
  split at h <;> (try (simp at h; done)) <;> simp only [Rel] at ha hb
  case h_2 j a l b => exact absurd ⟨rfl, rfl⟩ (hn1 j a l b)
  case h_3 a b => exact absurd ⟨rfl, rfl⟩ (hn2 a b)
  all_goals (try (obtain ⟨_, _, _, _, rfl, _⟩ := ha)) <;> (try (obtain ⟨_, _, rfl, _⟩ := ha)) <;> (try (obtain ⟨_, _, rfl⟩ := ha)) <;> (try (obtain ⟨_, rfl, _⟩ := ha)) <;> (try subst ha)
  all_goals (try (obtain ⟨_, _, _, _, rfl, _⟩ := hb)) <;> (try (obtain ⟨_, _, rfl, _⟩ := hb)) <;> (try (obtain ⟨_, _, rfl⟩ := hb)) <;> (try (obtain ⟨_, rfl, _⟩ := hb)) <;> (try subst hb)
  all_goals (exact ⟨by simp [binOp, e1], by simp [binOp, e1]⟩)

theorem hbin_sound (E : Emb β hs w) {op : BinOp} {t : TypeId} {ox oy : Operand} {k : Option EK} {x y v : HV} {u1 u2 : Value} (hk : ekBin P op t = k) (hx : Rel β x u1) (hy : Rel β y u2) (h : hbin op k x y = some v) :
    Out P (do eqGuard op t ox oy u1 u2; binOp op t u1 u2) β hs w v hs := by
  have out : ∀ (z : Out P (binOp op t u1 u2) β hs w v hs), (eqGuard op t ox oy u1 u2).run P w = .ok () w → Out P (do eqGuard op t ox oy u1 u2; binOp op t u1 u2) β hs w v hs := by
    rintro ⟨u, w', β', h1, h2, h3⟩ hg
    exact ⟨u, w', β', by simp [hg, h1], h2, h3⟩
  unfold hbin at h
  split at h
  · rename_i j a l b
    simp only [Rel] at hx hy; subst hx; subst hy
    exact out (ibin_sound E h) (by cases op <;> simp [eqGuard])
  · rename_i a b
    simp only [Rel] at hx hy; subst hx; subst hy
    exact out (sbin_sound E h) (by cases op <;> simp [eqGuard])
  · rename_i hn1 hn2
    split at h
    · rename_i k'
      simp only [Option.map_eq_some_iff] at h
      obtain ⟨r, hr, rfl⟩ := h
      have := binOp_eql_run (P := P) (w := w) (.inl hk) hx hy hr (fun j n l m ⟨h1, h2⟩ => hn1 j n l m h1 h2) (fun n m ⟨h1, h2⟩ => hn2 n m h1 h2)
      exact out (Out.same E this.1 rfl) (eqGuard_ok hk hx hy hr)
    · rename_i k'
      simp only [Option.map_eq_some_iff] at h
      obtain ⟨r, hr, rfl⟩ := h
      have := binOp_eql_run (P := P) (w := w) (.inr hk) hx hy hr (fun j n l m ⟨h1, h2⟩ => hn1 j n l m h1 h2) (fun n m ⟨h1, h2⟩ => hn2 n m h1 h2)
      exact out (Out.same E this.2 rfl) (eqGuard_ok hk hx hy hr)
    · simp at h

/-! ### interfaces, tuples -/
def hext (i : Nat) : HV → Option HV
  | .tup vs => vs[i]?
  | _ => none

theorem hext_sound (E : Emb β hs w) {i : Nat} {x v : HV} {u : Value} (hx : Rel β x u) (h : hext i x = some v) : Out P (Instr.extract u i) β hs w v hs := by
  unfold hext at h
  split at h
  · simp only [Rel] at hx
    obtain ⟨us, rfl, hr⟩ := hx
    obtain ⟨u, h1, h2⟩ := hr.get h
    simp at h1
    exact Out.same E (u := u) (by simp [Instr.extract, h1]) h2
  · simp at h

def notIface (P : Program) (t : TypeId) : Bool :=
  match P.underlying t with
  | some (.interface _) => false
  | some _ => true
  | none => false

theorem hiface_sound (E : Emb β hs w) {t : TypeId} {x : HV} {u : Value} (ht : notIface P t = true) (hx : Rel β x u) : Out P (Instr.makeInterface t u) β hs w (.iface t x) hs := by
  unfold notIface at ht
  refine Out.same E (u := .iface t u) ?_ ⟨u, rfl, hx⟩
  cases hu : P.underlying t with
  | none => rw [hu] at ht; simp at ht
  | some d => rw [hu] at ht; cases d <;> simp at ht <;> simp [Instr.makeInterface, run_underlying hu]

/-- x.(T), T no interface; z: T's zero. -/
def hassert (t : TypeId) (z : HV) (ok : Bool) : HV → Option HV
  | .iface t' v => if t' = t then some (if ok then .tup [v, .bool true] else v) else if ok then some (.tup [z, .bool false]) else none
  | .nilIface => if ok then some (.tup [z, .bool false]) else none
  | _ => none

theorem hassert_sound (E : Emb β hs w) {t xt : TypeId} {i : TypeInfo} {z : HV} {zv : Value} {ok : Bool} {x v : HV} {u : Value} (ht : notIface P t = true) (hi : P.info? t = some i) (hz : i.zero = some zv) (hzr : Rel β z zv) (hx : Rel β x u) (h : hassert t z ok x = some v) :
    Out P (Instr.typeAssert u xt t ok) β hs w v hs := by
  have zrel : Rel β (.tup [z, .bool false]) (.tuple #[zv, .bool false]) := ⟨_, rfl, zv, [.bool false], rfl, hzr, _, [], rfl, rfl, rfl⟩
  unfold notIface at ht
  cases hu : P.underlying t with
  | none => rw [hu] at ht; simp at ht
  | some d =>
    rw [hu] at ht
    unfold hassert at h
    split at h
    · rename_i t' y
      simp only [Rel] at hx
      obtain ⟨uy, rfl, hy⟩ := hx
      split at h
      · rename_i htt; subst htt
        simp at h; subst h
        refine Out.same E (u := if ok then .tuple #[uy, .bool true] else uy) ?_ ?_
        · cases d <;> simp at ht <;> simp [Instr.typeAssert, run_underlying hu]
        · cases ok
          · exact hy
          · exact ⟨_, rfl, uy, [.bool true], rfl, hy, _, [], rfl, rfl, rfl⟩
      · rename_i htt
        split at h
        · rename_i hok; subst hok
          simp at h; subst h
          refine Out.same E (u := .tuple #[zv, .bool false]) ?_ zrel
          cases d <;> simp at ht <;> simp [Instr.typeAssert, run_underlying hu, htt, zeroValue, typeInfo, hi, hz]
        · simp at h
    · simp only [Rel] at hx; subst hx
      split at h
      · rename_i hok; subst hok
        simp at h; subst h
        refine Out.same E (u := .tuple #[zv, .bool false]) ?_ zrel
        cases d <;> simp at ht <;> simp [Instr.typeAssert, run_underlying hu, zeroValue, typeInfo, hi, hz]
      · simp at h
    · simp at h

/-! ### min, max of whole numbers -/
def hmin (lt : Bool) : List HV → Option HV
  | [] => none
  | [.int k n] => some (.int k n)
  | .int k n :: .int _k' m :: r => hmin lt (.int k (if lt then (if m < n then m else n) else (if n < m then m else n)) :: r)
  | _ => none
  termination_by l => l.length

theorem hmin_sound (E : Emb β hs w) {ts : Array TypeId} {ty : TypeId} : ∀ (xs : List HV) (us : List Value) (v : HV), RelL β xs us → hmin true xs = some v → Out P (Builtin.min_ ts ty us.toArray) β hs w v hs
  | [], us, v, hr, h => by simp [hmin] at h
  | x :: xs, us, v, hr, h => by
    simp only [RelL] at hr
    obtain ⟨u, us', rfl, h1, h2⟩ := hr
    have key : ∀ (ys : List HV) (vs : List Value) (k : IntKind) (n : Int) (v : HV), RelL β ys vs → hmin true (.int k n :: ys) = some v → ∃ r, (vs.foldlM Builtin.min2 (.int k n)).run P w = .ok r w ∧ Rel β v r := by
      intro ys
      induction ys with
      | nil =>
        intro vs k n v hr h
        simp only [RelL] at hr; subst hr
        simp [hmin] at h; subst h
        exact ⟨_, rfl, rfl⟩
      | cons y ys ih =>
        intro vs k n v hr h
        simp only [RelL] at hr
        obtain ⟨u, vs', rfl, g1, g2⟩ := hr
        cases y <;> simp [hmin] at h
        rename_i k' m
        simp only [Rel] at g1; subst g1
        obtain ⟨r, q1, q2⟩ := ih vs' k _ v g2 h
        exact ⟨r, by simpa [List.foldlM_cons, Builtin.min2] using q1, q2⟩
    cases x <;> (try (cases xs <;> simp [hmin] at h; done))
    rename_i k n
    simp only [Rel] at h1; subst h1
    obtain ⟨r, q1, q2⟩ := key xs us' k n v h2 h
    exact Out.same E (by simpa [Builtin.min_] using q1) q2

theorem hmax_sound (E : Emb β hs w) {ts : Array TypeId} {ty : TypeId} : ∀ (xs : List HV) (us : List Value) (v : HV), RelL β xs us → hmin false xs = some v → Out P (Builtin.max_ ts ty us.toArray) β hs w v hs
  | [], us, v, hr, h => by simp [hmin] at h
  | x :: xs, us, v, hr, h => by
    simp only [RelL] at hr
    obtain ⟨u, us', rfl, h1, h2⟩ := hr
    have key : ∀ (ys : List HV) (vs : List Value) (k : IntKind) (n : Int) (v : HV), RelL β ys vs → hmin false (.int k n :: ys) = some v → ∃ r, (vs.foldlM Builtin.max2 (.int k n)).run P w = .ok r w ∧ Rel β v r := by
      intro ys
      induction ys with
      | nil =>
        intro vs k n v hr h
        simp only [RelL] at hr; subst hr
        simp [hmin] at h; subst h
        exact ⟨_, rfl, rfl⟩
      | cons y ys ih =>
        intro vs k n v hr h
        simp only [RelL] at hr
        obtain ⟨u, vs', rfl, g1, g2⟩ := hr
        cases y <;> simp [hmin] at h
        rename_i k' m
        simp only [Rel] at g1; subst g1
        obtain ⟨r, q1, q2⟩ := ih vs' k _ v g2 h
        exact ⟨r, by simpa [List.foldlM_cons, Builtin.max2] using q1, q2⟩
    cases x <;> (try (cases xs <;> simp [hmin] at h; done))
    rename_i k n
    simp only [Rel] at h1; subst h1
    obtain ⟨r, q1, q2⟩ := key xs us' k n v h2 h
    exact Out.same E (by simpa [Builtin.max_] using q1) q2

/-! ### a string gone through -/
def hrangeStr (hs : HS) : HV → Option (HV × HS)
  | .str b => some (.ptr hs.length 0, hs ++ [some (.siter b 0)])
  | _ => none

theorem hrangeStr_sound (E : Emb β hs w) {t : TypeId} {x v : HV} {u : Value} {hs' : HS} (ht : P.underlying t = some .string) (hx : Rel β x u) (h : hrangeStr hs x = some (v, hs')) : Out P (Instr.range t u) β hs w v hs' := by
  unfold hrangeStr at h
  split at h
  · rename_i b
    simp at h; obtain ⟨rfl, rfl⟩ := h
    simp only [Rel] at hx; subst hx
    have S := Step.new E (.stringIter ⟨b.toArray⟩ 0) ⟨w.heap.size, 0, 0, 0⟩ (.siter b 0) rfl ⟨heap_alloc_new _ _, rfl⟩
    refine ⟨.pointer (some ⟨w.heap.size, 0, none⟩), _, _, ?_, ?_, S⟩
    · simp [Instr.range, run_underlying ht]
    · simp only [Rel]
      exact ⟨_, by rw [← E.len]; exact get_snoc_last _ _, by simp⟩
  · simp at h

def hnextStr (hs : HS) : HV → Option (HV × HS)
  | .ptr h 0 =>
    match hs[h]? with
    | some (some (.siter b pos)) =>
      if pos < b.length then
        some (.tup [.bool true, .int .i64 pos, .int .i32 (Utf8.decode ⟨b.toArray⟩ pos).1], hs.set h (some (.siter b (pos + (Utf8.decode ⟨b.toArray⟩ pos).2))))
      else some (.tup [.bool false], hs)
    | _ => none
  | _ => none

theorem hnextStr_sound (E : Emb β hs w) {ty : TypeId} {x v : HV} {u : Value} {hs' : HS} (hx : Rel β x u) (h : hnextStr hs x = some (v, hs')) : Out P (Instr.next u true ty) β hs w v hs' := by
  unfold hnextStr at h
  split at h
  · rename_i hh
    simp only [Rel] at hx
    obtain ⟨e, he, rfl⟩ := hx
    split at h
    · rename_i b pos hb
      obtain ⟨h1, h2⟩ := E.blk hh e _ he hb
      have hlt := lt_of_geta h1
      have hsz : (⟨b.toArray⟩ : ByteArray).size = b.length := by simp [ByteArray.size]
      split at h
      · rename_i hp
        simp at h; obtain ⟨rfl, rfl⟩ := h
        have S := Step.upd (w' := { w with heap := w.heap.setIfInBounds e.blk (.stringIter ⟨b.toArray⟩ (pos + (Utf8.decode ⟨b.toArray⟩ pos).2)) }) E (b' := .siter b (pos + (Utf8.decode ⟨b.toArray⟩ pos).2)) he hb rfl rfl (by simp)
          (fun k hk => by simp [Array.getElem?_setIfInBounds_ne (Ne.symm hk)]) ⟨by simp [hlt], h2⟩ rfl rfl rfl
        simp only [HB.olds, killAll, List.foldl_nil] at S
        refine ⟨.tuple #[.bool true, goInt pos, .int .i32 (Utf8.decode ⟨b.toArray⟩ pos).1], _, β, ?_, ?_, S⟩
        · simp [Instr.next, h2, getObj, Sem.run, h1, hsz, hp, setObj]
        · exact ⟨_, rfl, _, _, rfl, rfl, _, _, rfl, rfl, _, _, rfl, rfl, rfl⟩
      · rename_i hp
        simp at h; obtain ⟨rfl, rfl⟩ := h
        refine Out.same E (u := .tuple #[.bool false]) ?_ ⟨_, rfl, _, _, rfl, rfl, rfl⟩
        simp [Instr.next, h2, getObj, Sem.run, h1, hsz, hp]
    · simp at h
  · simp at h

end
end Go.HL
