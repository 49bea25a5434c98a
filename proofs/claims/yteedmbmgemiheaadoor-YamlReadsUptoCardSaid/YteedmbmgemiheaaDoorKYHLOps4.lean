/-
  HL: slicing, conversions, make, copy, maps and the rest.
-/
import Derived.Test.YteedmbmgemiheaaDoorKYHLOps3
import Derived.Laws.BytesString
namespace Go.HL
open Go

section
variable {P : Program} {β : List Ent} {hs : HS} {w : World}

/-! ### slicing -/
def bnd (o : Option HV) (dflt limit : Nat) : Option Nat :=
  match o with
  | none => some dflt
  | some (.int _ k) => if 0 ≤ k ∧ k ≤ limit then some k.toNat else none
  | _ => none

/-- an operand that may be there. -/
def RelO (β : List Ent) : Option HV → Option Value → Prop
  | none, none => True
  | some x, some v => Rel β x v
  | _, _ => False

theorem run_bnd {o : Option HV} {vo : Option Value} {d l n : Nat} {code : BoundsCode} (hr : RelO β o vo) (h : bnd o d l = some n) (w : World) :
    (match vo with | some v => Instr.sliceBound v l code | none => pure d : Sem Nat).run P w = .ok n w := by
  cases o with
  | none =>
    cases vo with
    | none => simp [bnd] at h; subst h; rfl
    | some => simp [RelO] at hr
  | some x =>
    cases vo with
    | none => simp [RelO] at hr
    | some v =>
      simp only [RelO] at hr
      unfold bnd at h
      split at h
      · rename_i hh; cases hh
      · rename_i kk k hh
        cases hh
        split at h
        · rename_i hk
          simp at h; subst h
          simp only [Rel] at hr; subst hr
          simp [Instr.sliceBound, asIntOf, hk]
        · simp at h
      · simp at h

theorem bnd_le {o : Option HV} {d l n : Nat} (h : bnd o d l = some n) (hd : d ≤ l) : n ≤ l := by
  unfold bnd at h
  split at h
  · simp at h; omega
  · split at h
    · simp at h; omega
    · simp at h
  · simp at h

/-- the bounds of a slice expression. -/
def bounds (len cap : Nat) (lo hi mx : Option HV) : Option (Nat × Nat × Nat) :=
  match bnd mx cap cap with
  | none => none
  | some m =>
    match hi, mx with
    | none, some _ => none
    | hi, _ =>
      match bnd hi len m with
      | none => none
      | some h => match bnd lo 0 h with
        | none => none
        | some l => if l ≤ h ∧ h ≤ m then some (l, h, m) else none

theorem run_bounds {isSlice : Bool} {len cap l h m : Nat} {lo hi mx : Option HV} {vlo vhi vmx : Option Value} (h1 : RelO β lo vlo) (h2 : RelO β hi vhi) (h3 : RelO β mx vmx) (hb : bounds len cap lo hi mx = some (l, h, m)) (w : World) :
    (Instr.sliceBounds isSlice len cap vlo vhi vmx).run P w = .ok (l, h, m) w := by
  unfold bounds at hb
  split at hb
  · simp at hb
  · rename_i m' hm
    split at hb
    · simp at hb
    · rename_i hne
      split at hb
      · simp at hb
      · rename_i h' hh
        split at hb
        · simp at hb
        · rename_i l' hl
          split at hb
          case isFalse => simp at hb
          simp at hb; obtain ⟨rfl, rfl, rfl⟩ := hb
          have e1 := run_bnd (P := P) (code := if isSlice then .slice3Acap else .slice3Alen) h3 hm w
          unfold Instr.sliceBounds
          cases vmx with
          | none =>
            cases mx with
            | some => simp [RelO] at h3
            | none =>
            have e2 := run_bnd (P := P) (code := if isSlice then .sliceAcap else .sliceAlen) h2 hh w
            have e3 := run_bnd (P := P) (code := .sliceB) h1 hl w
            cases vhi <;> cases vlo <;> simp_all
          | some vm =>
            cases mx with
            | none => simp [RelO] at h3
            | some mx' =>
            have e2 := run_bnd (P := P) (code := .slice3B) h2 hh w
            have e3 := run_bnd (P := P) (code := .slice3C) h1 hl w
            cases hi with
            | none => exact absurd rfl (hne _ rfl)
            | some hi' =>
              cases vhi with
              | none => simp [RelO] at h2
              | some vh => cases vlo <;> simp_all

theorem bounds_le {len cap l h m : Nat} {lo hi mx : Option HV} (hb : bounds len cap lo hi mx = some (l, h, m)) : l ≤ h ∧ h ≤ m ∧ m ≤ cap := by
  unfold bounds at hb
  split at hb
  · simp at hb
  · rename_i m' hm
    split at hb
    · simp at hb
    · split at hb
      · simp at hb
      · split at hb
        · simp at hb
        · split at hb
          · rename_i hc
            simp at hb; obtain ⟨rfl, rfl, rfl⟩ := hb
            exact ⟨hc.1, hc.2, bnd_le hm (Nat.le_refl _)⟩
          · simp at hb

def hsliceStr (x : HV) (lo hi : Option HV) : Option HV :=
  match x with
  | .str b => (bounds b.length b.length lo hi none).map fun (l, h, _) => .str ((b.take h).drop l)
  | _ => none

theorem hsliceStr_sound (E : Emb β hs w) {t : TypeId} {x v : HV} {u : Value} {lo hi : Option HV} {vlo vhi : Option Value} (ht : P.underlying t = some .string) (hx : Rel β x u) (h1 : RelO β lo vlo) (h2 : RelO β hi vhi)
    (h : hsliceStr x lo hi = some v) : Out P (Instr.sliceAt t u vlo vhi none) β hs w v hs := by
  unfold hsliceStr at h
  split at h
  · rename_i b
    simp only [Option.map_eq_some_iff] at h
    obtain ⟨⟨l, hh, m⟩, hb, rfl⟩ := h
    simp only [Rel] at hx; subst hx
    have hr := run_bounds (P := P) (isSlice := false) h1 h2 (show RelO β none none from trivial) hb w
    have hsz : (⟨b.toArray⟩ : ByteArray).size = b.length := by simp [ByteArray.size]
    refine Out.same E (u := .string ((⟨b.toArray⟩ : ByteArray).extract l hh)) ?_ ?_
    · simp [Instr.sliceAt, Instr.slice, run_underlying ht, hsz, hr]
    · simp only [Rel]
      congr 1
      apply ByteArray.ext
      simp [List.drop_take]
  · simp at h

/-- slices; s: cells an element. -/
def hslice (x : HV) (lo hi mx : Option HV) : Option HV :=
  match x with
  | .nilSlice => (bounds 0 0 lo hi mx).map fun _ => .nilSlice
  | .slice h o len (some c) => (bounds len c lo hi mx).map fun (l, hh, m) => .slice h (o + l) (hh - l) (some (m - l))
  | .slice h o len none =>
    match mx with
    | none => (bounds len len lo hi none).map fun (l, hh, _) => .slice h (o + l) (hh - l) none
    | some _ => (bounds len len lo hi mx).map fun (l, hh, m) => .slice h (o + l) (hh - l) (some (m - l))
  | _ => none

theorem bnd_more {o : Option HV} {d l l' n : Nat} (h : bnd o d l = some n) (hl : l ≤ l') : bnd o d l' = some n := by
  unfold bnd at h ⊢
  split at h
  · exact h
  · split at h
    · rename_i hk
      rw [if_pos (by omega)]; exact h
    · simp at h
  · simp at h

theorem hslice_sound (E : Emb β hs w) {t e : TypeId} {i : TypeInfo} {s : Nat} {x v : HV} {u : Value} {lo hi mx : Option HV} {vlo vhi vmx : Option Value} (ht : P.underlying t = some (.slice e)) (hi' : P.info? e = some i) (hs1 : i.size = s)
    (hx : Rel β x u) (h1 : RelO β lo vlo) (h2 : RelO β hi vhi) (h3 : RelO β mx vmx) (hes : ∀ hh o len cap, x = .slice hh o len cap → cap ≠ some 0 → ∀ en, β[hh]? = some en → en.s = s)
    (h : hslice x lo hi mx = some v) : Out P (Instr.sliceAt t u vlo vhi vmx) β hs w v hs := by
  have core : ∀ (a : Option Addr) (len cap l hh m : Nat), bounds len cap lo hi mx = some (l, hh, m) →
      (Instr.sliceAt t (.slice a len cap) vlo vhi vmx).run P w = .ok (.slice (if m = l then a else a.map (·.add (l * s))) (hh - l) (m - l)) w := by
    intro a len cap l hh m hb
    have hr := run_bounds (P := P) (isSlice := true) h1 h2 h3 hb w
    simp [Instr.sliceAt, Instr.slice, run_underlying ht, hr, sizeOf, typeInfo, hi', hs1]
  unfold hslice at h
  split at h
  · simp only [Option.map_eq_some_iff] at h
    obtain ⟨⟨l, hh, m⟩, hb, rfl⟩ := h
    simp only [Rel] at hx; subst hx
    have hle := bounds_le hb
    have hr := core none 0 0 l hh m hb
    have h0 : hh - l = 0 ∧ m - l = 0 := by omega
    refine Out.same E (u := .slice none 0 0) ?_ rfl
    rw [hr, h0.1, h0.2]
    simp
  · rename_i hd o len c
    simp only [Option.map_eq_some_iff] at h
    obtain ⟨⟨l, hh, m⟩, hb, rfl⟩ := h
    simp only [Rel] at hx
    obtain ⟨en, a, c', he, rfl, hlc, ⟨hc, hcN⟩, ha⟩ := hx
    subst hc
    have hle := bounds_le hb
    refine Out.same E (core (some a) len c' l hh m hb) ?_
    simp only [Rel]
    by_cases hml : m = l
    · rw [if_pos hml]
      exact ⟨en, a, m - l, he, rfl, by omega, ⟨rfl, by omega⟩, fun h => by omega⟩
    · rw [if_neg hml]
      have ha' := ha (by omega)
      have hss := hes hd o len _ rfl (fun e => by simp only [Option.some.injEq] at e; omega) en he
      subst ha'
      exact ⟨en, _, m - l, he, rfl, by omega, ⟨rfl, by omega⟩, fun _ => by show Addr.add _ _ = _; rw [Addr.add_lit, hss, Nat.add_mul, Nat.add_assoc]⟩
  · rename_i hd o len
    simp only [Rel] at hx
    obtain ⟨en, a, c', he, rfl, hlc, hc, ha⟩ := hx
    have hc : o + c' = en.N := hc
    have hss := hes hd o len _ rfl (fun e => by cases e) en he
    split at h
    · simp only [Option.map_eq_some_iff] at h
      obtain ⟨⟨l, hh, m⟩, hb, rfl⟩ := h
      have hle := bounds_le hb
      have hb' : bounds len c' lo hi none = some (l, hh, c') := by
        unfold bounds at hb ⊢
        simp only [bnd] at hb ⊢
        split at hb
        · simp at hb
        · rename_i h' hq
          have hq' : bnd hi len c' = some h' := bnd_more (l := len) (by simpa [bnd] using hq) hlc
          simp only [bnd] at hq'
          rw [hq']
          simp only
          split at hb
          · simp at hb
          · rename_i l' hl
            split at hb
            case isFalse => simp at hb
            rename_i hc
            simp at hb; obtain ⟨rfl, rfl, _⟩ := hb
            first
            | rw [if_pos (by omega)]
            | (rw [hl]; simp only; rw [if_pos (by omega)])
      refine Out.same E (core (some a) len c' l hh c' hb') ?_
      simp only [Rel]
      by_cases hml : c' = l
      · rw [if_pos hml]
        exact ⟨en, a, c' - l, he, rfl, by omega, (by show _ + _ = _; omega), fun h => by omega⟩
      · rw [if_neg hml]
        have ha' := ha (by omega)
        subst ha'
        exact ⟨en, _, c' - l, he, rfl, by omega, (by show _ + _ = _; omega), fun _ => by show Addr.add _ _ = _; rw [Addr.add_lit, hss, Nat.add_mul, Nat.add_assoc]⟩
    · rename_i mx'
      simp only [Option.map_eq_some_iff] at h
      obtain ⟨⟨l, hh, m⟩, hb, rfl⟩ := h
      have hb' : bounds len c' lo hi (some mx') = some (l, hh, m) := by
        unfold bounds at hb ⊢
        split at hb
        · simp at hb
        · rename_i m' hm
          have hm' : bnd (some mx') c' c' = some m' := by
            have h0 := bnd_more (l' := c') hm hlc
            unfold bnd at h0 ⊢
            cases mx' <;> exact h0
          rw [hm']
          exact hb
      have hle := bounds_le hb
      refine Out.same E (core (some a) len c' l hh m hb') ?_
      simp only [Rel]
      by_cases hml : m = l
      · rw [if_pos hml]
        exact ⟨en, a, m - l, he, rfl, by omega, ⟨rfl, by omega⟩, fun h => by omega⟩
      · rw [if_neg hml]
        have ha' := ha (by omega)
        subst ha'
        exact ⟨en, _, m - l, he, rfl, by omega, ⟨rfl, by omega⟩, fun _ => by show Addr.add _ _ = _; rw [Addr.add_lit, hss, Nat.add_mul, Nat.add_assoc]⟩
  · simp at h

/-- a slice of an array that lies behind a pointer; s: cells an element. -/
def hsliceArr (hs : HS) (n s : Nat) (x : HV) (lo hi mx : Option HV) : Option HV :=
  match x with
  | .ptr h o => match hs[h]? with
    | some (some (.cells s' cs _ _ _)) => if s' = s ∧ o % s = 0 ∧ 0 < s ∧ o + n * s ≤ cs.length then (bounds n n lo hi mx).map fun (l, hh, m) => .slice h (o / s + l) (hh - l) (some (m - l)) else none
    | _ => none
  | _ => none

theorem hsliceArr_sound (E : Emb β hs w) {t e : TypeId} {n s : Nat} {i : TypeInfo} {x v : HV} {u : Value} {lo hi mx : Option HV} {vlo vhi vmx : Option Value} (ht : P.underlying t = some (.array n e)) (hi' : P.info? e = some i) (hsz : i.size = s)
    (hx : Rel β x u) (h1 : RelO β lo vlo) (h2 : RelO β hi vhi) (h3 : RelO β mx vmx) (h : hsliceArr hs n s x lo hi mx = some v) : Out P (Instr.sliceAt t u vlo vhi vmx) β hs w v hs := by
  unfold hsliceArr at h
  split at h
  case h_2 => simp at h
  rename_i hh o
  split at h
  case h_2 => simp at h
  rename_i s' cs ro opn olds hb
  split at h
  case isFalse => simp at h
  rename_i hc
  obtain ⟨rfl, ho, hpos, hfit⟩ := hc
  simp only [Option.map_eq_some_iff] at h
  obtain ⟨⟨l, k, m⟩, hbd, rfl⟩ := h
  have hle := bounds_le hbd
  have hr := run_bounds (P := P) (isSlice := false) h1 h2 h3 hbd w
  simp only [Rel] at hx
  obtain ⟨en, he, rfl⟩ := hx
  have hes : en.s = s' := (E.blk hh en _ he hb).1
  refine Out.same E (u := .slice (some (if m = l then ⟨en.blk, en.shift + o, none⟩ else Addr.add ⟨en.blk, en.shift + o, none⟩ (l * s'))) (k - l) (m - l)) ?_ ?_
  · simp [Instr.sliceAt, run_underlying ht, Instr.sureAddr, hr, sizeOf, typeInfo, hi', hsz]
  · have hcl : cs.length ≤ en.N * s' := by
      obtain ⟨_, _, _, _, _, _, _, hcl, _⟩ := E.blk hh en _ he hb
      exact hcl
    have hod : o / s' * s' = o := Nat.div_mul_cancel (Nat.dvd_of_mod_eq_zero ho)
    have hN : o / s' + n ≤ en.N := by
      have : (o / s' + n) * s' ≤ en.N * s' := by rw [Nat.add_mul, hod]; omega
      exact Nat.le_of_mul_le_mul_right this hpos
    simp only [Rel]
    refine ⟨en, _, _, he, rfl, by omega, ⟨rfl, by omega⟩, fun h0 => ?_⟩
    rw [if_neg (by omega), Addr.add_lit, hes, Nat.add_mul]
    have : o / s' * s' = o := Nat.div_mul_cancel (Nat.dvd_of_mod_eq_zero ho)
    rw [this, Nat.add_assoc]

/-! ### conversions -/
def asBytes : List HV → Option (List UInt8)
  | [] => some []
  | .int .u8 n :: r => (asBytes r).map fun l => UInt8.ofNat n.toNat :: l
  | _ => none

theorem asBytes_rel : ∀ {cs : List HV} {us : List Value} {b : List UInt8}, RelL β cs us → asBytes cs = some b → ∃ ns : List Int, us = ns.map (Value.int .u8) ∧ b = ns.map fun n => UInt8.ofNat n.toNat
  | [], us, b, hr, h => by simp only [RelL] at hr; simp [asBytes] at h; exact ⟨[], by simp [hr], by simp [h]⟩
  | x :: cs, us, b, hr, h => by
    simp only [RelL] at hr
    obtain ⟨u, us', rfl, h1, h2⟩ := hr
    unfold asBytes at h
    split at h
    · rename_i hx; simp at hx
    · rename_i n r hx
      obtain ⟨rfl, rfl⟩ := List.cons.inj hx
      simp only [Option.map_eq_some_iff] at h
      obtain ⟨l, hl, rfl⟩ := h
      obtain ⟨ns, rfl, rfl⟩ := asBytes_rel h2 hl
      simp only [Rel] at h1; subst h1
      exact ⟨n :: ns, by simp, by simp⟩
    · simp at h

theorem foldl_push (ns : List Int) : ∀ s : ByteArray, ns.foldl (fun r n => r.push (UInt8.ofNat n.toNat)) s = ⟨s.data ++ (ns.map fun n => UInt8.ofNat n.toNat).toArray⟩ := by
  induction ns with
  | nil => intro s; simp
  | cons n ns ih =>
    intro s
    simp only [List.foldl_cons, ih, List.map_cons]
    apply ByteArray.ext
    simp [ByteArray.push]

/-- bytes to a string. -/
def hb2s (hs : HS) (x : HV) : Option HV :=
  match takeCells hs 1 x with
  | some (_, cs) => (asBytes cs).map .str
  | none => none

theorem hb2s_sound (E : Emb β hs w) {src dst e : TypeId} {x v : HV} {u : Value} (h1 : P.underlying src = some (.slice e)) (h2 : P.underlying e = some (.int .u8)) (h3 : P.underlying dst = some .string) (hx : Rel β x u) (hn : ∀ b, x ≠ .str b)
    (h : hb2s hs x = some v) : Out P (convert src dst u) β hs w v hs := by
  unfold hb2s at h
  split at h
  · rename_i m cs ht
    simp only [Option.map_eq_some_iff] at h
    obtain ⟨b, hb, rfl⟩ := h
    obtain ⟨us, r1, r2, hsrc⟩ := takeCells_src (P := P) E hx ht (.inl ⟨e, h1⟩)
    obtain ⟨ns, rfl, rfl⟩ := asBytes_rel r1 hb
    have hf := hsrc.cells
    have hl := hsrc.len w
    cases x <;> simp only [takeCells] at ht <;> (try (simp at ht; done))
    case str b => exact absurd rfl (hn b)
    case nilSlice =>
      simp only [Rel] at hx; subst hx
      simp at ht; obtain ⟨rfl, rfl⟩ := ht
      have : ns = [] := by have := r1.length; simp at this; exact List.eq_nil_of_length_eq_zero this.symm
      subst this
      refine Out.same E (u := .string .empty) ?_ rfl
      rw [run_convert_bytes_string w src dst e none 0 0 h1 h2 h3]
      simp [Conv.bytesToString]
    case slice hh o len cap =>
      simp only [Rel] at hx
      obtain ⟨en, a, c, he, rfl, hlc, hc, ha⟩ := hx
      have hm : m = len := by
        have := hsrc.len w
        simp [Builtin.lenOf] at this
        exact this.symm
      subst hm
      simp only [Builtin.firstCells, Nat.mul_one] at hf
      refine Out.same E (u := .string (ns.foldl (fun r n => r.push (UInt8.ofNat n.toNat)) ByteArray.empty)) ?_ ?_
      · rw [run_convert_bytes_string w src dst e (some a) m c h1 h2 h3]
        exact run_bytesToString w a m c ns hf
      · simp only [Rel, foldl_push]
        congr 1
        apply ByteArray.ext
        simp
  · simp at h

/-- a string to new bytes. -/
def hs2b (hs : HS) (x : HV) : Option (HV × HS) :=
  match x with
  | .str b => if b.length ≤ maxLen then some (.slice hs.length 0 b.length none, hs ++ [some (.cells 1 (b.map fun c => .int .u8 c.toNat) false true [])]) else none
  | _ => none

theorem freeze_new (w : World) (cur : Array Value) (e : TypeId) : (w.alloc (.cells cur e)).freeze { block := w.heap.size, off := cur.size } 1 = w.alloc (.cells cur e (cur.size, cur.size + 1)) := by
  unfold World.freeze
  rw [if_neg (by decide)]
  have : ∀ w' : World, w'.heap = w.heap.push (.cells cur e (cur.size, cur.size + 1)) → w'.tape = w.tape → w'.drawn = w.drawn → w'.os = w.os → w'.output = w.output → w' = w.alloc (.cells cur e (cur.size, cur.size + 1)) := by
    intro w' h1 h2 h3 h4 h5
    cases w'; cases w; simp only at h1 h2 h3 h4 h5; subst h1 h2 h3 h4 h5; rfl
  refine this _ ?_ rfl rfl rfl rfl
  apply Array.ext_getElem?
  intro i
  show ((w.heap.push (.cells cur e (0, 0))).modify w.heap.size _)[i]? = _
  rw [Array.getElem?_modify, Array.getElem?_push, Array.getElem?_push]
  split
  · rename_i hk; subst hk
    simp
  · rename_i hk
    rw [if_neg (fun h => hk h.symm), if_neg (fun h => hk h.symm)]

theorem hs2b_sound (E : Emb β hs w) {src dst e : TypeId} {x v : HV} {u : Value} {hs' : HS} (h1 : P.underlying src = some .string) (h2 : P.underlying dst = some (.slice e)) (h3 : P.underlying e = some (.int .u8)) (hx : Rel β x u)
    (h : hs2b hs x = some (v, hs')) : Out P (convert src dst u) β hs w v hs' := by
  unfold hs2b at h
  split at h
  · rename_i b
    split at h
    · rename_i hle
      simp at h; obtain ⟨rfl, rfl⟩ := h
      simp only [Rel] at hx; subst hx
      have hsz : (⟨b.toArray⟩ : ByteArray).size = b.length := by simp [ByteArray.size]
      have hge := grownCap_ge w b.length 0 e
      have S1 : Step β hs w β hs w.drew := Step.drew E _
      have hcur : ((b.toArray.map fun c => Value.int .u8 c.toNat) ++ Array.replicate (grownCap w b.length 0 e - b.length) (.int .u8 0) : Array Value).size = grownCap w b.length 0 e := by simp; omega
      generalize hg : ((b.toArray.map fun c => Value.int .u8 c.toNat) ++ Array.replicate (grownCap w b.length 0 e - b.length) (.int .u8 0) : Array Value) = cur at hcur
      have S2 := Step.new S1.emb (.cells cur e (cur.size, cur.size + 1)) ⟨w.heap.size, 0, grownCap w b.length 0 e, 1⟩ (.cells 1 (b.map fun c => .int .u8 c.toNat) false true []) rfl (by
        refine ⟨rfl, cur, e, _, heap_alloc_new _ _, fun _ => .inr (Nat.le_refl _), by simp only [hcur]; omega, by simp; exact hge, fun i x hi => ?_⟩
        obtain ⟨u, hu, hr⟩ := (RelL.bytes (β ++ [⟨w.heap.size, 0, grownCap w b.length 0 e, 1⟩]) b).get hi
        refine ⟨u, ?_, hr, ?_⟩
        · have hlt := lt_of_get hu
          rw [← hg, Array.getElem?_append_left (by simpa using hlt)]
          simp at hu ⊢
          exact hu
        · obtain ⟨c, _, rfl⟩ := List.mem_map.1 (List.mem_of_getElem? hi); rfl)
      refine ⟨.slice (some ⟨w.heap.size, 0, none⟩) b.length (grownCap w b.length 0 e), _, _, ?_, ?_, S1.trans S2⟩
      · have hfz := freeze_new w.drew cur e
        rw [show w.drew.heap.size = w.heap.size from rfl] at hfz
        have hsh : (w.drew.alloc (.cells cur e)).shape? w.heap.size = some (e, cur.size) := by
          have := heap_alloc_new w.drew (.cells cur e)
          unfold World.shape?
          rw [show w.drew.heap.size = w.heap.size from rfl] at this
          rw [this]
        simp only [convert, run_underlying h1, run_underlying h2, run_underlying h3, Sem.run_bind, Result.andThen_ok, Conv.stringToBytes, run_choose, Question.forced, hsz]
        simp only [Bool.false_eq_true, if_false, Result.andThen_ok, newRow, Sem.run_bind, run_newObj_alloc, Sem.run_pure, markStringish, run_shape]
        rw [show (Question.appendCap b.length 0 e).cut (w.tape w.drawn (.appendCap b.length 0 e)) = grownCap w b.length 0 e from rfl, hg]
        rw [show ({ w with drawn := w.drawn + 1 } : World) = w.drew from rfl, hsh]
        simp only [run_freeze, Result.andThen_ok, hfz]
      · simp only [Rel]
        exact ⟨_, ⟨w.heap.size, 0, none⟩, grownCap w b.length 0 e, by rw [← E.len]; exact get_snoc_last _ _, rfl, hge, by simp, fun _ => by simp⟩
    · simp at h
  · simp at h

/-- a constant's bytes: the block gets its mark, the value goes on. -/
def hmark (hs : HS) (x : HV) : Option HV :=
  match x with
  | .slice h _ len _ => if 0 < len then match hs[h]? with
    | some (some (.cells _ _ false _ [])) => some x
    | _ => none
    else none
  | _ => none

theorem hmark_sound (E : Emb β hs w) {src dst e : TypeId} {x v : HV} {u : Value} (h0 : src = dst) (h1 : P.underlying src = some (.slice e)) (h2 : P.underlying e = some (.int .u8)) (hx : Rel β x u)
    (h : hmark hs x = some v) : Out P (convert src dst u) β hs w v hs := by
  subst h0
  unfold hmark at h
  split at h
  case h_2 => simp at h
  · rename_i hh off len cap
    split at h
    case isFalse => simp at h
    rename_i hpos
    split at h
    · rename_i s cs opn hb
      simp at h; subst h
      have hx0 := hx
      simp only [Rel] at hx
      obtain ⟨en, a, c, he, rfl, hlc, -, hab⟩ := hx
      have hblk : a.block = en.blk := by rw [hab (by omega)]
      have hB := E.blk hh en _ he hb
      obtain ⟨hes, cur, t, ⟨lo, hi⟩, hg, hfz, hfit, hcl, hcs⟩ := hB
      have hfree := hfz rfl
      have hlt : en.blk < w.heap.size := lt_of_geta hg
      have S : Step β hs w β ((killAll [] hs).set hh (some (.cells s cs false opn []))) (w.freeze { block := en.blk, off := cur.size } 1) := by
        refine Step.upd E (b := .cells s cs false opn []) he hb rfl rfl ?_ ?_ ?_ ?_ ?_ ?_
        · simp [World.freeze]
        · intro k hk
          simp only [World.freeze, Nat.one_ne_zero, if_false]
          rw [Array.getElem?_modify, if_neg (fun h => hk h.symm)]
        · refine ⟨hes, cur, t, (if lo == hi then (cur.size, cur.size + 1) else (min lo cur.size, max hi (cur.size + 1))), ?_, fun _ => ?_, hfit, hcl, hcs⟩
          · simp only [World.freeze, Nat.one_ne_zero, if_false]
            rw [Array.getElem?_modify, if_pos rfl, hg]
            rfl
          · split
            · exact .inr (Nat.le_refl _)
            · rename_i hne
              rcases hfree with h | h
              · simp at hne; exact absurd h hne
              · exact .inr (by show cur.size ≤ min lo cur.size; simp only at h; omega)
        · simp [World.freeze]
        · simp [World.freeze]
        · simp [World.freeze]
      have hhs : (killAll [] hs).set hh (some (.cells s cs false opn [])) = hs := by
        apply List.ext_getElem?
        intro i
        rw [List.getElem?_set]
        split
        · rename_i hi; subst hi
          rw [if_pos (by simpa [killAll] using lt_of_get hb), hb]
        · rfl
      rw [hhs] at S
      refine ⟨.slice (some a) len c, _, _, ?_, hx0, S⟩
      have hsh : w.shape? en.blk = some (t, cur.size) := by
        unfold World.shape?
        rw [hg]
      simp [convert, run_underlying h1, run_underlying h2, markStringish, hblk, hsh]
    · simp at h

def hconvInt (k : IntKind) : HV → Option HV
  | .int _ n => some (.int k (wr k n))
  | _ => none

theorem hconvInt_sound (E : Emb β hs w) {src dst : TypeId} {d : TypeDesc} {k : IntKind} {x v : HV} {u : Value} (h1 : P.underlying src = some d) (h2 : P.underlying dst = some (.int k)) (hx : Rel β x u) (h : hconvInt k x = some v) : Out P (convert src dst u) β hs w v hs := by
  unfold hconvInt at h
  split at h
  · simp at h; subst h
    simp only [Rel] at hx; subst hx
    exact Out.same E (by simp [convert, run_underlying h1, run_underlying h2, Conv.intToInt]; rfl) (by simp [Rel, wrap_eq])
  · simp at h

def hconvStr : HV → Option HV
  | .str b => some (.str b)
  | _ => none

theorem hconvStr_sound (E : Emb β hs w) {src dst : TypeId} {d : TypeDesc} {x v : HV} {u : Value} (h1 : P.underlying src = some d) (h2 : P.underlying dst = some .string) (hx : Rel β x u) (h : hconvStr x = some v) : Out P (convert src dst u) β hs w v hs := by
  unfold hconvStr at h
  split at h
  · simp at h; subst h
    have hx0 := hx
    simp only [Rel] at hx; subst hx
    exact Out.same E (by simp only [convert, run_underlying h1, run_underlying h2, Sem.run_bind, Result.andThen_ok]; cases d <;> rfl) hx0
  · simp at h

end
end Go.HL
