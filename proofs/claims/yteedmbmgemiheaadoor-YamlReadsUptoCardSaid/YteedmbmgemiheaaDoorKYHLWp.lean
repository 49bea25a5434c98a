/-
  HL: what must hold ahead of a piece of code, worked out by rewriting: it goes on until a value is wanted that isn't known yet.
-/
import Derived.Test.YteedmbmgemiheaaDoorKYHLSym
import Derived.Test.YteedmbmgemiheaaDoorKYHLStr
import Derived.Test.YteedmbmgemiheaaDoorKYHLDraw
namespace Go.HL
open Go

section
variable (P : Program)

/-- an operation's answer, then the rest. -/
def opK (x : Option (HV × HS)) (dst : Option Nat) (r : List HOper) (fr : List HV) (K : List HV → HS → Prop) : Prop :=
  ∃ v hs', x = some (v, hs') ∧ HL P r (put fr dst v) hs' K

def actK (act : HAct) (dst : Option Nat) (r : List HOper) (fr : List HV) (hs : HS) (K : List HV → HS → Prop) : Prop :=
  act.does P fr hs fun v hs' => HL P r (put fr dst v) hs' K

def guardK (x : Option HV) (want : Bool) (act : HAct) (dst : Option Nat) (r : List HOper) (fr : List HV) (hs : HS) (K : List HV → HS → Prop) : Prop :=
  match x with
  | some (.bool b) => if b = want then actK P act dst r fr hs K else HL P r (put fr dst (.tup [])) hs K
  | some (.tup []) => HL P r (put fr dst (.tup [])) hs K
  | _ => False

def regK (kill : List Nat) (Q : HExit → List HV → HS → Prop) (fr : List HV) (hs : HS) : Prop := Q .normal (killFr kill fr) hs

/-- an open order, put in a row: nothing that looks may stand behind what writes. -/
def drawGo (hos : List HOper) (ps : List (List Nat)) : List Nat → List Nat → Bool
  | [], _ => true
  | i :: r, pend =>
    match hos[i]? with
    | none => false
    | some o =>
      if o.loud then pend.all (fun k => (ps.getD i []).contains k) && drawGo hos ps r pend
      else match o.act with
        | .op q => drawGo hos ps r (if q.looks then i :: pend else pend)
        | _ => false
def drawGet (hos : List HOper) : List Nat → List HOper
  | [] => []
  | i :: r => match hos[i]? with
    | none => []
    | some o => o :: drawGet hos r

def drawGetK (x : Option HOper) (hos : List HOper) (r : List Nat) : List HOper :=
  match x with
  | none => []
  | some o => o :: drawGet hos r

def hwp (ro : Option Nat) : HCode → (HExit → List HV → HS → Prop) → List HV → HS → Prop
  | .skip, Q, fr, hs => Q .normal fr hs
  | .ret, Q, fr, hs => Q .ret fr hs
  | .exit id, Q, fr, hs => Q (.exit id) fr hs
  | .lab, Q, fr, hs => Q .normal fr hs
  | .seq x y, Q, fr, hs => hwp ro x (HThen (hwp ro y Q) Q) fr hs
  | .cond c x y, Q, fr, hs => match c.ev fr with
    | .bool b => if b = true then hwp ro x Q fr hs else hwp ro y Q fr hs
    | _ => False
  | .block id x, Q, fr, hs => hwp ro x (HBlock id Q) fr hs
  | .scope x, Q, fr, hs => hwp ro x Q fr hs
  | .region ops kill, Q, fr, hs => HL P ops fr hs (regK kill Q)
  | .draw ops ord ps kill, Q, fr, hs => if drawGo ops ps ord [] = true then HL P (drawGet ops ord) fr hs (regK kill Q) else HWr P ro (.draw ops ord ps kill) fr hs Q
  | c, Q, fr, hs => HWr P ro c fr hs Q

def condK (ro : Option Nat) (v : HV) (x y : HCode) (Q : HExit → List HV → HS → Prop) (fr : List HV) (hs : HS) : Prop :=
  match v with
  | .bool b => if b = true then hwp P ro x Q fr hs else hwp P ro y Q fr hs
  | _ => False
end

section
variable {P : Program}
theorem HThen.mono {A A' : List HV → HS → Prop} {Q : HExit → List HV → HS → Prop} (h : ∀ fr hs, A fr hs → A' fr hs) (e : HExit) (fr : List HV) (hs : HS) (hq : HThen A Q e fr hs) : HThen A' Q e fr hs := by
  cases e with
  | normal => exact h _ _ hq
  | exit id => exact hq
  | ret => exact hq

theorem draw_of_row {hos : List HOper} {ps : List (List Nat)} {K : List HV → HS → Prop} : ∀ {ord pi : List Nat} {pend : List Pend} {fr : List HV} {hs : HS}, drawGo hos ps ord pi = true → (∀ p ∈ pend, p.2.2.2 ∈ pi) →
    HL P (drawGet hos ord) fr hs K → DR P hos ps ord pend fr hs K
  | [], _, _, _, _, _, _, h => h
  | i :: r, pi, pend, fr, hs, hd, hp, h => by
    unfold drawGo at hd
    unfold drawGet at h
    unfold DR
    cases ho : hos[i]? with
    | none => rw [ho] at hd; simp at hd
    | some o =>
      rw [ho] at hd h
      simp only at hd h ⊢
      obtain ⟨b, hw, hb⟩ := h
      refine ⟨b, hw, ?_⟩
      by_cases hl : o.loud = true
      · rw [if_pos hl] at hd
        simp only [Bool.and_eq_true, List.all_eq_true] at hd
        cases b with
        | true =>
          simp only [if_true] at hb ⊢
          rw [if_pos hl]
          refine HAct.does_mono hb fun v hs' h => ⟨?_, draw_of_row hd.2 hp h⟩
          have : ∀ l : List Pend, (∀ p ∈ l, p.2.2.2 ∈ pi) → Holds ps i hs' l := by
            intro l
            induction l with
            | nil => intro _; trivial
            | cons p l ih =>
              intro hl
              refine ⟨fun hc => ?_, ih fun q hq => hl q (by simp [hq])⟩
              have := hd.1 _ (hl p (by simp))
              rw [this] at hc
              simp at hc
          exact this pend hp
        | false =>
          simp only [Bool.false_eq_true, if_false] at hb ⊢
          exact draw_of_row hd.2 hp hb
      · rw [if_neg hl] at hd
        split at hd
        · rename_i q hq
          cases b with
          | true =>
            simp only [if_true] at hb ⊢
            rw [if_neg hl, hq]
            rw [hq] at hb
            obtain ⟨v, hs', h1, h2⟩ := hb
            have hlq : q.loud = false := by
              have : o.loud = false := by simpa using hl
              simpa [HOper.loud, hq] using this
            obtain rfl := hop_quiet hlq h1
            refine ⟨v, h1, draw_of_row hd (fun p hp' => ?_) h2⟩
            split at hp'
            · rename_i hk
              rw [if_pos hk]
              rcases List.mem_cons.1 hp' with rfl | h
              · simp
              · exact List.mem_cons_of_mem _ (hp p h)
            · rename_i hk
              rw [if_neg hk]
              exact hp p hp'
          | false =>
            simp only [Bool.false_eq_true, if_false] at hb ⊢
            refine draw_of_row (pi := if q.looks = true then i :: pi else pi) hd (fun p hp' => ?_) hb
            split
            · exact List.mem_cons_of_mem _ (hp p hp')
            · exact hp p hp'
        · simp at hd

theorem hwp_sound (hm : P.follows .mixedOrders = true) {ro : Option Nat} : ∀ {c : HCode} {Q : HExit → List HV → HS → Prop} {fr : List HV} {hs : HS}, hwp P ro c Q fr hs → HWr P ro c fr hs Q
  | .skip, _, _, _, h => HW.skip h
  | .ret, _, _, _, h => HW.ret h
  | .exit _, _, _, _, h => HW.exit h
  | .lab, _, _, _, h => HW.lab h
  | .seq x y, Q, fr, hs, h => HW.seq ((hwp_sound hm (c := x) h).mono fun e fr hs hq => HThen.mono (fun _ _ h => hwp_sound hm (c := y) h) e fr hs hq)
  | .cond c x y, Q, fr, hs, h => by
    simp only [hwp] at h
    split at h
    · rename_i b hb
      refine HW.cond hb ?_
      cases b
      · exact hwp_sound hm (c := y) h
      · exact hwp_sound hm (c := x) h
    · exact h.elim
  | .block _ x, _, _, _, h => HW.block (hwp_sound hm (c := x) h)
  | .scope x, _, _, _, h => HW.scope (hwp_sound hm (c := x) h)
  | .region _ _, _, _, _, h => HW.region h
  | .draw ops ord ps kill, Q, fr, hs, h => by
    simp only [hwp] at h
    split at h
    · rename_i hd
      exact HW.draw hm (draw_of_row hd (fun p hp => by simp at hp) h)
    · exact h
  | .tree .., _, _, _, h => h
  | .loop .., _, _, _, h => h
  | .rangeFunc .., _, _, _, h => h
  | .bad, _, _, _, h => h

/-- a function, by what must hold ahead of its body. -/
theorem HC.wp (hm : P.follows .mixedOrders = true) {f : FuncId} {kills : List (Nat × List Nat)} {fn : Func} {hf : HFn} (h1 : P.funcs[f]? = some fn) (h2 : cFn P kills fn = some hf) {args : List HV} {hs : HS} {Q : HV → HS → Prop}
    (h : hwp P none hf.body (fun e fr hs => e.ended = true ∧ ∃ v, hres hf.res fr hs = some v ∧ Q v hs) (frame0 hf.ntmps args) hs) : HC P f args hs Q :=
  HC.body h1 h2 (hwp_sound hm h)

/-! ### the steps, as equations -/
variable {ro : Option Nat} {Q : HExit → List HV → HS → Prop} {fr : List HV} {hs hs' : HS} {K : List HV → HS → Prop} {r : List HOper} {dst : Option Nat} {act : HAct}
theorem vwp_skip : hwp P ro .skip Q fr hs = Q .normal fr hs := rfl
theorem vwp_ret : hwp P ro .ret Q fr hs = Q .ret fr hs := rfl
theorem vwp_exit {id : Nat} : hwp P ro (.exit id) Q fr hs = Q (.exit id) fr hs := rfl
theorem vwp_lab : hwp P ro .lab Q fr hs = Q .normal fr hs := rfl
theorem vwp_seq {x y : HCode} : hwp P ro (.seq x y) Q fr hs = hwp P ro x (HThen (hwp P ro y Q) Q) fr hs := rfl
theorem vwp_cond {c : HX} {x y : HCode} : hwp P ro (.cond c x y) Q fr hs = condK P ro (c.ev fr) x y Q fr hs := rfl
theorem vwp_block {id : Nat} {x : HCode} : hwp P ro (.block id x) Q fr hs = hwp P ro x (HBlock id Q) fr hs := rfl
theorem vwp_scope {x : HCode} : hwp P ro (.scope x) Q fr hs = hwp P ro x Q fr hs := rfl
theorem vwp_region {ops : List HOper} {kill : List Nat} : hwp P ro (.region ops kill) Q fr hs = HL P ops fr hs (regK kill Q) := rfl
theorem vwp_draw {ops : List HOper} {ord : List Nat} {ps : List (List Nat)} {kill : List Nat} (hd : drawGo ops ps ord [] = true) : hwp P ro (.draw ops ord ps kill) Q fr hs = HL P (drawGet ops ord) fr hs (regK kill Q) := by simp only [hwp]; rw [if_pos hd]
theorem vget_nil {hos : List HOper} : drawGet hos [] = [] := rfl
theorem vget_cons {hos : List HOper} {i : Nat} {ord : List Nat} : drawGet hos (i :: ord) = drawGetK hos[i]? hos ord := by simp only [drawGet, drawGetK]
theorem vget_some {hos : List HOper} {o : HOper} {ord : List Nat} : drawGetK (some o) hos ord = o :: drawGet hos ord := rfl
theorem vwp_range {g : HX} {pp : List Nat} {ca cb : Code} : hwp P ro (.rangeFunc g pp ca cb) Q fr hs = HWr P ro (.rangeFunc g pp ca cb) fr hs Q := rfl
theorem vwp_loop {x : HCode} : hwp P ro (.loop x) Q fr hs = HWr P ro (.loop x) fr hs Q := rfl
theorem vcnd_tt {x y : HCode} : condK P ro (.bool true) x y Q fr hs = hwp P ro x Q fr hs := by simp only [condK, if_true]
theorem vcnd_ff {x y : HCode} : condK P ro (.bool false) x y Q fr hs = hwp P ro y Q fr hs := by simp only [condK, Bool.false_eq_true, if_false]
theorem vthen_normal {A : List HV → HS → Prop} : HThen A Q .normal fr hs = A fr hs := rfl
theorem vthen_ret {A : List HV → HS → Prop} : HThen A Q .ret fr hs = Q .ret fr hs := rfl
theorem vthen_exit {A : List HV → HS → Prop} {id : Nat} : HThen A Q (.exit id) fr hs = Q (.exit id) fr hs := rfl
theorem vblock_normal {id : Nat} : HBlock id Q .normal fr hs = Q .normal fr hs := rfl
theorem vblock_ret {id : Nat} : HBlock id Q .ret fr hs = Q .ret fr hs := rfl
theorem vblock_exit {id id' : Nat} : HBlock id Q (.exit id') fr hs = if id' = id then Q .normal fr hs else Q (.exit id') fr hs := rfl
theorem vreg_nil : regK [] Q fr hs = Q .normal fr hs := rfl
theorem vreg_cons {t : Nat} {kill : List Nat} : regK (t :: kill) Q fr hs = regK kill Q (fr.set t .undef) hs := rfl
theorem vhl_nil : HL P [] fr hs K = K fr hs := rfl
theorem vhl_op : HL P (⟨dst, act, none⟩ :: r) fr hs K = actK P act dst r fr hs K := by
  apply propext
  constructor
  · rintro ⟨b, hb, h⟩
    simp only [wantH] at hb
    simp at hb; subst hb
    exact h
  · intro h; exact ⟨true, rfl, h⟩
theorem vhl_guard {t : Nat} {want : Bool} : HL P (⟨dst, act, some (t, want)⟩ :: r) fr hs K = guardK P fr[t]? want act dst r fr hs K := by
  apply propext
  unfold guardK
  constructor
  · rintro ⟨b, hb, h⟩
    simp only [wantH] at hb
    split at hb
    · rename_i b' hb'
      simp at hb; subst hb
      rw [hb']
      cases b' <;> cases want <;> simpa [actK] using h
    · rename_i hb'
      simp at hb; subst hb
      rw [hb']
      simpa using h
    · simp at hb
  · intro h
    split at h
    · rename_i b hb
      refine ⟨b == want, by simp [wantH, hb], ?_⟩
      cases b <;> cases want <;> simpa [actK] using h
    · rename_i hb
      exact ⟨false, by simp [wantH, hb], by simpa using h⟩
    · exact h.elim
theorem vguard_tt : guardK P (some (.bool true)) true act dst r fr hs K = actK P act dst r fr hs K := by simp only [guardK, if_true]
theorem vguard_ff : guardK P (some (.bool false)) false act dst r fr hs K = actK P act dst r fr hs K := by simp only [guardK, if_true]
theorem vguard_tf : guardK P (some (.bool true)) false act dst r fr hs K = HL P r (put fr dst (.tup [])) hs K := by simp [guardK]
theorem vguard_ft : guardK P (some (.bool false)) true act dst r fr hs K = HL P r (put fr dst (.tup [])) hs K := by simp [guardK]
theorem vguard_no {want : Bool} : guardK P (some (.tup [])) want act dst r fr hs K = HL P r (put fr dst (.tup [])) hs K := by simp only [guardK]
theorem vact_op {q : HOp} : actK P (.op q) dst r fr hs K = opK P (hop q fr hs) dst r fr K := rfl
theorem vop_some {v : HV} : opK P (some (v, hs')) dst r fr K = HL P r (put fr dst v) hs' K := by
  apply propext
  constructor
  · rintro ⟨v', h', e, h⟩
    simp at e; obtain ⟨rfl, rfl⟩ := e
    exact h
  · intro h; exact ⟨_, _, rfl, h⟩

/-- a call by its contract. -/
theorem vcall_of {g : FuncId} {ha : List HX} {hf : HX} {xs : List HV} {R : HV → HS → Prop} (ok : okF P g) (hg : calleeOf (hf.ev fr) (ha.map (HX.ev fr)) = some (g, xs)) (h : HC P g xs hs R)
    (hk : ∀ v hs', R v hs' → HL P r (put fr dst v) hs' K) : actK P (.call hf ha) dst r fr hs K :=
  ⟨.fn g, xs, calleeC_fn hg, .inl ⟨ok, h.mono hk⟩⟩

theorem vput_some {d : Nat} {v : HV} : put fr (some d) v = fr.set d v := rfl
theorem vput_none {v : HV} : put fr none v = fr := rfl
theorem vsame_sm {v : HV} : same hs (some v) = some (v, hs) := rfl
theorem vunit_sm : unit (some hs) = some (.undef, hs) := rfl

/-! ### operations -/
theorem vo_mv {x : HX} : hop (.mv x) fr hs = some (x.ev fr, hs) := rfl
theorem vo_bin {op : BinOp} {k : Option EK} {x y : HX} : hop (.bin op k x y) fr hs = same hs (hbin op k (x.ev fr) (y.ev fr)) := rfl
theorem vo_un {op : UnOp} {x : HX} : hop (.un op x) fr hs = same hs (un op (x.ev fr)) := rfl
theorem vo_ext {i : Nat} {x : HX} : hop (.ext i x) fr hs = same hs (hext i (x.ev fr)) := rfl
theorem vo_len {k : LK} {x : HX} : hop (.len k x) fr hs = same hs (hlenK hs k (x.ev fr)) := rfl
theorem vo_mark {x : HX} : hop (.mark x) fr hs = same hs (hmark hs (x.ev fr)) := rfl
theorem vo_cInt {k : IntKind} {x : HX} : hop (.cInt k x) fr hs = same hs (hconvInt k (x.ev fr)) := rfl
theorem vo_idxS {s : Nat} {x i : HX} : hop (.idxS s x i) fr hs = if sOk hs s (x.ev fr) then same hs (hindexAddr s (x.ev fr) (i.ev fr)) else none := rfl
theorem vo_idxStr {x i : HX} : hop (.idxStr x i) fr hs = same hs (hindexStr (x.ev fr) (i.ev fr)) := rfl
theorem vo_load {n : Option Nat} {x : HX} : hop (.load n x) fr hs = same hs (hload n hs (x.ev fr)) := rfl
theorem vo_store {n : Nat} {a x : HX} : hop (.store n a x) fr hs = unit (hstore n hs (a.ev fr) (x.ev fr)) := rfl
theorem vo_sliceStr {x : HX} {lo hi : Option HX} : hop (.sliceStr x lo hi) fr hs = same hs (hsliceStr (x.ev fr) (lo.map (HX.ev fr)) (hi.map (HX.ev fr))) := rfl
theorem vo_sliceSl {s : Nat} {x : HX} {lo hi mx : Option HX} : hop (.sliceSl s x lo hi mx) fr hs = if sOk hs s (x.ev fr) then same hs (hslice (x.ev fr) (lo.map (HX.ev fr)) (hi.map (HX.ev fr)) (mx.map (HX.ev fr))) else none := rfl
theorem vo_pick {c a b : HX} : hop (.pick c a b) fr hs = match c.ev fr with | .bool t => some (if t then a.ev fr else b.ev fr, hs) | _ => none := rfl
theorem vo_box {x : HX} : hop (.box x) fr hs = hbox hs (x.ev fr) := rfl
theorem vo_build {z : List HV} {ps : List (Nat × Nat × HX)} : hop (.build z ps) fr hs = same hs (hbuild z (evp fr ps)) := rfl
theorem vo_bslice {s len : Nat} {z : List HV} {ps : List (Nat × Nat × HX)} : hop (.bslice s len z ps) fr hs = hbuildSlice hs s len z (evp fr ps) := rfl
theorem vo_append {s bytes : Nat} {x y : HX} : hop (.append s bytes x y) fr hs = happend hs s bytes (x.ev fr) (y.ev fr) := rfl
theorem vo_copy {s : Nat} {x y : HX} : hop (.copy s x y) fr hs = hcopy hs s (x.ev fr) (y.ev fr) := rfl
theorem vo_mkSlice {s bytes : Nat} {z : List HV} {l c : HX} : hop (.mkSlice s bytes z l c) fr hs = hmakeSlice hs s bytes z (l.ev fr) (c.ev fr) := rfl
theorem vo_nilc {x : HX} : hop (.nilc x) fr hs = same hs (hnil (x.ev fr)) := rfl
theorem vo_faddr {o : Nat} {x : HX} : hop (.faddr o x) fr hs = same hs (hfieldAddr o (x.ev fr)) := rfl
theorem vo_s2b {x : HX} : hop (.s2b x) fr hs = hs2b hs (x.ev fr) := rfl
/-! values -/
theorem vlen_str {b : List UInt8} : hlenK hs .str (.str b) = some (.int .i64 (b.length : Nat)) := rfl
theorem vlen_sl {h o len : Nat} {cap : Option Nat} : hlenK hs .slice (.slice h o len cap) = some (.int .i64 (len : Nat)) := rfl
theorem vlen_nil : hlenK hs .slice .nilSlice = some (.int .i64 0) := rfl
theorem vb_lss {k : IntKind} {a b : Int} : hbin .lss none (.int k a) (.int k b) = some (.bool (decide (a < b))) := by simp [hbin, ibin]
theorem vb_leq {k : IntKind} {a b : Int} : hbin .leq none (.int k a) (.int k b) = some (.bool (decide (a ≤ b))) := by simp [hbin, ibin]
theorem vb_gtr {k : IntKind} {a b : Int} : hbin .gtr none (.int k a) (.int k b) = some (.bool (decide (b < a))) := by simp [hbin, ibin]
theorem vb_geq {k : IntKind} {a b : Int} : hbin .geq none (.int k a) (.int k b) = some (.bool (decide (b ≤ a))) := by simp [hbin, ibin]
theorem vb_eql {e : Option EK} {k : IntKind} {a b : Int} : hbin .eql e (.int k a) (.int k b) = some (.bool (decide (a = b))) := by simp [hbin, ibin]; rw [Bool.eq_iff_iff]; simp
theorem vb_neq {e : Option EK} {k : IntKind} {a b : Int} : hbin .neq e (.int k a) (.int k b) = some (.bool (!decide (a = b))) := by simp [hbin, ibin]; rw [Bool.eq_iff_iff]; simp
theorem vb_add {k : IntKind} {a b : Int} : hbin .add none (.int k a) (.int k b) = some (.int k (wr k (a + b))) := by simp [hbin, ibin]
theorem vb_sub {k : IntKind} {a b : Int} : hbin .sub none (.int k a) (.int k b) = some (.int k (wr k (a - b))) := by simp [hbin, ibin]
theorem vb_seql {e : Option EK} {a b : List UInt8} : hbin .eql e (.str a) (.str b) = some (.bool (a == b)) := rfl
theorem vb_sneq {e : Option EK} {a b : List UInt8} : hbin .neq e (.str a) (.str b) = some (.bool !(a == b)) := rfl
theorem vb_beql {a b : Bool} : hbin .eql (some .bool) (.bool a) (.bool b) = some (.bool (a == b)) := rfl
theorem vb_bneq {a b : Bool} : hbin .neq (some .bool) (.bool a) (.bool b) = some (.bool (!(a == b))) := rfl
theorem vwr_i64 {x : Int} (h : -9223372036854775808 ≤ x ∧ x < 9223372036854775808) : wr .i64 x = x := by simp only [wr]; omega
theorem vun_not {b : Bool} : un .not (.bool b) = some (.bool (!b)) := rfl
theorem vext_tup {vs : List HV} {i : Nat} : hext i (.tup vs) = vs[i]? := rfl
theorem vidx_some {s h o len : Nat} {cap : Option Nat} {k : IntKind} {i : Nat} (hi : i < len) : hindexAddr s (.slice h o len cap) (.int k (i : Nat)) = some (.ptr h ((o + i) * s)) := by
  simp only [hindexAddr]; rw [if_pos (by omega)]; simp
theorem vidxStr_some {b : List UInt8} {k : IntKind} {i : Nat} {c : UInt8} (hi : b[i]? = some c) : hindexStr (.str b) (.int k (i : Nat)) = some (.int .u8 c.toNat) := by
  simp [hindexStr, hi]
theorem vadd1 {i : Nat} (h : i < 9223372036854775807) : hbin .add none (.int .i64 (i : Nat)) (.int .i64 1) = some (.int .i64 ((i + 1 : Nat) : Int)) := by
  rw [vb_add, vwr_i64 (by omega)]; simp
theorem vaddn {i j : Nat} (h : i + j < 9223372036854775808) : hbin .add none (.int .i64 (i : Nat)) (.int .i64 (j : Nat)) = some (.int .i64 ((i + j : Nat) : Int)) := by
  rw [vb_add, vwr_i64 (by omega)]; simp

/-- bytes to a string. -/
def b2sK (hs : HS) : HV → Option (HV × HS)
  | .str _ => none
  | v => same hs (hb2s hs v)
theorem vo_b2s {x : HX} : hop (.b2s x) fr hs = b2sK hs (x.ev fr) := by
  simp only [hop]
  cases x.ev fr <;> rfl
theorem vb2s_sl {h o len : Nat} {cap : Option Nat} : b2sK hs (.slice h o len cap) = same hs (hb2s hs (.slice h o len cap)) := rfl
theorem vb2s_nil : b2sK hs .nilSlice = some (.str [], hs) := rfl
theorem vsadd {a b : List UInt8} (h : a.length + b.length ≤ 9223372036854775807) : hbin .add none (.str a) (.str b) = some (.str (a ++ b)) := by
  have : hbin .add none (.str a) (.str b) = if a.length + b.length ≤ maxLen then some (.str (a ++ b)) else none := rfl
  rw [this, if_pos (show a.length + b.length ≤ maxLen from h)]
theorem vcInt {k j : IntKind} {n : Int} : hconvInt k (.int j n) = some (.int k (wr k n)) := rfl
theorem vnil_ptr {h o : Nat} : hnil (.ptr h o) = some (.ptr h o) := rfl
theorem vfaddr_ptr {k h o : Nat} : hfieldAddr k (.ptr h o) = some (.ptr h (o + k)) := rfl
theorem vo_mkfn {fn : Fn} {a b : List HX} : hop (.mkfn fn a b) fr hs = some (.func fn (a.map (HX.ev fr)) (b.map (HX.ev fr)), hs) := rfl
theorem vo_mkMap : hop .mkMap fr hs = hmakeMap hs := rfl
theorem vo_lookup {kk : KK} {z : HV} {ok : Bool} {m k : HX} : hop (.lookup kk z ok m k) fr hs = same hs (hlookup hs kk z ok (m.ev fr) (k.ev fr)) := rfl
theorem vo_mapUpd {kk : KK} {m k v : HX} : hop (.mapUpd kk m k v) fr hs = unit (hmapUpdate hs kk (m.ev fr) (k.ev fr) (v.ev fr)) := rfl
/-- of a deletion. -/
def delK (x : Option HS) : Option (HV × HS) := x.map fun hs => (.tup [], hs)
theorem vo_del {kk : KK} {m k : HX} : hop (.del kk m k) fr hs = delK (hdelete hs kk (m.ev fr) (k.ev fr)) := rfl
theorem vdel_some : delK (some hs) = some (.tup [], hs) := rfl
theorem vo_rangeMap {x : HX} : hop (.rangeMap x) fr hs = hrangeMap hs (x.ev fr) := rfl
theorem vo_entry {x : HX} : hop (.entry x) fr hs = same hs (hentry hs (x.ev fr)) := rfl
theorem vsubn {i j : Nat} (h : j ≤ i ∧ i < 9223372036854775808) : hbin .sub none (.int .i64 (i : Nat)) (.int .i64 (j : Nat)) = some (.int .i64 ((i - j : Nat) : Int)) := by
  rw [vb_sub, vwr_i64 (by omega)]; simp; omega
/-! ### an open order, step by step -/
section
variable {hos : List HOper} {ps : List (List Nat)} {i : Nat} {rr : List Nat} {pend : List Pend}
def drK (P : Program) (hos : List HOper) (ps : List (List Nat)) (i : Nat) (r : List Nat) (pend : List Pend) (fr : List HV) (hs : HS) (K : List HV → HS → Prop) : Option HOper → Prop
  | none => False
  | some o =>
      ∃ b, wantH o.guard fr = some b ∧
        if b then
          if o.loud then o.act.does P fr hs fun v hs' => Holds ps i hs' pend ∧ DR P hos ps r pend (put fr o.dst v) hs' K
          else match o.act with
            | .op q => ∃ v, hop q fr hs = some (v, hs) ∧ DR P hos ps r (if q.looks then (q, fr, v, i) :: pend else pend) (put fr o.dst v) hs K
            | _ => False
        else DR P hos ps r pend (put fr o.dst (.tup [])) hs K
def drQ (P : Program) (hos : List HOper) (ps : List (List Nat)) (i : Nat) (r : List Nat) (pend : List Pend) (fr : List HV) (hs : HS) (K : List HV → HS → Prop) (q : HOp) (dst : Option Nat) (x : Option (HV × HS)) : Prop :=
  ∃ v, x = some (v, hs) ∧ DR P hos ps r (if q.looks = true then (q, fr, v, i) :: pend else pend) (put fr dst v) hs K
def drL (P : Program) (hos : List HOper) (ps : List (List Nat)) (i : Nat) (r : List Nat) (pend : List Pend) (fr : List HV) (K : List HV → HS → Prop) (dst : Option Nat) (x : Option (HV × HS)) : Prop :=
  ∃ v hs', x = some (v, hs') ∧ Holds ps i hs' pend ∧ DR P hos ps r pend (put fr dst v) hs' K
theorem vdr_nil : DR P hos ps [] pend fr hs K = K fr hs := rfl
theorem vdr_cons : DR P hos ps (i :: rr) pend fr hs K = drK P hos ps i rr pend fr hs K hos[i]? := by
  simp only [DR]
  cases hos[i]? <;> rfl
theorem vdr_op {q : HOp} (hl : q.loud = false) : drK P hos ps i rr pend fr hs K (some ⟨dst, .op q, none⟩) = drQ P hos ps i rr pend fr hs K q dst (hop q fr hs) := by
  apply propext
  simp only [drK, drQ, wantH, HOper.loud, hl]
  constructor
  · rintro ⟨b, hb, h⟩
    simp at hb; subst hb
    simpa using h
  · intro h
    exact ⟨true, rfl, by simpa using h⟩
theorem vdr_some {q : HOp} {v : HV} : drQ P hos ps i rr pend fr hs K q dst (some (v, hs)) = DR P hos ps rr (if q.looks = true then (q, fr, v, i) :: pend else pend) (put fr dst v) hs K := by
  apply propext
  constructor
  · rintro ⟨v', e, h⟩
    simp at e; subst e
    exact h
  · intro h; exact ⟨v, rfl, h⟩
theorem vdr_loud {q : HOp} (hl : q.loud = true) : drK P hos ps i rr pend fr hs K (some ⟨dst, .op q, none⟩) = drL P hos ps i rr pend fr K dst (hop q fr hs) := by
  apply propext
  simp only [drK, drL, wantH, HOper.loud, hl]
  constructor
  · rintro ⟨b, hb, h⟩
    simp at hb; subst hb
    simpa [HAct.does] using h
  · intro h
    exact ⟨true, rfl, by simpa [HAct.does] using h⟩
theorem vdr_lsome {v : HV} : drL P hos ps i rr pend fr K dst (some (v, hs')) = (Holds ps i hs' pend ∧ DR P hos ps rr pend (put fr dst v) hs' K) := by
  apply propext
  constructor
  · rintro ⟨v', h', e, h⟩
    simp at e; obtain ⟨rfl, rfl⟩ := e
    exact h
  · intro h; exact ⟨_, _, rfl, h⟩
theorem vdr_call {g : FuncId} {ha : List HX} {hf : HX} {xs : List HV} {R : HV → HS → Prop} (ok : okF P g) (hg : calleeOf (hf.ev fr) (ha.map (HX.ev fr)) = some (g, xs)) (h : HC P g xs hs R)
    (hk : ∀ v hs', R v hs' → Holds ps i hs' pend ∧ DR P hos ps rr pend (put fr dst v) hs' K) : drK P hos ps i rr pend fr hs K (some ⟨dst, .call hf ha, none⟩) := by
  refine ⟨true, rfl, ?_⟩
  simp only [if_true, HOper.loud]
  exact ⟨.fn g, xs, calleeC_fn hg, .inl ⟨ok, h.mono hk⟩⟩
theorem vholds_nil : Holds ps i hs [] = True := rfl
theorem vholds_cons {p : Pend} : Holds ps i hs (p :: pend) = (((ps.getD i []).contains p.2.2.2 = false → hop p.1 p.2.1 hs = some (p.2.2.1, hs)) ∧ Holds ps i hs pend) := rfl
end
theorem hwp_draw (hm : P.follows .mixedOrders = true) {ops : List HOper} {ord : List Nat} {ps : List (List Nat)} {kill : List Nat} (hd : drawGo ops ps ord [] = false) (h : DR P ops ps ord [] fr hs (regK kill Q)) : hwp P ro (.draw ops ord ps kill) Q fr hs := by
  simp only [hwp, hd]
  exact HW.draw hm h

/-- a loop, by states: each round starts at a state's frame and heap. -/
theorem HW.loopS (hm : P.follows .mixedOrders = true) {σ : Type} (base : σ → List HV) (heap : σ → HS) (m : σ → Nat) (J : σ → Prop) {x : HCode} (s0 : σ) (j0 : J s0) (hh : hs = heap s0) (h0 : Less (base s0) fr)
    (round : ∀ s, J s → hwp P ro x (HThen (fun fr' hs' => ∃ s', m s' < m s ∧ J s' ∧ hs' = heap s' ∧ Less (base s') fr') Q) (base s) (heap s)) : HWr P ro (.loop x) fr hs Q := by
  refine HW.loop (fun n fr hs => ∃ s, n = m s ∧ J s ∧ hs = heap s ∧ Less (base s) fr) (m s0) ⟨s0, rfl, j0, hh, h0⟩ ?_
  rintro n fr hs ⟨s, rfl, hj, rfl, hl⟩
  refine (HW.less hl (hwp_sound hm (round s hj))).mono fun e fr' hs' hq => HThen.mono (fun fr hs h => ?_) e fr' hs' hq
  obtain ⟨s', h1, h2, h3, h4⟩ := h
  exact ⟨m s', h1, s', rfl, h2, h3, h4⟩
end
end Go.HL
