/-
  HL: walks over memory in parts.
-/
import Derived.Test.YteedmbmgemiheaaDoorKYHLRd
namespace Go.HL
open Go

/-- a memory of which less is known. -/
def Weak (hs hs2 : HS) : Prop := hs2.length = hs.length ∧ ∀ (β : List Ent) (w : World), Emb β hs w → Emb β hs2 w ∧ ∀ k, Own β hs2 k → Own β hs k
theorem Weak.refl (hs : HS) : Weak hs hs := ⟨rfl, fun _ _ E => ⟨E, fun _ h => h⟩⟩
theorem Weak.trans {a b c : HS} (h : Weak a b) (h' : Weak b c) : Weak a c := ⟨h'.1.trans h.1, fun β w E => by
  obtain ⟨E1, o1⟩ := h.2 β w E
  obtain ⟨E2, o2⟩ := h'.2 β w E1
  exact ⟨E2, fun k hk => o1 k (o2 k hk)⟩⟩
theorem Weak.step {hs hs2 : HS} (h : Weak hs hs2) {β : List Ent} {w : World} (E : Emb β hs w) : Step β hs w β hs2 w := by
  obtain ⟨E2, o⟩ := h.2 β w E
  exact ⟨Ext.refl _, E2, Nat.le_refl _, fun _ _ _ => rfl, fun k _ hk => o k hk, rfl, rfl, rfl, fun _ _ hl he => absurd (lt_of_get he) (by omega)⟩
theorem Weak.of {hs hs2 : HS} (hl : hs2.length = hs.length) (h : ∀ (β : List Ent) (w : World), Emb β hs w → Step β hs w β hs2 w) : Weak hs hs2 := by
  refine ⟨hl, fun β w E => ⟨(h β w E).emb, ?_⟩⟩
  rintro k hk
  have S := h β w E
  obtain ⟨i, e, b, h1, h2, h3, h4⟩ := hk
  exact S.own k (by rw [← h4]; exact (S.emb.blk i e b h1 h2).lt) ⟨i, e, b, h1, h2, h3, h4⟩
/-- what is one's own is written no more. -/
theorem weak_ro {hs : HS} {h s : Nat} {cs : List HV} {opn : Bool} {olds : List Nat} (hb : hs[h]? = some (some (.cells s cs false opn olds))) : Weak hs (hs.set h (some (.cells s cs true opn []))) :=
  Weak.of (by simp) fun _ _ E => Step.toRo E hb

/-- a goal ahead of which facts are wanted. -/
def Need (p : Prop) : Prop := p
theorem need {p : Prop} (h : Need p) : p := h
theorem need_of {p : Prop} (h : p) : Need p := h
namespace Sat
variable {hs : HS} {l : List SA} {s n : Nat} {v : HV} {xs : List HV} {A B C D E F G I J : SA}
theorem fx (H : Sat hs (My s v n xs :: l)) : hlenK hs .slice v = some (.int .i64 (n : Nat)) ∧ takeCells hs s v = some (n, xs) ∧ HL.sOk hs s v = true ∧ v.one = true ∧ v.cells = [v] := ⟨H.rd.len hs, H.rd.take, H.rd.sOk, H.rd.one, H.rd.cells⟩
theorem p2 (h : Sat hs (A :: B :: C :: l)) : Sat hs (C :: A :: B :: l) := Sat.p1 (h.perm (.cons A (.swap _ _ _)))
theorem p3 (h : Sat hs (A :: B :: C :: D :: l)) : Sat hs (D :: A :: B :: C :: l) := p2 (h.perm (.cons A (.cons B (.swap _ _ _))))
theorem p4 (h : Sat hs (A :: B :: C :: D :: E :: l)) : Sat hs (E :: A :: B :: C :: D :: l) := p3 (h.perm (.cons A (.cons B (.cons C (.swap _ _ _)))))
theorem p5 (h : Sat hs (A :: B :: C :: D :: E :: F :: l)) : Sat hs (F :: A :: B :: C :: D :: E :: l) := p4 (h.perm (.cons A (.cons B (.cons C (.cons D (.swap _ _ _))))))
theorem p6 (h : Sat hs (A :: B :: C :: D :: E :: F :: G :: l)) : Sat hs (G :: A :: B :: C :: D :: E :: F :: l) := p5 (h.perm (.cons A (.cons B (.cons C (.cons D (.cons E (.swap _ _ _)))))))
theorem p7 (h : Sat hs (A :: B :: C :: D :: E :: F :: G :: I :: l)) : Sat hs (I :: A :: B :: C :: D :: E :: F :: G :: l) := p6 (h.perm (.cons A (.cons B (.cons C (.cons D (.cons E (.cons F (.swap _ _ _))))))))
theorem p8 (h : Sat hs (A :: B :: C :: D :: E :: F :: G :: I :: J :: l)) : Sat hs (J :: A :: B :: C :: D :: E :: F :: G :: I :: l) := p7 (h.perm (.cons A (.cons B (.cons C (.cons D (.cons E (.cons F (.cons G (.swap _ _ _)))))))))
theorem p9 {A B C D E F G I J K : SA} (h : Sat hs (A :: B :: C :: D :: E :: F :: G :: I :: J :: K :: l)) : Sat hs (K :: A :: B :: C :: D :: E :: F :: G :: I :: J :: l) := p8 (h.perm (.cons A (.cons B (.cons C (.cons D (.cons E (.cons F (.cons G (.cons I (.swap _ _ _))))))))))
theorem p10 {A B C D E F G I J K L : SA} (h : Sat hs (A :: B :: C :: D :: E :: F :: G :: I :: J :: K :: L :: l)) : Sat hs (L :: A :: B :: C :: D :: E :: F :: G :: I :: J :: K :: l) := p9 (h.perm (.cons A (.cons B (.cons C (.cons D (.cons E (.cons F (.cons G (.cons I (.cons J (.swap _ _ _)))))))))))
theorem p11 {A B C D E F G I J K L M : SA} (h : Sat hs (A :: B :: C :: D :: E :: F :: G :: I :: J :: K :: L :: M :: l)) : Sat hs (M :: A :: B :: C :: D :: E :: F :: G :: I :: J :: K :: L :: l) := p10 (h.perm (.cons A (.cons B (.cons C (.cons D (.cons E (.cons F (.cons G (.cons I (.cons J (.cons K (.swap _ _ _))))))))))))
theorem p12 {A B C D E F G I J K L M N : SA} (h : Sat hs (A :: B :: C :: D :: E :: F :: G :: I :: J :: K :: L :: M :: N :: l)) : Sat hs (N :: A :: B :: C :: D :: E :: F :: G :: I :: J :: K :: L :: M :: l) := p11 (h.perm (.cons A (.cons B (.cons C (.cons D (.cons E (.cons F (.cons G (.cons I (.cons J (.cons K (.cons L (.swap _ _ _)))))))))))))
theorem p13 {A B C D E F G I J K L M N O : SA} (h : Sat hs (A :: B :: C :: D :: E :: F :: G :: I :: J :: K :: L :: M :: N :: O :: l)) : Sat hs (O :: A :: B :: C :: D :: E :: F :: G :: I :: J :: K :: L :: M :: N :: l) := p12 (h.perm (.cons A (.cons B (.cons C (.cons D (.cons E (.cons F (.cons G (.cons I (.cons J (.cons K (.cons L (.cons M (.swap _ _ _))))))))))))))
theorem d1 (h : Sat hs (A :: B :: l)) : Sat hs (A :: l) := h.p1.t
end Sat
theorem va_capN : capZ none = false := rfl
theorem va_cap0 : capZ (some 0) = true := rfl
theorem va_a2 {i : Nat} (h : i + 2 < 9223372036854775808) : hbin .add none (.int .i64 (i : Nat)) (.int .i64 2) = some (.int .i64 ((i + 2 : Nat) : Int)) := vaddn (j := 2) h
theorem va_m2 {i : Nat} (h : 2 ≤ i ∧ i < 9223372036854775808) : hbin .sub none (.int .i64 (i : Nat)) (.int .i64 2) = some (.int .i64 ((i - 2 : Nat) : Int)) := vsubn (j := 2) h
theorem va_a3 {i : Nat} (h : i + 3 < 9223372036854775808) : hbin .add none (.int .i64 (i : Nat)) (.int .i64 3) = some (.int .i64 ((i + 3 : Nat) : Int)) := vaddn (j := 3) h
theorem va_m3 {i : Nat} (h : 3 ≤ i ∧ i < 9223372036854775808) : hbin .sub none (.int .i64 (i : Nat)) (.int .i64 3) = some (.int .i64 ((i - 3 : Nat) : Int)) := vsubn (j := 3) h
theorem va_a4 {i : Nat} (h : i + 4 < 9223372036854775808) : hbin .add none (.int .i64 (i : Nat)) (.int .i64 4) = some (.int .i64 ((i + 4 : Nat) : Int)) := vaddn (j := 4) h
theorem va_m4 {i : Nat} (h : 4 ≤ i ∧ i < 9223372036854775808) : hbin .sub none (.int .i64 (i : Nat)) (.int .i64 4) = some (.int .i64 ((i - 4 : Nat) : Int)) := vsubn (j := 4) h
theorem va_a5 {i : Nat} (h : i + 5 < 9223372036854775808) : hbin .add none (.int .i64 (i : Nat)) (.int .i64 5) = some (.int .i64 ((i + 5 : Nat) : Int)) := vaddn (j := 5) h
theorem va_m5 {i : Nat} (h : 5 ≤ i ∧ i < 9223372036854775808) : hbin .sub none (.int .i64 (i : Nat)) (.int .i64 5) = some (.int .i64 ((i - 5 : Nat) : Int)) := vsubn (j := 5) h
theorem va_a6 {i : Nat} (h : i + 6 < 9223372036854775808) : hbin .add none (.int .i64 (i : Nat)) (.int .i64 6) = some (.int .i64 ((i + 6 : Nat) : Int)) := vaddn (j := 6) h
theorem va_m6 {i : Nat} (h : 6 ≤ i ∧ i < 9223372036854775808) : hbin .sub none (.int .i64 (i : Nat)) (.int .i64 6) = some (.int .i64 ((i - 6 : Nat) : Int)) := vsubn (j := 6) h
theorem va_a7 {i : Nat} (h : i + 7 < 9223372036854775808) : hbin .add none (.int .i64 (i : Nat)) (.int .i64 7) = some (.int .i64 ((i + 7 : Nat) : Int)) := vaddn (j := 7) h
theorem va_m7 {i : Nat} (h : 7 ≤ i ∧ i < 9223372036854775808) : hbin .sub none (.int .i64 (i : Nat)) (.int .i64 7) = some (.int .i64 ((i - 7 : Nat) : Int)) := vsubn (j := 7) h
theorem va_a8 {i : Nat} (h : i + 8 < 9223372036854775808) : hbin .add none (.int .i64 (i : Nat)) (.int .i64 8) = some (.int .i64 ((i + 8 : Nat) : Int)) := vaddn (j := 8) h
theorem va_m8 {i : Nat} (h : 8 ≤ i ∧ i < 9223372036854775808) : hbin .sub none (.int .i64 (i : Nat)) (.int .i64 8) = some (.int .i64 ((i - 8 : Nat) : Int)) := vsubn (j := 8) h
theorem va_a10 {i : Nat} (h : i + 10 < 9223372036854775808) : hbin .add none (.int .i64 (i : Nat)) (.int .i64 10) = some (.int .i64 ((i + 10 : Nat) : Int)) := vaddn (j := 10) h
theorem va_m10 {i : Nat} (h : 10 ≤ i ∧ i < 9223372036854775808) : hbin .sub none (.int .i64 (i : Nat)) (.int .i64 10) = some (.int .i64 ((i - 10 : Nat) : Int)) := vsubn (j := 10) h
theorem va_a16 {i : Nat} (h : i + 16 < 9223372036854775808) : hbin .add none (.int .i64 (i : Nat)) (.int .i64 16) = some (.int .i64 ((i + 16 : Nat) : Int)) := vaddn (j := 16) h
theorem va_m16 {i : Nat} (h : 16 ≤ i ∧ i < 9223372036854775808) : hbin .sub none (.int .i64 (i : Nat)) (.int .i64 16) = some (.int .i64 ((i - 16 : Nat) : Int)) := vsubn (j := 16) h
theorem va_a40 {i : Nat} (h : i + 40 < 9223372036854775808) : hbin .add none (.int .i64 (i : Nat)) (.int .i64 40) = some (.int .i64 ((i + 40 : Nat) : Int)) := vaddn (j := 40) h
theorem va_m40 {i : Nat} (h : 40 ≤ i ∧ i < 9223372036854775808) : hbin .sub none (.int .i64 (i : Nat)) (.int .i64 40) = some (.int .i64 ((i - 40 : Nat) : Int)) := vsubn (j := 40) h
theorem va_a64 {i : Nat} (h : i + 64 < 9223372036854775808) : hbin .add none (.int .i64 (i : Nat)) (.int .i64 64) = some (.int .i64 ((i + 64 : Nat) : Int)) := vaddn (j := 64) h
theorem va_m64 {i : Nat} (h : 64 ≤ i ∧ i < 9223372036854775808) : hbin .sub none (.int .i64 (i : Nat)) (.int .i64 64) = some (.int .i64 ((i - 64 : Nat) : Int)) := vsubn (j := 64) h
/-- a part for each element. -/
def each {α : Type} (P : α → SA) (L : List α) : SA := grp (L.map P)
namespace Sat
variable {hs : HS} {l : List SA} {α : Type} {P : α → SA} {L L2 : List α} {x y : α} {i : Nat}
end Sat

variable {P : Program}
theorem HC.weak {f : FuncId} {args : List HV} {hs : HS} {Q : HV → HS → Prop} (h : HC P f args hs fun v hs' => ∃ hs2, Weak hs' hs2 ∧ Q v hs2) : HC P f args hs Q := by
  intro β w us E R
  refine (h β w us E R).mono ?_
  rintro e w' ⟨β', u, v, hs', he, ⟨hs2, hw, hq⟩, hr, S⟩
  exact ⟨β', u, v, hs2, he, hq, hr, S.trans (hw.step S.emb)⟩
theorem HWr.weak {ro : Option Nat} {x : HCode} {fr : List HV} {hs hs2 : HS} {Q : HExit → List HV → HS → Prop} (hw : Weak hs hs2) (h : HWr P ro x fr hs2 Q) : HWr P ro x fr hs Q := by
  intro k c hc ds β a w rb hr0 E F
  have S := hw.step E
  refine Code.wpIn_mono ?_ (h k c hc ds β a w rb hr0 S.emb F)
  rintro e a1 w1 ⟨he, β1, fr1, hs1, h1, h2, ⟨ds1, ms1, F1, M1⟩, S1⟩
  exact ⟨he, β1, fr1, hs1, h1, h2, ⟨ds1, ms1, F1, M1⟩, S.trans S1⟩
/-- a loop by states; a round's end may know less. -/
theorem HW.loopA (hm : P.follows .mixedOrders = true) {ro : Option Nat} {x : HCode} {fr : List HV} {hs : HS} {Q : HExit → List HV → HS → Prop} {σ : Type} (base : σ → List HV) (A : σ → List SA) (m : σ → Nat) (J : σ → Prop) (s0 : σ) (j0 : J s0) (h0 : Less (base s0) fr) (a0 : Sat hs (A s0))
    (round : ∀ s hs, J s → Sat hs (A s) → hwp P ro x (HThen (fun fr' hs' => ∃ s' hs2, m s' < m s ∧ J s' ∧ Less (base s') fr' ∧ Weak hs' hs2 ∧ Sat hs2 (A s')) Q) (base s) hs) : HWr P ro (.loop x) fr hs Q := by
  refine HW.loop (fun n fr hs => ∃ s hs2, n = m s ∧ J s ∧ Less (base s) fr ∧ Weak hs hs2 ∧ Sat hs2 (A s)) (m s0) ⟨s0, hs, rfl, j0, h0, Weak.refl _, a0⟩ ?_
  rintro n fr hs ⟨s, hs2, rfl, j, h1, hw, a⟩
  refine HWr.weak hw (HW.less h1 ((hwp_sound hm (round s hs2 j a)).mono ?_))
  intro e fr' hs' h
  cases e with
  | normal =>
    obtain ⟨s', hs3, g1, g2, g3, g4, g5⟩ := h
    exact ⟨m s', g1, s', hs3, rfl, g2, g3, g4, g5⟩
  | exit id => exact h
  | ret => exact h
/-- a loop that turns nothing in memory. -/
theorem HW.loopR (hm : P.follows .mixedOrders = true) {ro : Option Nat} {x : HCode} {fr : List HV} {hs : HS} {Q : HExit → List HV → HS → Prop} {σ : Type} (base : σ → List HV) (m : σ → Nat) (J : σ → Prop) (s0 : σ) (j0 : J s0) (h0 : Less (base s0) fr)
    (round : ∀ s, J s → hwp P ro x (HThen (fun fr' hs' => ∃ s', m s' < m s ∧ J s' ∧ hs' = hs ∧ Less (base s') fr') Q) (base s) hs) : HWr P ro (.loop x) fr hs Q :=
  HW.loopS hm base (fun _ => hs) m J s0 j0 rfl h0 round

section
variable {ro : Option Nat} {Q : HExit → List HV → HS → Prop} {fr : List HV} {hs : HS} {K : List HV → HS → Prop} {r : List HOper} {dst : Option Nat} {s h k n : Nat} {cs : List HV} {opn : Bool} {olds : List Nat} {x : HV} {l : List SA}
variable {hos : List HOper} {ps : List (List Nat)} {i : Nat} {rr : List Nat} {pend : List Pend}
theorem cl_int {k : IntKind} {n : Int} : HV.cells (.int k n) = [.int k n] := rfl
theorem cl_str {b : List UInt8} : HV.cells (.str b) = [.str b] := rfl
theorem cl_bool {b : Bool} : HV.cells (.bool b) = [.bool b] := rfl
theorem cl_ptr {h o : Nat} : HV.cells (.ptr h o) = [.ptr h o] := rfl
theorem cl_nptr  : HV.cells (.nilPtr) = [.nilPtr] := rfl
theorem cl_sl {h o n : Nat} {c : Option Nat} : HV.cells (.slice h o n c) = [.slice h o n c] := rfl
theorem cl_nsl  : HV.cells (.nilSlice) = [.nilSlice] := rfl
theorem cl_map {h : Nat} : HV.cells (.map h) = [.map h] := rfl
theorem cl_nmap  : HV.cells (.nilMap) = [.nilMap] := rfl
theorem cl_fn {f : Fn} {a b : List HV} : HV.cells (.func f a b) = [.func f a b] := rfl
theorem cl_nfn  : HV.cells (.nilFunc) = [.nilFunc] := rfl
theorem cl_ifc {t : TypeId} {x : HV} : HV.cells (.iface t x) = [.iface t x] := rfl
theorem cl_nifc  : HV.cells (.nilIface) = [.nilIface] := rfl
theorem on_int {k : IntKind} {n : Int} : HV.one (.int k n) = true := rfl
theorem on_str {b : List UInt8} : HV.one (.str b) = true := rfl
theorem on_bool {b : Bool} : HV.one (.bool b) = true := rfl
theorem on_ptr {h o : Nat} : HV.one (.ptr h o) = true := rfl
theorem on_nptr  : HV.one (.nilPtr) = true := rfl
theorem on_sl {h o n : Nat} {c : Option Nat} : HV.one (.slice h o n c) = true := rfl
theorem on_nsl  : HV.one (.nilSlice) = true := rfl
theorem on_map {h : Nat} : HV.one (.map h) = true := rfl
theorem on_nmap  : HV.one (.nilMap) = true := rfl
theorem on_fn {f : Fn} {a b : List HV} : HV.one (.func f a b) = true := rfl
theorem on_nfn  : HV.one (.nilFunc) = true := rfl
theorem on_ifc {t : TypeId} {x : HV} : HV.one (.iface t x) = true := rfl
theorem on_nifc  : HV.one (.nilIface) = true := rfl
theorem vpe_1 {h o : Nat} : hbin .eql (some .ptrN) (.ptr h o) .nilPtr = some (.bool false) := rfl
theorem vpe_0 : hbin .eql (some .ptrN) .nilPtr .nilPtr = some (.bool true) := rfl
theorem vpn_1 {h o : Nat} : hbin .neq (some .ptrN) (.ptr h o) .nilPtr = some (.bool true) := rfl
theorem vpn_0 : hbin .neq (some .ptrN) .nilPtr .nilPtr = some (.bool false) := rfl
theorem vse_0 : hbin .eql (some .slice) .nilSlice .nilSlice = some (.bool true) := rfl
theorem vse_1 {h o n : Nat} {c : Option Nat} : hbin .eql (some .slice) (.slice h o n c) .nilSlice = some (.bool false) := rfl
theorem hb_of {zeros : List HV} {parts : List (Nat × Nat × HV)} (ha : zeros.all HV.one = true) : hbuild zeros parts = (hfill zeros parts).map .agg := if_pos ha
theorem hf_nil {cs : List HV} : hfill cs [] = some cs := rfl
theorem hf_one {cs : List HV} {off : Nat} {x : HV} {r : List (Nat × Nat × HV)} (h1 : x.one = true) (hc : x.cells = [x]) (hl : off + 1 ≤ cs.length) : hfill cs ((off, 1, x) :: r) = hfill (cs.set off x) r := by
  show (if x.cells.all HV.one = true ∧ x.cells.length = 1 ∧ off + 1 ≤ cs.length then hfill (overw cs off x.cells) r else none) = _
  rw [hc, if_pos ⟨by simp [h1], rfl, hl⟩, overw_one cs off x (by omega)]
theorem hf_agg {cs l : List HV} {off n : Nat} {r : List (Nat × Nat × HV)} (h1 : l.all HV.one = true) (hc : l.length = n) (hl : off + n ≤ cs.length) : hfill cs ((off, n, .agg l) :: r) = hfill (overw cs off l) r := by
  have e : (HV.agg l).cells = l := rfl
  show (if (HV.agg l).cells.all HV.one = true ∧ (HV.agg l).cells.length = n ∧ off + n ≤ cs.length then hfill (overw cs off (HV.agg l).cells) r else none) = _
  rw [e, if_pos ⟨h1, hc, hl⟩]
/-- what memory in these parts lets be read. -/
def Rdl (l : List SA) (b : HV) (n : Nat) (xs : List HV) : Prop := ∀ hs, Sat hs l → Rd hs 1 b n xs
/-- an operation that turns memory, then the rest. -/
def opC (x : Option (HV × HS)) (C : HV → HS → Prop) : Prop := ∃ v hs', x = some (v, hs') ∧ C v hs'
theorem opC_K {x : Option (HV × HS)} (h : opC x fun v hs' => HL P r (put fr dst v) hs' K) : opK P x dst r fr K := h
theorem opC_D {x : Option (HV × HS)} (h : opC x fun v hs' => Holds ps i hs' pend ∧ DR P hos ps rr pend (put fr dst v) hs' K) : drL P hos ps i rr pend fr K dst x := h
variable {C : HV → HS → Prop}
theorem opC_some {v : HV} {hs' : HS} : opC (some (v, hs')) C = C v hs' := by
  apply propext
  exact ⟨fun ⟨_, _, e, h⟩ => by cases e; exact h, fun h => ⟨_, _, rfl, h⟩⟩
theorem sl_storeN {cells : List HV} (H : Sat hs (pt h (.cells s cs false opn olds) :: l)) (hn : cells.length = n) (hk : k + n ≤ cs.length) (h1 : cells.all HV.one = true)
    (next : ∀ (_ : HV) hs', Sat hs' (pt h (.cells s (overw cs k cells) false opn []) :: l) → C .undef hs') : opC (unit (hstore n hs (.ptr h k) (.agg cells))) C := by
  refine ⟨.undef, _, ?_, next .undef _ (H.put (ro' := false) (opn' := opn))⟩
  rw [va_store, H.get, va_stn hn h1 hk]; rfl
theorem sl_boxA {cells : List HV} (H : Sat hs l) (h1 : cells.all HV.one = true) (next : ∀ h hs', Sat hs' (pt h (.cells 1 cells false false []) :: l) → C (.ptr h 0) hs') : opC (hbox hs (.agg cells)) C :=
  ⟨_, _, va_boxA h1, next _ _ (H.push rfl)⟩
theorem sl_append {bytes m : Nat} {v y : HV} {xs ns : List HV} (H : Sat hs (My s v n xs :: l)) (T : takeCells hs s y = some (m, ns)) (hr : roomFor (n + m) bytes = true) (hm : n + m ≤ maxLen)
    (next : ∀ v' hs', Sat hs' (My s v' (n + m) (xs ++ ns) :: l) → C v' hs') : opC (happend hs s bytes v y) C := by
  obtain ⟨v', hs', h1, h2⟩ := H.append T hr hm
  exact ⟨v', hs', h1, next v' hs' h2⟩
/-- a slice of some elements; what it says of it holds until memory is written. -/
theorem sl_bslice {len : Nat} {zeros : List HV} {parts : List (Nat × Nat × HV)} {out : List HV} (H : Sat hs l) (hl : zeros.length = len * s) (ha : zeros.all HV.one = true) (hb : len * s ≤ 16777216) (hf : hfill zeros parts = some out) (ho : out.length = len * s)
    (next : ∀ v hs', Sat hs' l → Rd hs' s v len out → C v hs') : opC (hbuildSlice hs s len zeros parts) C := by
  refine ⟨_, _, by unfold hbuildSlice; rw [if_pos ⟨hl, ha, hb⟩, hf]; rfl, next _ _ H.more (Rd.fresh hs s len out false false ho (some len) (fun c e => by cases e; exact Nat.le_refl _))⟩
/-- a slice of some elements that is kept. -/
theorem sl_bsliceK {len : Nat} {zeros : List HV} {parts : List (Nat × Nat × HV)} {out : List HV} (H : Sat hs l) (hl : zeros.length = len * s) (ha : zeros.all HV.one = true) (hb : len * s ≤ 16777216) (hf : hfill zeros parts = some out) (ho : out.length = len * s)
    (next : ∀ v hs', Sat hs' (My s v len out :: l) → C v hs') : opC (hbuildSlice hs s len zeros parts) C := by
  refine ⟨_, _, by unfold hbuildSlice; rw [if_pos ⟨hl, ha, hb⟩, hf]; rfl, next _ _ (Sat.ownC (H.push rfl) (Nat.le_refl _) (by omega) (List.take_of_length_le (by omega)))⟩
/-- the same; a constant's bytes. -/
theorem sl_bsliceKM {len : Nat} {zeros : List HV} {parts : List (Nat × Nat × HV)} {out : List HV} (H : Sat hs l) (h0 : 0 < len) (hl : zeros.length = len * s) (ha : zeros.all HV.one = true) (hb : len * s ≤ 16777216) (hf : hfill zeros parts = some out) (ho : out.length = len * s)
    (next : ∀ v hs', Sat hs' (My s v len out :: l) → hmark hs' v = some v → C v hs') : opC (hbuildSlice hs s len zeros parts) C := by
  refine ⟨_, _, by unfold hbuildSlice; rw [if_pos ⟨hl, ha, hb⟩, hf]; rfl, next _ _ (Sat.ownC (H.push rfl) (Nat.le_refl _) (by omega) (List.take_of_length_le (by omega))) ?_⟩
  simp only [hmark, if_pos h0]
  rw [List.getElem?_append_right (Nat.le_refl _), Nat.sub_self]
  rfl
/-- one element to be appended: its row is forgotten behind the append. -/
theorem sl_bslice1 {z : HV} (H : Sat hs l) (hz : z.one = true) (hc : x.cells = [x]) (h1 : x.one = true)
    (next : ∀ v hs', Sat hs' l → takeCells hs' 1 v = some (1, [x]) → C v hs') : opC (hbuildSlice hs 1 1 [z] [(0, 1, x)]) C :=
  ⟨_, _, slice_one hz hc h1, next _ _ H.more (Rd.fresh hs 1 1 [x] false false rfl (some 1) (fun c e => by cases e; exact Nat.le_refl _)).take⟩
/-- a string's bytes, new. -/
theorem sl_s2b {b : List UInt8} (H : Sat hs l) (hb : b.length ≤ 9223372036854775807) (next : ∀ v hs', Sat hs' (My 1 v b.length (bcells b) :: l) → C v hs') : opC (hs2b hs (.str b)) C := by
  have hmax : maxLen = 9223372036854775807 := rfl
  refine ⟨.slice hs.length 0 b.length none, hs ++ [some (.cells 1 (bcells b) false true [])], by simp only [hs2b]; rw [if_pos (by omega)]; rfl, next _ _ (Sat.ownN (H.push rfl) ?_)⟩
  simp [bcells_length]
end
set_option linter.defProp false
/-- what the rewriting of a walk leans on. -/
def vsA :=
  And.intro @vwp_skip <|
  And.intro @vwp_ret <|
  And.intro @vwp_exit <|
  And.intro @vwp_lab <|
  And.intro @vwp_seq <|
  And.intro @vwp_cond <|
  And.intro @vwp_block <|
  And.intro @vwp_scope <|
  And.intro @vwp_region <|
  And.intro @vwp_draw <|
  And.intro @vwp_loop <|
  And.intro @vwp_range <|
  And.intro @vcnd_tt <|
  And.intro @vcnd_ff <|
  And.intro @vthen_normal <|
  And.intro @vthen_ret <|
  And.intro @vthen_exit <|
  And.intro @vblock_normal <|
  And.intro @vblock_ret <|
  And.intro @vblock_exit <|
  And.intro @vreg_nil <|
  And.intro @vreg_cons <|
  And.intro @vhl_nil <|
  And.intro @vhl_op <|
  And.intro @vhl_guard <|
  And.intro @vguard_tt <|
  And.intro @vguard_ff <|
  And.intro @vguard_tf <|
  And.intro @vguard_ft <|
  And.intro @vguard_no <|
  And.intro @vact_op <|
  And.intro @vop_some <|
  And.intro @vput_some <|
  And.intro @vput_none <|
  And.intro @vsame_sm <|
  And.intro @vunit_sm <|
  And.intro @vget_nil <|
  And.intro @vget_cons <|
  And.intro @vget_some <|
  And.intro @vo_mv <|
  And.intro @vo_bin <|
  And.intro @vo_un <|
  And.intro @vo_ext <|
  And.intro @vo_len <|
  And.intro @vo_idxS <|
  And.intro @vo_idxStr <|
  And.intro @vo_load <|
  And.intro @vo_pick <|
  And.intro @vo_append <|
  And.intro @vo_bslice <|
  And.intro @vo_nilc <|
  And.intro @vo_faddr <|
  And.intro @vo_store <|
  And.intro @vo_sliceSl <|
  And.intro @vo_sliceStr <|
  And.intro @vo_cInt <|
  And.intro @vo_copy <|
  And.intro @vo_mkSlice <|
  And.intro @vo_box <|
  And.intro @vo_build <|
  And.intro @vo_b2s <|
  And.intro @vb2s_sl <|
  And.intro @vb2s_nil <|
  And.intro @vcInt <|
  And.intro @vnil_ptr <|
  And.intro @vo_mkMap <|
  And.intro @vo_mkfn <|
  And.intro @vo_lookup <|
  And.intro @vo_mapUpd <|
  And.intro @vo_del <|
  And.intro @vdel_some <|
  And.intro @vo_rangeMap <|
  And.intro @vo_entry <|
  And.intro @vfaddr_ptr <|
  And.intro @vb_lss <|
  And.intro @vb_leq <|
  And.intro @vb_gtr <|
  And.intro @vb_geq <|
  And.intro @vb_eql <|
  And.intro @vb_neq <|
  And.intro @vb_seql <|
  And.intro @vb_sneq <|
  And.intro @vb_beql <|
  And.intro @vb_bneq <|
  And.intro @vun_not <|
  And.intro @vlen_str <|
  And.intro @vlen_sl <|
  And.intro @vlen_nil <|
  And.intro @vext_tup <|
  And.intro @va_load <|
  And.intro @va_ld <|
  And.intro @va_loadA <|
  And.intro @va_ldA <|
  And.intro @vo_s2b <|
  And.intro @vo_minmax <|
  And.intro @va_min2 <|
  And.intro @va_max2 <|
  And.intro @va_minl <|
  And.intro @vdr_nil <|
  And.intro @vdr_cons <|
  And.intro @vdr_op <|
  And.intro @vdr_some <|
  And.intro @vdr_loud <|
  And.intro @vdr_lsome <|
  And.intro @vholds_cons <|
  And.intro @vholds_nil <|
  And.intro @vres_tmp <|
  And.intro @vres_tmp2 <|
  And.intro @vres_none <|
  And.intro @vres_cell1 <|
  And.intro @vres_k <|
  And.intro @vres_cell2 <|
  And.intro @vres_k2 <|
  And.intro @vend_ret <|
  And.intro @vend_normal <|
  And.intro @vex_some <|
  And.intro @vdr_guard <|
  And.intro @vdg_tt <|
  And.intro @vdg_ff <|
  And.intro @vdg_tf <|
  And.intro @vdg_ft <|
  And.intro @vdg_no <|
  And.intro @va_takeS <|
  And.intro @va_takeN <|
  And.intro @vsadd <|
  And.intro @va_sOk <|
  And.intro @va_sOkN <|
  And.intro @va_sOk1 <|
  And.intro @va_slLo <|
  And.intro @va_slHi <|
  And.intro @va_slBoth <|
  And.intro @va_slLoC <|
  And.intro @va_slHiC <|
  And.intro @va_slBothC <|
  And.intro @va_nilHi <|
  And.intro @va_nilLo <|
  And.intro @va_nilNone <|
  And.intro @va_a2 <|
  And.intro @va_m2 <|
  And.intro @va_a3 <|
  And.intro @va_m3 <|
  And.intro @va_a4 <|
  And.intro @va_m4 <|
  And.intro @va_a5 <|
  And.intro @va_m5 <|
  And.intro @va_a6 <|
  And.intro @va_m6 <|
  And.intro @va_a7 <|
  And.intro @va_m7 <|
  And.intro @va_a8 <|
  And.intro @va_m8 <|
  And.intro @va_a10 <|
  And.intro @va_m10 <|
  And.intro @va_a16 <|
  And.intro @va_m16 <|
  And.intro @va_a40 <|
  And.intro @va_m40 <|
  And.intro @va_a64 <|
  And.intro @va_m64 <|
  And.intro @vo_mark <|
  And.intro @vpe_1 <|
  And.intro @vpe_0 <|
  And.intro @vpn_1 <|
  And.intro @vpn_0 <|
  And.intro @vse_0 <|
  And.intro @vse_1 <|
  And.intro @hb_of <|
  And.intro @hf_nil <|
  And.intro @hf_one <|
  And.intro @hf_agg <|
  And.intro @va_capN <|
  And.intro @va_cap0 <|
  @opC_some
set_option linter.defProp false in
def vsB :=
  And.intro @beq_self_eq_true.{0} <|
  And.intro @decide_true <|
  And.intro @decide_false <|
  And.intro @List.length_cons.{0} <|
  And.intro @List.length_nil.{0} <|
  And.intro @List.append_nil.{0} <|
  And.intro @List.nil_append.{0} <|
  And.intro @List.cons_append.{0} <|
  And.intro @List.set_cons_succ.{0} <|
  And.intro @List.set_cons_zero.{0} <|
  And.intro @List.getElem?_cons_succ.{0} <|
  And.intro @List.getElem?_cons_zero.{0} <|
  And.intro @Option.getD_some.{0} <|
  And.intro @Option.map_some.{0, 0} <|
  And.intro @Option.map_none.{0, 0} <|
  And.intro @List.map_cons.{0, 0} <|
  And.intro @List.map_nil.{0, 0} <|
  And.intro @Bool.not_true <|
  And.intro @Bool.not_false <|
  And.intro @Bool.false_eq_true <|
  And.intro @Nat.zero_add <|
  And.intro @List.drop_zero.{0} <|
  And.intro @List.drop_succ_cons.{0} <|
  And.intro @List.take_succ_cons.{0} <|
  And.intro @List.take_zero.{0} <|
  And.intro @true_and <|
  And.intro @and_true <|
  And.intro @List.getD_cons_succ.{0} <|
  And.intro @List.getD_cons_zero.{0} <|
  And.intro @List.contains_cons.{0} <|
  And.intro @List.contains_nil.{0} <|
  And.intro @Bool.or_false <|
  And.intro @Bool.true_eq_false <|
  And.intro @Bool.or_true <|
  And.intro @Bool.true_or <|
  And.intro @Bool.false_or <|
  @Nat.add_zero
set_option linter.defProp false in
def setA :=
  And.intro @List.set_cons_succ.{0} <|
  And.intro @List.set_cons_zero.{0} <|
  And.intro @List.take_succ_cons.{0} <|
  And.intro @List.take_zero.{0} <|
  And.intro @List.drop_succ_cons.{0} <|
  And.intro @List.drop_zero.{0} <|
  And.intro @List.cons_append.{0} <|
  And.intro @List.nil_append.{0} <|
  And.intro @List.length_cons.{0} <|
  @List.length_nil.{0}
set_option linter.defProp false in
def athA :=
  And.intro @decide_eq_true_eq <|
  And.intro @decide_eq_false_iff_not <|
  And.intro @Bool.not_eq_true' <|
  And.intro @Bool.not_eq_false' <|
  And.intro @beq_iff_eq.{0} <|
  And.intro @bne_iff_ne.{0} <|
  And.intro @Bool.not_eq_false <|
  @beq_eq_false_iff_ne.{0}
set_option linter.defProp false in
def onA :=
  And.intro @List.length_cons.{0} <|
  And.intro @List.all_cons.{0} <|
  And.intro @List.all_nil.{0} <|
  And.intro @on_int <|
  And.intro @on_str <|
  And.intro @on_bool <|
  And.intro @on_ptr <|
  And.intro @on_nptr <|
  And.intro @on_sl <|
  And.intro @on_nsl <|
  And.intro @on_map <|
  And.intro @on_nmap <|
  And.intro @on_fn <|
  And.intro @on_nfn <|
  And.intro @on_ifc <|
  And.intro @on_nifc <|
  And.intro @Bool.true_and <|
  And.intro @Bool.and_true <|
  @Bool.and_self
/-- one cell. -/
class One (x : HV) : Prop where
  c : x.cells = [x]
  o : x.one = true
instance {k : IntKind} {n : Int} : One (.int k n) := ⟨cl_int, on_int⟩
instance {b : List UInt8} : One (.str b) := ⟨cl_str, on_str⟩
instance {b : Bool} : One (.bool b) := ⟨cl_bool, on_bool⟩
instance : One .nilSlice := ⟨cl_nsl, on_nsl⟩
instance {h o : Nat} : One (.ptr h o) := ⟨cl_ptr, on_ptr⟩
instance {h o n : Nat} {c : Option Nat} : One (.slice h o n c) := ⟨cl_sl, on_sl⟩
instance : One .nilPtr := ⟨cl_nptr, on_nptr⟩
instance {h : Nat} : One (.map h) := ⟨cl_map, on_map⟩
instance : One .nilMap := ⟨cl_nmap, on_nmap⟩
instance {f : Fn} {a b : List HV} : One (.func f a b) := ⟨cl_fn, on_fn⟩
instance : One .nilFunc := ⟨cl_nfn, on_nfn⟩
instance {t : TypeId} {x : HV} : One (.iface t x) := ⟨cl_ifc, on_ifc⟩
instance : One .nilIface := ⟨cl_nifc, on_nifc⟩
/-- what a part tells at once. -/
class PF (A : SA) (F : outParam (HS → Prop)) : Prop where
  ok : ∀ {hs : HS} {l : List SA}, Sat hs (A :: l) → F hs
instance (priority := low) {A : SA} : PF A fun _ => True := ⟨fun _ => trivial⟩
instance {h : Nat} {b : HB} : PF (pt h b) fun hs => hs[h]? = some (some b) := ⟨fun H => H.get⟩
instance {s n : Nat} {v : HV} {xs : List HV} : PF (My s v n xs) fun hs => hlenK hs .slice v = some (.int .i64 (n : Nat)) ∧ takeCells hs s v = some (n, xs) ∧ HL.sOk hs s v = true ∧ v.one = true ∧ v.cells = [v] := ⟨fun H => H.fx⟩
instance {s n : Nat} {v : HV} {xs : List HV} : PF (Vw s v n xs) fun hs => hlenK hs .slice v = some (.int .i64 (n : Nat)) ∧ takeCells hs s v = some (n, xs) ∧ HL.sOk hs s v = true ∧ v.one = true ∧ v.cells = [v] := ⟨fun H => ⟨H.rdV.len _, H.rdV.take, H.rdV.sOk, H.rdV.one, H.rdV.cells⟩⟩
theorem Sat.pf {hs : HS} {A : SA} {F : HS → Prop} [P : PF A F] {l : List SA} (H : Sat hs (A :: l)) : F hs := P.ok H
theorem hw_unf {a b : HCode} (h : a = b) : ∀ (P : Program) (ro : Option Nat) (Q : HExit → List HV → HS → Prop) (fr : List HV) (hs : HS), hwp P ro a Q fr hs = hwp P ro b Q fr hs := fun _ _ _ _ _ => by rw [h]

end Go.HL
