/-
  HL: an end of a call that leaves what was there as it was: of what is new only some is kept, counted anew.
-/
import Derived.Test.YteedmbmgemiheaaDoorKYHLVc
import Derived.Test.YteedmbmgemiheaaDoorKYHLNon
namespace Go.HL
open Go

section
variable {P : Program}
/-- nothing new is kept. -/
theorem HC.drop {f : FuncId} {args : List HV} {hs : HS} {Q : HV → Prop} (h : HC P f args hs fun v hs' => (∃ L, hs' = hs ++ L) ∧ v.flat = true ∧ Q v) : HC P f args hs fun v hs' => Q v ∧ hs' = hs := by
  intro β w us E R
  refine (h β w us E R).mono ?_
  rintro e w' ⟨β', u, v, hs', he, ⟨⟨L, rfl⟩, hf, hq⟩, hv, S⟩
  exact ⟨β, u, v, hs, he, ⟨hq, rfl⟩, hv.flat hf, S.gc E (by simp)⟩
end
theorem vres_tmp {fr : List HV} {hs : HS} {t : Nat} : hres [.tmp t] fr hs = some (fr[t]?.getD .undef) := rfl
theorem vres_tmp2 {fr : List HV} {hs : HS} {t u : Nat} : hres [.tmp t, .tmp u] fr hs = some (.tup [fr[t]?.getD .undef, fr[u]?.getD .undef]) := rfl
theorem vres_none {fr : List HV} {hs : HS} : hres [] fr hs = some (.tup []) := rfl
def resK (o : Option HV) : Option HV := o
theorem vres_cell1 {fr : List HV} {hs : HS} {t : Nat} {n : Option Nat} : hres [.cell t n] fr hs = resK (hload n hs (fr[t]?.getD .undef)) := by
  simp only [hres, hresL, hres1, resK]
  cases hload n hs (fr[t]?.getD .undef) <;> rfl
theorem vres_k {v : HV} : resK (some v) = some v := rfl
def resK2 (o : Option HV) (u : HV) : Option HV := o.map fun v => .tup [v, u]
theorem vres_cell2 {fr : List HV} {hs : HS} {t u : Nat} {n : Option Nat} : hres [.cell t n, .tmp u] fr hs = resK2 (hload n hs (fr[t]?.getD .undef)) (fr[u]?.getD .undef) := by
  simp only [hres, hresL, hres1, resK2]
  cases hload n hs (fr[t]?.getD .undef) <;> rfl
theorem vres_k2 {v u : HV} : resK2 (some v) u = some (.tup [v, u]) := rfl
theorem vend_ret : HExit.ended .ret = true := rfl
theorem vend_normal : HExit.ended .normal = true := rfl
theorem vex_some {v : HV} {p : HV → Prop} : (∃ x, some v = some x ∧ p x) = p v := by
  apply propext
  constructor
  · rintro ⟨x, h, hp⟩
    simp at h; subst h; exact hp
  · exact fun h => ⟨v, rfl, h⟩
section
variable {P : Program} {hos : List HOper} {ps : List (List Nat)} {i : Nat} {rr : List Nat} {pend : List Pend} {fr : List HV} {hs : HS} {K : List HV → HS → Prop} {dst : Option Nat} {act : HAct}
/-- an operation of an open order that has a guard. -/
def dgK (P : Program) (hos : List HOper) (ps : List (List Nat)) (i : Nat) (rr : List Nat) (pend : List Pend) (fr : List HV) (hs : HS) (K : List HV → HS → Prop) (dst : Option Nat) (act : HAct) (want : Bool) : Option HV → Prop
  | some (.bool b) => if b = want then drK P hos ps i rr pend fr hs K (some ⟨dst, act, none⟩) else DR P hos ps rr pend (put fr dst (.tup [])) hs K
  | some (.tup []) => DR P hos ps rr pend (put fr dst (.tup [])) hs K
  | _ => False
theorem vdr_guard {t : Nat} {want : Bool} : drK P hos ps i rr pend fr hs K (some ⟨dst, act, some (t, want)⟩) = dgK P hos ps i rr pend fr hs K dst act want fr[t]? := by
  apply propext
  unfold dgK
  constructor
  · rintro ⟨b, hb, h⟩
    simp only [wantH] at hb
    split at hb
    · rename_i b' hb'
      simp at hb; subst hb
      rw [hb']
      cases b' <;> cases want <;> simp only [beq_self_eq_true, if_true, Bool.false_eq_true, if_false] at h ⊢ <;> first | exact h | exact ⟨true, rfl, by simp only [if_true]; exact h⟩ | simpa using h
    · rename_i hb'
      simp at hb; subst hb
      rw [hb']
      simpa using h
    · simp at hb
  · intro h
    split at h
    · rename_i b hb
      by_cases hbw : b = want
      · rw [if_pos hbw] at h
        obtain ⟨c, hc, h⟩ := h
        simp [wantH] at hc; subst hc
        refine ⟨true, by simp [wantH, hb, hbw], h⟩
      · rw [if_neg hbw] at h
        refine ⟨false, by simp [wantH, hb]; cases b <;> cases want <;> simp_all, by simpa using h⟩
    · rename_i hb
      exact ⟨false, by simp [wantH, hb], by simpa using h⟩
    · exact h.elim
theorem vdg_tt : dgK P hos ps i rr pend fr hs K dst act true (some (.bool true)) = drK P hos ps i rr pend fr hs K (some ⟨dst, act, none⟩) := by simp only [dgK, if_true]
theorem vdg_ff : dgK P hos ps i rr pend fr hs K dst act false (some (.bool false)) = drK P hos ps i rr pend fr hs K (some ⟨dst, act, none⟩) := by simp only [dgK, if_true]
theorem vdg_tf : dgK P hos ps i rr pend fr hs K dst act true (some (.bool false)) = DR P hos ps rr pend (put fr dst (.tup [])) hs K := by simp [dgK]
theorem vdg_ft : dgK P hos ps i rr pend fr hs K dst act false (some (.bool true)) = DR P hos ps rr pend (put fr dst (.tup [])) hs K := by simp [dgK]
theorem vdg_no {want : Bool} : dgK P hos ps i rr pend fr hs K dst act want (some (.tup [])) = DR P hos ps rr pend (put fr dst (.tup [])) hs K := by simp only [dgK]
theorem dgK_cases {b want : Bool} (h1 : b = true → dgK P hos ps i rr pend fr hs K dst act want (some (.bool true))) (h2 : b = false → dgK P hos ps i rr pend fr hs K dst act want (some (.bool false))) : dgK P hos ps i rr pend fr hs K dst act want (some (.bool b)) := by
  cases b
  · exact h2 rfl
  · exact h1 rfl
end
end Go.HL
