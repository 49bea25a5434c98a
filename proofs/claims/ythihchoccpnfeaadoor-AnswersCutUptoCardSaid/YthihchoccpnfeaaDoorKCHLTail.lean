/-
  HL: an end of a call that leaves what was there as it was: of what is new only some is kept, counted anew.
-/
import Derived.Test.YthihchoccpnfeaaDoorKCHLVc
import Derived.Test.YthihchoccpnfeaaDoorKCHLNon
namespace Go.HL
open Go

/-- the first n stay; of the others only these, in this order. -/
def relRho (n : Nat) (offs : List Nat) (h : Nat) : Option Nat := if h < n then some h else (posIn offs (h - n) 0).map (n + ·)
def okOffs (len : Nat) : List Nat → Bool
  | [] => true
  | x :: r => Nat.blt x len && !hasN r x && okOffs len r
theorem okOffs_lt {len : Nat} : ∀ {l : List Nat}, okOffs len l = true → ∀ x ∈ l, x < len
  | [], _, x, h => by simp at h
  | y :: r, H, x, h => by
    simp only [okOffs, Bool.and_eq_true] at H
    rcases List.mem_cons.1 h with rfl | h
    · have := H.1.1; rw [Nat.blt_eq] at this; exact this
    · exact okOffs_lt H.2 x h
theorem okOffs_nodup {len : Nat} : ∀ {l : List Nat}, okOffs len l = true → l.Nodup
  | [], _ => by simp
  | y :: r, H => by
    simp only [okOffs, Bool.and_eq_true, Bool.not_eq_true'] at H
    rw [List.nodup_cons]
    exact ⟨hasN_false H.1.2, okOffs_nodup H.2⟩
/-- one's own, renamed. -/
def rbo (ρ : Nat → Option Nat) : Option (Option HB) → Option HB
  | some (some b) => if b.ro = true then none else renB ρ b
  | _ => none
theorem rbo_some {ρ : Nat → Option Nat} {o : Option (Option HB)} {b : HB} (h : rbo ρ o = some b) : ∃ b0, o = some (some b0) ∧ renB ρ b0 = some b ∧ b0.ro = false := by
  unfold rbo at h
  split at h
  · rename_i b0
    split at h
    · simp at h
    · rename_i hr
      exact ⟨b0, rfl, h, by simpa using hr⟩
  · simp at h
def pickT (n : Nat) (offs : List Nat) (L : HS) : HS := offs.map fun j => rbo (relRho n offs) L[j]?

theorem Step.tail {β β' : List Ent} {hs L : HS} {w w' : World} (E : Emb β hs w) (S : Step β hs w β' (hs ++ L) w') {offs : List Nat} (ho : okOffs L.length offs = true) :
    ∃ β2, Step β hs w β2 (hs ++ pickT hs.length offs L) w' ∧ Goes (relRho hs.length offs) β' β2 := by
  have lt := okOffs_lt ho
  have nd := okOffs_nodup ho
  obtain ⟨γ, hγ⟩ := S.ext
  have hl : β'.length = hs.length + L.length := by rw [S.emb.len, List.length_append]
  have hgl : γ.length = L.length := by rw [hγ, List.length_append, E.len] at hl; omega
  obtain ⟨β2, hβ2⟩ : ∃ β2 : List Ent, β2 = β ++ offs.map fun j => (γ[j]?).getD default := ⟨_, rfl⟩
  have g2 : ∀ i j, offs[i]? = some j → β2[hs.length + i]? = β'[hs.length + j]? := fun i j h => by
    rw [hβ2, hγ, List.getElem?_append_right (by rw [E.len]; omega), List.getElem?_append_right (by rw [E.len]; omega), E.len, Nat.add_sub_cancel_left, Nat.add_sub_cancel_left, List.getElem?_map, h]
    have := lt j (List.mem_of_getElem? h)
    rw [List.getElem?_eq_getElem (by omega)]
    simp [List.getElem?_eq_getElem (show j < γ.length by omega)]
  have g1 : ∀ h, h < hs.length → β2[h]? = β[h]? := fun h hh => by rw [hβ2, List.getElem?_append_left (by rw [E.len]; exact hh)]
  have ρ1 : ∀ h, h < hs.length → relRho hs.length offs h = some h := fun h hh => by unfold relRho; rw [if_pos hh]
  have ρ2 : ∀ i j, offs[i]? = some j → relRho hs.length offs (hs.length + j) = some (hs.length + i) := fun i j h => by
    unfold relRho
    rw [if_neg (by omega), Nat.add_sub_cancel_left, posIn_get nd 0 h]
    simp
  have ρ3 : ∀ h q, relRho hs.length offs h = some q → (h < hs.length ∧ q = h) ∨ ∃ i j, offs[i]? = some j ∧ h = hs.length + j ∧ q = hs.length + i := fun h q e => by
    unfold relRho at e
    split at e
    · rename_i hh; simp at e; exact .inl ⟨hh, e.symm⟩
    · rename_i hh
      simp only [Option.map_eq_some_iff] at e
      obtain ⟨i, h1, h2⟩ := e
      have := (posIn_some h1).2
      exact .inr ⟨i, h - hs.length, by simpa using this, by omega, h2.symm⟩
  have G : Goes (relRho hs.length offs) β' β2 := by
    intro h q e h1 h2
    rcases ρ3 h q h1 with ⟨hh, rfl⟩ | ⟨i, j, h3, rfl, rfl⟩
    · rw [g1 _ hh]
      rw [hγ, List.getElem?_append_left (by rw [E.len]; exact hh)] at h2
      exact h2
    · rw [g2 i j h3]; exact h2
  have b2l : β2.length = (hs ++ pickT hs.length offs L).length := by rw [hβ2]; simp [pickT, E.len]
  have key : ∀ (q : Nat) (e : Ent) (b : HB), β2[q]? = some e → (hs ++ pickT hs.length offs L)[q]? = some (some b) →
      (q < hs.length ∧ β[q]? = some e ∧ hs[q]? = some (some b)) ∨ ∃ i j b0, offs[i]? = some j ∧ q = hs.length + i ∧ β'[hs.length + j]? = some e ∧ (hs ++ L)[hs.length + j]? = some (some b0) ∧ renB (relRho hs.length offs) b0 = some b ∧ b0.ro = false := by
    intro q e b h1 h2
    rcases Nat.lt_or_ge q hs.length with hq | hq
    · rw [g1 q hq] at h1
      rw [List.getElem?_append_left hq] at h2
      exact .inl ⟨hq, h1, h2⟩
    · rw [List.getElem?_append_right hq] at h2
      unfold pickT at h2
      rw [List.getElem?_map, Option.map_eq_some_iff] at h2
      obtain ⟨j, h3, h4⟩ := h2
      obtain ⟨b0, hLo, h5, h6⟩ := rbo_some h4
      have hq' : q = hs.length + (q - hs.length) := by omega
      refine .inr ⟨q - hs.length, j, b0, h3, hq', ?_, ?_, h5, h6⟩
      · rw [← g2 _ _ h3, ← hq']; exact h1
      · rw [List.getElem?_append_right (by omega), Nat.add_sub_cancel_left]; exact hLo
  have get0 : ∀ (q : Nat) (e : Ent) (b : HB), β[q]? = some e → hs[q]? = some (some b) → β'[q]? = some e ∧ (hs ++ L)[q]? = some (some b) := fun q e b h1 h2 =>
    ⟨S.ext.get h1, by rw [List.getElem?_append_left (lt_of_get h2)]; exact h2⟩
  refine ⟨β2, ⟨⟨_, hβ2⟩, ⟨b2l, fun q e b h1 h2 => ?_, fun g q e e' b b' hne h1 h2 h3 h4 heq hro' => ?_⟩, S.size, S.same, ?_, S.os, S.output, S.tape, fun h e hl' he => ?_⟩, G⟩
  · rcases key q e b h1 h2 with ⟨h3, h4, h5⟩ | ⟨i, j, b0, h3, h4, h5, h6, h7, h8⟩
    · obtain ⟨k1, k2⟩ := get0 q e b h4 h5
      exact ((E.blk q e b h4 h5).back S.ext (S.emb.blk q e b k1 k2)).mono ⟨_, hβ2⟩
    · exact renB_rel G h7 (S.emb.blk _ e b0 h5 h6)
  · rcases key q e' b' h2 h4 with ⟨a3, a4, a5⟩ | ⟨i, j, b0, a3, a4, a5, a6, a7, a8⟩
    · rcases key g e b h1 h3 with ⟨c3, c4, c5⟩ | ⟨i2, j2, b2, c3, c4, c5, c6, c7, c8⟩
      · exact E.sep g q e e' b b' hne c4 a4 c5 a5 heq hro'
      · obtain ⟨k1, k2⟩ := get0 q e' b' a4 a5
        have := (S.emb.sep (hs.length + j2) q e e' b2 b' (by omega) c5 k1 c6 k2 heq hro').2.1
        rw [c8] at this
        simp at this
    · obtain ⟨d1, d2, d3⟩ := renB_same a7
      rcases key g e b h1 h3 with ⟨c3, c4, c5⟩ | ⟨i2, j2, b2, c3, c4, c5, c6, c7, c8⟩
      · obtain ⟨k1, k2⟩ := get0 g e b c4 c5
        obtain ⟨s1, s2, s3⟩ := S.emb.sep g (hs.length + j) e e' b b0 (by omega) k1 a5 k2 a6 heq a8
        refine ⟨?_, s2, by rw [d2]; exact s3⟩
        rw [d3]; exact List.mem_filterMap.2 ⟨g, s1, ρ1 g c3⟩
      · obtain ⟨f1, f2, f3⟩ := renB_same c7
        have hij : hs.length + j2 ≠ hs.length + j := by
          intro e0
          have : j2 = j := by omega
          subst this
          have h0 := ρ2 i2 j2 c3
          rw [ρ2 i j2 a3] at h0
          have := Option.some.inj h0
          omega
        have := (S.emb.sep (hs.length + j2) (hs.length + j) e e' b2 b0 hij c5 a5 c6 a6 heq a8).2.1
        rw [c8] at this
        simp at this
  · rintro k hk ⟨q, e, b, h1, h2, h3, h4⟩
    rcases key q e b h1 h2 with ⟨_, a4, a5⟩ | ⟨i, j, b0, a3, a4, a5, a6, a7, a8⟩
    · exact ⟨q, e, b, a4, a5, h3, h4⟩
    · exact S.own k hk ⟨_, e, b0, a5, a6, a8, h4⟩
  · rw [hβ2, List.getElem?_append_right hl', List.getElem?_map, Option.map_eq_some_iff] at he
    obtain ⟨j, h1, h2⟩ := he
    have hj := lt j (List.mem_of_getElem? h1)
    have : β'[β.length + j]? = some e := by
      rw [hγ, List.getElem?_append_right (by omega), Nat.add_sub_cancel_left]
      rw [List.getElem?_eq_getElem (by omega)] at h2 ⊢
      simpa using h2
    exact S.fresh _ e (by omega) this

section
variable {P : Program}
/-- an end of a call that leaves what was there as it was. -/
theorem HC.tail {f : FuncId} {args : List HV} {hs : HS} {Q : HV → HS → Prop} (h : HC P f args hs fun v hs' => ∃ L offs, hs' = hs ++ L ∧ okOffs L.length offs = true ∧ Q (rv (relRho hs.length offs) v) (hs ++ pickT hs.length offs L)) : HC P f args hs Q := by
  intro β w us E R
  refine (h β w us E R).mono ?_
  rintro e w' ⟨β', u, v, hs', he, ⟨L, offs, rfl, ho, hq⟩, hv, S⟩
  obtain ⟨β2, S2, G⟩ := Step.tail E S ho
  exact ⟨β2, u, _, _, he, hq, rv_rel G hv, S2⟩
/-- nothing new is kept. -/
theorem HC.drop {f : FuncId} {args : List HV} {hs : HS} {Q : HV → Prop} (h : HC P f args hs fun v hs' => (∃ L, hs' = hs ++ L) ∧ v.flat = true ∧ Q v) : HC P f args hs fun v hs' => Q v ∧ hs' = hs := by
  intro β w us E R
  refine (h β w us E R).mono ?_
  rintro e w' ⟨β', u, v, hs', he, ⟨⟨L, rfl⟩, hf, hq⟩, hv, S⟩
  exact ⟨β, u, v, hs, he, ⟨hq, rfl⟩, hv.flat hf, S.gc E (by simp)⟩
end
/-- a place behind what was there. -/
theorem get_base {α : Type} {A L : List α} {k : Nat} : (A ++ L)[A.length + k]? = L[k]? := by
  rw [List.getElem?_append_right (by omega), Nat.add_sub_cancel_left]
theorem get_base0 {α : Type} {A L : List α} : (A ++ L)[A.length]? = L[0]? := by
  rw [List.getElem?_append_right (by omega), Nat.sub_self]
theorem set_base {α : Type} {A L : List α} {k : Nat} {x : α} : (A ++ L).set (A.length + k) x = A ++ L.set k x := by
  rw [List.set_append_right _ _ (by omega), Nat.add_sub_cancel_left]
theorem set_base0 {α : Type} {A L : List α} {x : α} : (A ++ L).set A.length x = A ++ L.set 0 x := by
  rw [List.set_append_right _ _ (by omega), Nat.sub_self]
theorem vres_tmp {fr : List HV} {hs : HS} {t : Nat} : hres [.tmp t] fr hs = some (fr[t]?.getD .undef) := rfl
theorem vres_tmp2 {fr : List HV} {hs : HS} {t u : Nat} : hres [.tmp t, .tmp u] fr hs = some (.tup [fr[t]?.getD .undef, fr[u]?.getD .undef]) := rfl
theorem vres_none {fr : List HV} {hs : HS} : hres [] fr hs = some (.tup []) := rfl
def resK (o : Option HV) : Option HV := o
theorem vres_cell1 {fr : List HV} {hs : HS} {t : Nat} {n : Option Nat} : hres [.cell t n] fr hs = resK (hload n hs (fr[t]?.getD .undef)) := by
  simp only [hres, hresL, hres1, resK]
  cases hload n hs (fr[t]?.getD .undef) <;> rfl
theorem vres_k {v : HV} : resK (some v) = some v := rfl
def resK2 (o : Option HV) (u : HV) : Option HV := o.map fun v => .tup [v, u]
theorem vres_cell2 {fr : List HV} {hs : HS} {t u : Nat} {n : Option Nat} : hres [.cell t n, .tmp u] fr hs = resK2 (hload n hs (fr[t]?.getD .undef)) (fr[u]?.getD .undef) := by
  simp only [hres, hresL, hres1, resK2]
  cases hload n hs (fr[t]?.getD .undef) <;> rfl
theorem vres_k2 {v u : HV} : resK2 (some v) u = some (.tup [v, u]) := rfl
theorem vend_ret : HExit.ended .ret = true := rfl
theorem vend_normal : HExit.ended .normal = true := rfl
theorem vex_some {v : HV} {p : HV → Prop} : (∃ x, some v = some x ∧ p x) = p v := by
  apply propext
  constructor
  · rintro ⟨x, h, hp⟩
    simp at h; subst h; exact hp
  · exact fun h => ⟨v, rfl, h⟩
section
variable {P : Program} {hos : List HOper} {ps : List (List Nat)} {i : Nat} {rr : List Nat} {pend : List Pend} {fr : List HV} {hs : HS} {K : List HV → HS → Prop} {dst : Option Nat} {act : HAct}
/-- an operation of an open order that has a guard. -/
def dgK (P : Program) (hos : List HOper) (ps : List (List Nat)) (i : Nat) (rr : List Nat) (pend : List Pend) (fr : List HV) (hs : HS) (K : List HV → HS → Prop) (dst : Option Nat) (act : HAct) (want : Bool) : Option HV → Prop
  | some (.bool b) => if b = want then drK P hos ps i rr pend fr hs K (some ⟨dst, act, none⟩) else DR P hos ps rr pend (put fr dst (.tup [])) hs K
  | some (.tup []) => DR P hos ps rr pend (put fr dst (.tup [])) hs K
  | _ => False
theorem vdr_guard {t : Nat} {want : Bool} : drK P hos ps i rr pend fr hs K (some ⟨dst, act, some (t, want)⟩) = dgK P hos ps i rr pend fr hs K dst act want fr[t]? := by
  apply propext
  unfold dgK
  constructor
  · rintro ⟨b, hb, h⟩
    simp only [wantH] at hb
    split at hb
    · rename_i b' hb'
      simp at hb; subst hb
      rw [hb']
      cases b' <;> cases want <;> simp only [beq_self_eq_true, if_true, Bool.false_eq_true, if_false] at h ⊢ <;> first | exact h | exact ⟨true, rfl, by simp only [if_true]; exact h⟩ | simpa using h
    · rename_i hb'
      simp at hb; subst hb
      rw [hb']
      simpa using h
    · simp at hb
  · intro h
    split at h
    · rename_i b hb
      by_cases hbw : b = want
      · rw [if_pos hbw] at h
        obtain ⟨c, hc, h⟩ := h
        simp [wantH] at hc; subst hc
        refine ⟨true, by simp [wantH, hb, hbw], h⟩
      · rw [if_neg hbw] at h
        refine ⟨false, by simp [wantH, hb]; cases b <;> cases want <;> simp_all, by simpa using h⟩
    · rename_i hb
      exact ⟨false, by simp [wantH, hb], by simpa using h⟩
    · exact h.elim
theorem vdg_tt : dgK P hos ps i rr pend fr hs K dst act true (some (.bool true)) = drK P hos ps i rr pend fr hs K (some ⟨dst, act, none⟩) := by simp only [dgK, if_true]
theorem vdg_ff : dgK P hos ps i rr pend fr hs K dst act false (some (.bool false)) = drK P hos ps i rr pend fr hs K (some ⟨dst, act, none⟩) := by simp only [dgK, if_true]
theorem vdg_tf : dgK P hos ps i rr pend fr hs K dst act true (some (.bool false)) = DR P hos ps rr pend (put fr dst (.tup [])) hs K := by simp [dgK]
theorem vdg_ft : dgK P hos ps i rr pend fr hs K dst act false (some (.bool true)) = DR P hos ps rr pend (put fr dst (.tup [])) hs K := by simp [dgK]
theorem vdg_no {want : Bool} : dgK P hos ps i rr pend fr hs K dst act want (some (.tup [])) = DR P hos ps rr pend (put fr dst (.tup [])) hs K := by simp only [dgK]
theorem dgK_cases {b want : Bool} (h1 : b = true → dgK P hos ps i rr pend fr hs K dst act want (some (.bool true))) (h2 : b = false → dgK P hos ps i rr pend fr hs K dst act want (some (.bool false))) : dgK P hos ps i rr pend fr hs K dst act want (some (.bool b)) := by
  cases b
  · exact h2 rfl
  · exact h1 rfl
end
end Go.HL
