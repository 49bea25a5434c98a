/-
  HL: memory in parts. What is known of a memory is a list of parts, each of which owns handles of its own.
-/
import Derived.Test.YteedmbmgemiheaaDoorKYHLLoops
namespace Go.HL
open Go

/-- what is owned: handles, each with what lies behind it (none: that is not known). -/
abbrev Res := Nat → Option (Option HB)
def ROk (hs : HS) (r : Res) : Prop := ∀ h o, r h = some o → h < hs.length ∧ ∀ b, o = some b → hs[h]? = some (some b)
abbrev SA := Res → Prop
def Dj (a b : Res) : Prop := ∀ h, a h = none ∨ b h = none
def Sub (a r : Res) : Prop := ∀ h x, a h = some x → r h = some x
def ru (a b : Res) : Res := fun h => match a h with
  | some x => some x
  | none => b h
theorem Sub.refl (a : Res) : Sub a a := fun _ _ h => h
theorem Sub.trans {a b c : Res} (h : Sub a b) (h' : Sub b c) : Sub a c := fun i x e => h' i x (h i x e)
theorem sub_unl (a b : Res) : Sub a (ru a b) := fun h x e => by simp only [ru, e]
theorem sub_unr {a b : Res} (d : Dj a b) : Sub b (ru a b) := fun h x e => by
  rcases d h with h1 | h1
  · simp only [ru, h1]; exact e
  · rw [h1] at e; cases e
theorem un_sub {a b r : Res} (h1 : Sub a r) (h2 : Sub b r) : Sub (ru a b) r := fun h x e => by
  simp only [ru] at e
  split at e
  · rename_i y hy
    cases e; exact h1 h _ hy
  · exact h2 h x e
theorem Dj.symm {a b : Res} (d : Dj a b) : Dj b a := fun h => (d h).symm
theorem Dj.sub {a b c : Res} (d : Dj a b) (s : Sub c b) : Dj a c := fun h => by
  rcases d h with h1 | h1
  · exact .inl h1
  · cases hc : c h with
    | none => exact .inr rfl
    | some x => rw [s h x hc] at h1; cases h1
theorem Dj.un {a b c : Res} (d : Dj a b) (d' : Dj a c) : Dj a (ru b c) := fun h => by
  rcases d h with h1 | h1
  · exact .inl h1
  · rcases d' h with h2 | h2
    · exact .inl h2
    · right; simp only [HL.ru, h1, h2]

def nores : Res := fun _ => none
theorem nores_sub (r : Res) : Sub nores r := fun h x e => by simp [nores] at e
theorem nores_ok (hs : HS) : ROk hs nores := fun h x e => by simp [nores] at e
theorem nores_dj (r : Res) : Dj nores r := fun _ => .inl rfl
/-- parts, each on its own. -/
def stars : List SA → SA
  | [], _ => True
  | A :: l, r => ∃ a b, Dj a b ∧ Sub a r ∧ Sub b r ∧ A a ∧ stars l b
theorem stars_sub {l : List SA} {r r' : Res} (h : stars l r) (s : Sub r r') : stars l r' := by
  cases l with
  | nil => trivial
  | cons A l =>
    obtain ⟨a, b, d, h1, h2, h3, h4⟩ := h
    exact ⟨a, b, d, h1.trans s, h2.trans s, h3, h4⟩
theorem stars_swap {A B : SA} {l : List SA} {r : Res} (h : stars (A :: B :: l) r) : stars (B :: A :: l) r := by
  obtain ⟨a, b, d, h1, h2, hA, b1, c, d', h3, h4, hB, hl⟩ := h
  have dac : Dj a c := d.sub h4
  exact ⟨b1, ru a c, (d.sub h3).symm.un d', h3.trans h2, un_sub h1 (h4.trans h2), hB, a, c, dac, sub_unl _ _, sub_unr dac, hA, hl⟩
theorem stars_perm {l l' : List SA} (p : List.Perm l l') : ∀ {r : Res}, stars l r → stars l' r := by
  induction p with
  | nil => exact fun h => h
  | cons A _ ih =>
    rintro r ⟨a, b, d, h1, h2, hA, hl⟩
    exact ⟨a, b, d, h1, h2, hA, ih hl⟩
  | swap A B l => exact fun h => stars_swap h
  | trans _ _ ih1 ih2 => exact fun h => ih2 (ih1 h)
theorem stars_app {l1 l2 : List SA} : ∀ {r : Res}, stars (l1 ++ l2) r ↔ ∃ a b, Dj a b ∧ Sub a r ∧ Sub b r ∧ stars l1 a ∧ stars l2 b := by
  induction l1 with
  | nil =>
    intro r
    constructor
    · intro h; exact ⟨nores, r, nores_dj r, nores_sub r, Sub.refl r, trivial, h⟩
    · rintro ⟨a, b, _, _, h2, _, h4⟩; exact stars_sub h4 h2
  | cons A l ih =>
    intro r
    constructor
    · rintro ⟨a, b, d, h1, h2, hA, hl⟩
      obtain ⟨b1, b2, d', h3, h4, g1, g2⟩ := ih.1 hl
      have dd := d.sub h3
      exact ⟨ru a b1, b2, (((d.sub h4).symm).un d'.symm).symm, un_sub h1 (h3.trans h2), h4.trans h2, ⟨a, b1, dd, sub_unl _ _, sub_unr dd, hA, g1⟩, g2⟩
    · rintro ⟨x, y, d, h1, h2, ⟨a, b, d', h3, h4, hA, hl⟩, g⟩
      have dby : Dj b y := (d.symm.sub h4).symm
      exact ⟨a, ru b y, d'.un (d.symm.sub h3).symm, h3.trans h1, un_sub (h4.trans h1) h2, hA, ih.2 ⟨b, y, dby, sub_unl _ _, sub_unr dby, hl, g⟩⟩

/-- parts, as one. -/
def grp (l : List SA) : SA := stars l
/-- some part. -/
def exs {α : Type} (A : α → SA) : SA := fun r => ∃ x, A x r
/-- a handle of one's own, and what lies behind it. -/
def pt (h : Nat) (b : HB) : SA := fun r => r h = some (some b) ∧ ∀ o ∈ b.olds, o ≠ h ∧ ∃ x, r o = some x

/-- a memory has these parts. -/
def Sat (hs : HS) (l : List SA) : Prop := ∃ r, ROk hs r ∧ stars l r

theorem ROk.sub {hs : HS} {a r : Res} (h : ROk hs r) (s : Sub a r) : ROk hs a := fun i o e => h i o (s i o e)
namespace Sat
variable {hs hs' : HS} {l l' : List SA} {A B : SA}
theorem nil (hs : HS) : Sat hs [] := ⟨nores, nores_ok hs, trivial⟩
theorem perm (h : Sat hs l) (p : List.Perm l l') : Sat hs l' := by
  obtain ⟨r, h1, h2⟩ := h; exact ⟨r, h1, stars_perm p h2⟩
theorem t (h : Sat hs (A :: l)) : Sat hs l := by
  obtain ⟨r, h1, a, b, _, _, h4, _, h6⟩ := h; exact ⟨b, h1.sub h4, h6⟩
theorem imp (h : Sat hs (A :: l)) (hi : ∀ r, A r → B r) : Sat hs (B :: l) := by
  obtain ⟨r, h1, a, b, d, h3, h4, h5, h6⟩ := h; exact ⟨r, h1, a, b, d, h3, h4, hi a h5, h6⟩
theorem grp_iff {l1 : List SA} : Sat hs (grp l1 :: l) ↔ Sat hs (l1 ++ l) := by
  constructor
  · rintro ⟨r, h1, a, b, d, h3, h4, h5, h6⟩
    exact ⟨r, h1, stars_app.2 ⟨a, b, d, h3, h4, h5, h6⟩⟩
  · rintro ⟨r, h1, h2⟩
    obtain ⟨a, b, d, h3, h4, h5, h6⟩ := stars_app.1 h2
    exact ⟨r, h1, a, b, d, h3, h4, h5, h6⟩
theorem get {h : Nat} {b : HB} (H : Sat hs (pt h b :: l)) : hs[h]? = some (some b) := by
  obtain ⟨r, h1, a, c, _, h3, _, h5, _⟩ := H
  exact (h1 h _ (h3 h _ h5.1)).2 b rfl
theorem lt {h : Nat} {b : HB} (H : Sat hs (pt h b :: l)) : h < hs.length := lt_of_get H.get
/-- the core: a part turns into another one at the same handle or at a new one, the rest stays. -/
theorem turnZ {h k : Nat} {b b' : HB} (Z : Nat → Option HB) (H : Sat hs (pt h b :: l)) (hl : hs.length ≤ hs'.length) (same : ∀ i, i < hs.length → i ≠ h → i ∉ b.olds → hs'[i]? = hs[i]?)
    (hk : hs'[k]? = some (some b')) (kk : k = h ∨ hs.length ≤ k) (ho : ∀ o ∈ b'.olds, o ≠ k ∧ (o = h ∨ o ∈ b.olds)) (hz : ∀ i c, i ≠ k → (i = h ∨ i ∈ b.olds) → Z i = some c → hs'[i]? = some (some c)) :
    Sat hs' ((fun r => pt k b' r ∧ ∀ i, i ≠ k → (i = h ∨ i ∈ b.olds) → r i = some (Z i)) :: l) := by
  obtain ⟨r, h1, a, c, d, h3, h4, ⟨h5, h6⟩, h7⟩ := H
  have cn : ∀ i, c i ≠ none → i < hs.length ∧ i ≠ h ∧ i ∉ b.olds := fun i hi => by
    cases hc : c i with
    | none => exact absurd hc hi
    | some x =>
      refine ⟨(h1 i x (h4 i x hc)).1, fun e => ?_, fun e => ?_⟩
      · subst e
        rcases d i with e | e
        · rw [e] at h5; cases h5
        · rw [e] at hc; cases hc
      · obtain ⟨_, y, hy⟩ := h6 i e
        rcases d i with e | e
        · rw [e] at hy; cases hy
        · rw [e] at hc; cases hc
  refine ⟨ru (fun i => if i = k then some (some b') else if i = h ∨ i ∈ b.olds then some (Z i) else none) c, ?_, ⟨fun i => if i = k then some (some b') else if i = h ∨ i ∈ b.olds then some (Z i) else none, c, ?_, sub_unl _ _, ?_, ?_, h7⟩⟩
  · have hlt : h < hs.length := (h1 h _ (h3 h _ h5)).1
    intro i o e
    simp only [ru] at e
    split at e
    · rename_i x hx
      cases e
      split at hx
      · rename_i hik
        cases hx; subst hik
        exact ⟨lt_of_get hk, fun b e => by cases e; exact hk⟩
      · split at hx
        · rename_i hik
          cases hx
          refine ⟨?_, fun c e => hz i c (by assumption) hik e⟩
          rcases hik with e | e
          · subst e; omega
          · obtain ⟨_, y, hy⟩ := h6 i e
            have := (h1 i _ (h3 i _ hy)).1
            omega
        · cases hx
    · obtain ⟨q1, q2, q3⟩ := cn i (by rw [e]; simp)
      have := h1 i o (h4 i o e)
      exact ⟨by omega, fun b e => by rw [same i q1 q2 q3]; exact this.2 b e⟩
  · intro i
    simp only
    split
    · rename_i hik
      right
      cases hc : c i with
      | none => rfl
      | some x =>
        obtain ⟨q1, q2, _⟩ := cn i (by rw [hc]; simp)
        rcases kk with e | e <;> omega
    · split
      · rename_i hik
        right
        cases hc : c i with
        | none => rfl
        | some x =>
          obtain ⟨_, q2, q3⟩ := cn i (by rw [hc]; simp)
          rcases hik with e | e
          · exact absurd e q2
          · exact absurd e q3
      · exact .inl rfl
  · intro i x e
    simp only [ru]
    obtain ⟨q1, q2, q3⟩ := cn i (by rw [e]; simp)
    split
    · rename_i y hy
      split at hy
      · rename_i hik
        rcases kk with e | e <;> omega
      · split at hy
        · rename_i hik
          rcases hik with e | e
          · exact absurd e q2
          · exact absurd e q3
        · cases hy
    · exact e
  · refine ⟨⟨by simp, fun o hm => ?_⟩, fun i g1 g2 => ?_⟩
    · obtain ⟨g1, g2⟩ := ho o hm
      refine ⟨g1, Z o, ?_⟩
      simp only
      rw [if_neg g1, if_pos g2]
    · simp only
      rw [if_neg g1, if_pos g2]
theorem turn {h k : Nat} {b b' : HB} (H : Sat hs (pt h b :: l)) (hl : hs.length ≤ hs'.length) (same : ∀ i, i < hs.length → i ≠ h → i ∉ b.olds → hs'[i]? = hs[i]?)
    (hk : hs'[k]? = some (some b')) (kk : k = h ∨ hs.length ≤ k) (ho : ∀ o ∈ b'.olds, o ≠ k ∧ (o = h ∨ o ∈ b.olds)) : Sat hs' (pt k b' :: l) :=
  (H.turnZ (fun _ => none) hl same hk kk ho (by simp)).imp fun _ h => h.1
/-- a new handle. -/
theorem fresh {k : Nat} {b : HB} (H : Sat hs l) (hl : hs.length ≤ hs'.length) (same : ∀ i, i < hs.length → hs'[i]? = hs[i]?) (hk : hs'[k]? = some (some b)) (kk : hs.length ≤ k) (ho : b.olds = []) : Sat hs' (pt k b :: l) := by
  obtain ⟨r, h1, h2⟩ := H
  have rn : ∀ i x, r i = some x → i ≠ k := fun i x e => by have := (h1 i x e).1; omega
  refine ⟨ru (fun i => if i = k then some (some b) else none) r, ?_, ⟨fun i => if i = k then some (some b) else none, r, ?_, sub_unl _ _, ?_, ⟨by simp, by rw [ho]; simp⟩, h2⟩⟩
  · intro i o e
    simp only [ru] at e
    split at e
    · rename_i x hx
      cases e
      split at hx
      · rename_i hik
        cases hx; subst hik
        exact ⟨lt_of_get hk, fun b e => by cases e; exact hk⟩
      · cases hx
    · have := h1 i o e
      exact ⟨by omega, fun b e => by rw [same i this.1]; exact this.2 b e⟩
  · intro i
    simp only
    split
    · rename_i hik
      right
      cases hr : r i with
      | none => rfl
      | some x => exact absurd hik (rn i x hr)
    · exact .inl rfl
  · intro i x e
    simp only [ru]
    rw [if_neg (rn i x e)]; exact e
theorem more {g : HS} (H : Sat hs l) : Sat (hs ++ g) l := by
  obtain ⟨r, h1, h2⟩ := H
  exact ⟨r, fun i o e => by
    have := h1 i o e
    exact ⟨by simp; omega, fun b e => by rw [List.getElem?_append_left this.1]; exact this.2 b e⟩, h2⟩
theorem push {b : HB} (H : Sat hs l) (ho : b.olds = []) : Sat (hs ++ [some b]) (pt hs.length b :: l) :=
  H.fresh (by simp) (fun i hi => List.getElem?_append_left hi) (by simp) (Nat.le_refl _) ho
theorem put {h s : Nat} {cs cs' : List HV} {ro ro' opn opn' : Bool} {olds : List Nat} (H : Sat hs (pt h (.cells s cs ro opn olds) :: l)) :
    Sat ((killAll olds hs).set h (some (.cells s cs' ro' opn' []))) (pt h (.cells s cs' ro' opn' []) :: l) := by
  have hlt := H.lt
  refine H.turn (by simp [killAll_length]) (fun i hi h1 h2 => ?_) ?_ (.inl rfl) (by simp [HB.olds])
  · rw [List.getElem?_set_ne (by omega)]; exact killAll_ne h2
  · rw [List.getElem?_set_self (by rw [killAll_length]; exact hlt)]
theorem p1 (h : Sat hs (A :: B :: l)) : Sat hs (B :: A :: l) := h.perm (.swap _ _ _)
end Sat
end Go.HL
