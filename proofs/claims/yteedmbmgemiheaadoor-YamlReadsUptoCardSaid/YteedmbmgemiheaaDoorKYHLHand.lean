/-
  HL: lists that were handed in, bytes within their elements.
-/
import Derived.Test.YteedmbmgemiheaaDoorKYHLFlat
import Derived.Test.YteedmbmgemiheaaDoorKYHLOpen
import Derived.SizedLaws
namespace Go.HL
open Go
variable {H : Type} {enc : TypeId × Value → H} {P : Program} {M : World} {base : Nat} {held : Bool} {fuel : Nat} {cs : List Value} {x : DataW H × List MemPlace}
/-- bytes that were handed in; z: some handle (for a slice without room). -/
theorem arg_bytesR {t tu : TypeId} (ht : P.underlying t = some (.slice tu)) (hu : P.underlying tu = some (.int .u8)) (hc : P.cellsOf tu = 1) (h : DataW.trod enc P M base (fun _ => true) held fuel t cs = some x)
    {β : List Ent} {hs : HS} (E : Emb β hs M) (hro : AllRo hs) (hz : 0 < hs.length) :
    ∃ β' hs' v b, Ext β β' ∧ (∃ g, hs' = hs ++ g) ∧ Emb β' hs' M ∧ AllRo hs' ∧ RelL β' [v] cs ∧ Rd hs' 1 v b.length (bcells b) ∧ (b = [] ∨ ∃ el sp, x.1 = .slice el sp ∧ el.length = b.length) := by
  rcases Go.Deep.open_slice1 ht hc h with ⟨rfl, rfl⟩ | ⟨a, len, cap, m, n, V, D, Pl, rfl, _, hle, hmax, hm, rfl, hel⟩
  · refine ⟨β, hs, .nilSlice, [], Ext.refl _, ⟨[], by simp⟩, E, hro, ?_, Rd.nil, .inl rfl⟩
    simp only [RelL, Rel]
    exact ⟨_, _, rfl, rfl, rfl⟩
  · rw [if_pos rfl] at hm
    subst hm
    have wf : ∀ (b : List UInt8), b.length = len → b = [] ∨ ∃ el sp, (DataW.slice ((List.range len).map D) ((List.range (m - len)).map fun j => D (len + j)), MemPlace.row a m ++ (List.range m).flatMap Pl).1 = DataW.slice el sp ∧ el.length = b.length := by
      intro b hb
      exact .inr ⟨_, _, rfl, by rw [hb]; simp⟩
    rcases Nat.eq_zero_or_pos m with hc0 | hc0
    · have hl0 : len = 0 := by omega
      subst hc0 hl0
      have hzb : 0 < β.length := by rw [E.len]; exact hz
      refine ⟨β, hs, .slice 0 0 0 (some 0), [], Ext.refl _, ⟨[], by simp⟩, E, hro, ?_, ⟨by simp [bcells], .inr (.inl ⟨0, 0, rfl, rfl⟩)⟩, wf [] rfl⟩
      simp only [RelL, Rel]
      exact ⟨_, _, rfl, ⟨β[0], a, 0, List.getElem?_eq_getElem hzb, rfl, Nat.le_refl _, ⟨rfl, Nat.zero_le _⟩, fun h => absurd h (by omega)⟩, rfl⟩
    · have each : ∀ i, ∃ c : UInt8, i < m → V i = .int .u8 c.toNat := by
        intro i
        by_cases hi : i < m
        · obtain ⟨c, hcv⟩ := arg_u8 hu (hel i hi).2
          exact ⟨c, fun _ => by simpa using hcv⟩
        · exact ⟨0, fun h => absurd h hi⟩
      obtain ⟨B, hB⟩ : ∃ B : Nat → UInt8, ∀ i, i < m → V i = .int .u8 (B i).toNat := ⟨fun i => Classical.choose (each i), fun i => Classical.choose_spec (each i)⟩
      obtain ⟨_, c, t', fz, hex, _⟩ := cell_some (hel 0 hc0).1
      obtain ⟨e, E4, R4⟩ := emb_arg E hro hex (s := 1) (by omega) (a := a) (len := len) (cap := m) (us := (List.range m).map fun i => Value.int .u8 (B i).toNat) (by simp) hle
        (fun i u hu' => by
          rw [List.getElem?_map, Option.map_eq_some_iff] at hu'
          obtain ⟨j, hj, rfl⟩ := hu'
          have hjm := lt_of_get hj
          rw [List.getElem?_range (by simpa using hjm)] at hj
          have hji : j = i := (Option.some.inj hj).symm
          subst hji
          have hlt : j < m := by simpa using hjm
          rw [(hel j hlt).1, hB j hlt])
        (xs := bcells ((List.range len).map B)) (by
          rw [Nat.mul_one, ← List.map_take]
          have htk : (List.range m).take len = List.range len := by
            apply List.ext_getElem?
            intro i
            rw [List.getElem?_take]
            by_cases hi : i < len
            · rw [if_pos hi, List.getElem?_range (by omega), List.getElem?_range hi]
            · rw [if_neg hi, List.getElem?_eq_none (by simp; omega)]
          rw [htk]
          unfold bcells
          rw [List.map_map]
          refine RelL.of_get (by simp) fun i y hy => ?_
          rw [List.getElem?_map, Option.map_eq_some_iff] at hy
          obtain ⟨j, hj, rfl⟩ := hy
          exact ⟨_, by rw [List.getElem?_map, hj]; rfl, by simp [Rel]⟩) (fun y hy => by
          unfold bcells at hy
          obtain ⟨c, _, rfl⟩ := List.mem_map.1 hy
          rfl)
      have lb : ((List.range len).map B).length = len := by simp
      refine ⟨_, _, .slice hs.length 0 len (some m), (List.range len).map B, Ext.snoc _ _, ⟨_, rfl⟩, E4, hro.snoc rfl, ?_, ?_, wf _ lb⟩
      · simp only [RelL]
        exact ⟨_, _, rfl, R4, rfl⟩
      · rw [lb]
        exact Rd.fresh hs 1 len _ true false (by rw [bcells_length, lb]; omega) (some m) (fun c e => by cases e; exact hle)
/-- elements, each laid behind those ahead of it. -/
theorem emb_each {α : Type} {M : World} {Good : List Ent → HS → Nat → α → Prop} (mono : ∀ β β' hs g i a, Good β hs i a → Ext β β' → Good β' (hs ++ g) i a) : ∀ (len : Nat)
    (_ : ∀ i, i < len → ∀ β hs, Emb β hs M → AllRo hs → 0 < hs.length → ∃ β' hs' a, Ext β β' ∧ (∃ g, hs' = hs ++ g) ∧ Emb β' hs' M ∧ AllRo hs' ∧ Good β' hs' i a)
    {β : List Ent} {hs : HS} (_ : Emb β hs M) (_ : AllRo hs) (_ : 0 < hs.length),
    ∃ (β' : List Ent) (hs' : HS) (A : List α), A.length = len ∧ Ext β β' ∧ (∃ g, hs' = hs ++ g) ∧ Emb β' hs' M ∧ AllRo hs' ∧ ∀ (i : Nat) a, A[i]? = some a → Good β' hs' i a
  | 0, _, β, hs, E, hro, _ => ⟨β, hs, [], rfl, Ext.refl _, ⟨[], by simp⟩, E, hro, fun i a h => by simp at h⟩
  | n + 1, step, β, hs, E, hro, hz => by
    obtain ⟨β1, hs1, A, h1, h2, ⟨g1, h3⟩, h4, h5, h6⟩ := emb_each mono n (fun i hi => step i (by omega)) E hro hz
    obtain ⟨β2, hs2, a, q1, ⟨g2, q2⟩, q3, q4, q5⟩ := step n (by omega) β1 hs1 h4 h5 (by rw [h3]; simp; omega)
    refine ⟨β2, hs2, A ++ [a], by simp [h1], h2.trans q1, ⟨g1 ++ g2, by rw [q2, h3, List.append_assoc]⟩, q3, q4, fun i b hb => ?_⟩
    rw [List.getElem?_append] at hb
    split at hb
    · rw [q2]; exact mono _ _ _ _ _ _ (h6 i b hb) q1
    · rename_i hi
      have : i = n := by have := lt_of_get hb; simp at this; omega
      subst this
      rw [h1, Nat.sub_self] at hb
      cases hb
      exact q5
end Go.HL
