/-
  HL: bytes.Index, by its contract: the package variable internal/bytealg.MaxLen holds some int.
-/
import Derived.Test.YtccfcegmaejlnaaHLExt
import Derived.Lib.Index
import Derived.Lib.Bytes
import Derived.Deep.Draws
namespace Go.HL
open Go

def u8s : List HV → Option (List Int)
  | [] => some []
  | .int .u8 n :: r => if 0 ≤ n ∧ n < 256 then (u8s r).map (n :: ·) else none
  | _ => none

theorem u8s_get : ∀ {cs : List HV} {xs : List Int}, u8s cs = some xs → cs = xs.map (HV.int .u8) ∧ ∀ x ∈ xs, 0 ≤ x ∧ x < 256
  | [], xs, h => by simp [u8s] at h; subst h; simp
  | c :: cs, xs, h => by
    unfold u8s at h
    split at h
    · rename_i hx; simp at hx
    · rename_i n r hx
      obtain ⟨rfl, rfl⟩ := List.cons.inj hx
      split at h
      · rename_i hn
        simp only [Option.map_eq_some_iff] at h
        obtain ⟨l, hl, rfl⟩ := h
        obtain ⟨h1, h2⟩ := u8s_get hl
        refine ⟨by rw [h1]; simp, fun x hx => ?_⟩
        rcases List.mem_cons.1 hx with rfl | hx
        · exact hn
        · exact h2 x hx
      · simp at h
    · simp at h

def hu8s (hs : HS) : HV → Option (List Int)
  | .slice h o len cap => match takeCells hs 1 (.slice h o len cap) with
    | some (_, cs) => u8s cs
    | none => none
  | _ => none

theorem hu8s_sound {β : List Ent} {hs : HS} {w : World} (E : Emb β hs w) {h o len : Nat} {cap : Option Nat} {u : Value} {xs : List Int} (hx : Rel β (.slice h o len cap) u) (hi : hu8s hs (.slice h o len cap) = some xs) :
    ∃ a c, u = .slice (some a) len c ∧ len ≤ c ∧ xs.length = len ∧ (∀ x ∈ xs, 0 ≤ x ∧ x < 256) ∧ ∀ i, i < len → w.cell? (a.add i) = some (.int .u8 (xs.getD i 0)) := by
  simp only [Rel] at hx
  obtain ⟨e, a, c, he, rfl, hlc, hc, ha⟩ := hx
  simp only [hu8s] at hi
  split at hi
  · rename_i m cs ht
    obtain ⟨hcs, hbd⟩ := u8s_get hi
    simp only [takeCells] at ht
    split at ht
    · rename_i h0
      simp at ht; obtain ⟨rfl, rfl⟩ := ht
      have : xs = [] := List.map_eq_nil_iff.1 hcs.symm
      subst this
      exact ⟨a, c, rfl, hlc, h0.symm, by simp, fun i h => absurd h (by omega)⟩
    · rename_i h0
      split at ht
      · rename_i s' cs' ro opn olds hb
        split at ht
        · rename_i hle
          obtain ⟨rfl, hle⟩ := hle
          simp only [Nat.mul_one] at hle ht
          simp at ht; obtain ⟨rfl, rfl⟩ := ht
          have hB := E.blk h e _ he hb
          obtain ⟨us, r1, r2, _, r4⟩ := hB.seg o len hle
          have hes := hB.1
          rw [hcs] at r1
          have hlen : xs.length = len := by have := r1.length; simp at this; omega
          refine ⟨a, c, rfl, hlc, hlen, hbd, fun i hi => ?_⟩
          have hxi : (xs.map (HV.int .u8))[i]? = some (HV.int .u8 (xs.getD i 0)) := by
            rw [List.getElem?_map, List.getD_eq_getElem?_getD]
            have : i < xs.length := by omega
            simp [this]
          obtain ⟨u, h1, h2⟩ := r1.get hxi
          simp only [Rel] at h2; subst h2
          have := r4 i _ h1
          rw [ha (by omega), Addr.add_lit, hes, Nat.mul_one]
          exact this
        · simp at ht
      · simp at ht
  · simp at hi

/-- bytes.Index of two slices of known bytes; g: the place of internal/bytealg.MaxLen. -/
def xIndex (g : Nat) : List HV → HS → Option (HV × HS)
  | [x, y], hs =>
    match hs[0]? with
    | some (some (HB.gint g')) => if g' = g then match x, y with
      | .slice _ _ n _, .slice _ _ k _ => match hu8s hs x, hu8s hs y with
        | some xs, some ys => if n < 4294967281 ∧ k ≤ 9223372036854775807 then some (.int .i64 (Lib.index (Lib.bytesOf xs) (Lib.bytesOf ys)), hs) else none
        | _, _ => none
      | .nilSlice, .slice _ _ k _ => if 2 ≤ k ∧ k ≤ 9223372036854775807 then some (.int .i64 (-1), hs) else none
      | _, _ => none
      else none
    | _ => none
  | _, _ => none

theorem xIndex_sound {P : Program} {f g : Nat} (hok : okF P f)
    (hI : ∀ (a1 a2 : Addr) (n c1 k c2 : Nat) (xs ys : List Int) (m : Int) (w : World), xs.length = n → ys.length = k → (∀ x ∈ xs, 0 ≤ x ∧ x < 256) → (∀ y ∈ ys, 0 ≤ y ∧ y < 256) →
      (∀ i, i < n → w.cell? (a1.add i) = some (.int .u8 (xs.getD i 0))) → (∀ i, i < k → w.cell? (a2.add i) = some (.int .u8 (ys.getD i 0))) → n ≤ c1 → n < 4294967281 → k ≤ 9223372036854775807 → w.cell? ⟨g, 0, none⟩ = some (.int .i64 m) →
      Calls P f #[.slice (some a1) n c1, .slice (some a2) k c2] w fun e w' => e = .returned (.int .i64 (Lib.index (Lib.bytesOf xs) (Lib.bytesOf ys))) ∧ ∃ q, w' = w.drewN q)
    (hN : ∀ (a2 : Addr) (k c2 : Nat) (w : World), 2 ≤ k → k ≤ 9223372036854775807 → Calls P f #[.slice none 0 0, .slice (some a2) k c2] w fun e w' => e = .returned (.int .i64 (-1)) ∧ w' = w)
    {args : List HV} {hs : HS} {v : HV} {hs' : HS} (h : xIndex g args hs = some (v, hs')) : HCall P f args hs fun v1 hs1 => v1 = v ∧ hs1 = hs' := by
  refine .inl ⟨hok, fun β w us E R => ?_⟩
  unfold xIndex at h
  split at h
  · rename_i x y
    split at h
    · rename_i g' hg
      split at h
      · rename_i hgg; subst hgg
        simp only [RelL] at R
        obtain ⟨u1, _, rfl, R1, u2, _, rfl, R2, rfl⟩ := R
        split at h
        · rename_i h1 o1 n c1 h2 o2 k c2
          split at h
          · rename_i xs ys hxs hys
            split at h
            · rename_i hb
              simp at h; obtain ⟨rfl, rfl⟩ := h
              obtain ⟨a1, cc1, rfl, q1, q2, q3, q4⟩ := hu8s_sound E R1 hxs
              obtain ⟨a2, cc2, rfl, p1, p2, p3, p4⟩ := hu8s_sound E R2 hys
              have he : ∃ e, β[0]? = some e := by
                have : 0 < β.length := by rw [E.len]; exact lt_of_get hg
                exact ⟨_, List.getElem?_eq_getElem this⟩
              obtain ⟨e, he⟩ := he
              obtain ⟨rfl, _, cur, t, fz, m, hgr, hc0⟩ := E.blk 0 e _ he hg
              refine (hI a1 a2 n cc1 k cc2 xs ys m w q2 p2 q3 p3 q4 p4 q1 hb.1 hb.2 (by simp [World.cell?, hgr, hc0])).mono ?_
              rintro e' w' ⟨rfl, q, rfl⟩
              exact ⟨β, _, _, _, rfl, ⟨rfl, rfl⟩, rfl, Step.heap E rfl rfl rfl rfl⟩
            · simp at h
          · simp at h
        · rename_i h2 o2 k c2
          split at h
          · rename_i hb
            simp at h; obtain ⟨rfl, rfl⟩ := h
            simp only [Rel] at R1 R2
            subst R1
            obtain ⟨e2, a2, cc2, _, rfl, _⟩ := R2
            refine (hN a2 k cc2 w hb.1 hb.2).mono ?_
            rintro e' w' ⟨rfl, rfl⟩
            exact ⟨β, _, _, _, rfl, ⟨rfl, rfl⟩, rfl, Step.refl E⟩
          · simp at h
        · simp at h
      · simp at h
    · simp at h
  · simp at h

/-- a world whose package variable g holds an int. -/
theorem emb_gint {w : World} {g : Nat} {m : Int} (h : w.cell? ⟨g, 0, none⟩ = some (.int .i64 m)) : Emb [⟨g, 0, 1, 1⟩] [some (.gint g)] w := by
  refine ⟨rfl, fun i e b h1 h2 => ?_, fun i j e e' b b' hne h1 h2 h3 h4 => ?_⟩
  · have hi : i = 0 := by have := lt_of_get h1; simp at this; omega
    subst hi
    simp at h1 h2; subst h1 h2
    refine ⟨rfl, rfl, ?_⟩
    simp only [World.cell?] at h
    split at h
    · rename_i cur t fz hc
      exact ⟨cur, t, fz, m, hc, by simpa using h⟩
    all_goals simp at h
  · have := lt_of_get h1; have := lt_of_get h2
    simp at *
    omega
end Go.HL
