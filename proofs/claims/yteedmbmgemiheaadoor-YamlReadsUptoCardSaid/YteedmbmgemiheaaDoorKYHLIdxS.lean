/-
  HL: internal/stringslite.Index (strings.Index, strings.Cut) by what the kit says of it.
-/
import Derived.Test.YteedmbmgemiheaaDoorKYHLIndex
namespace Go.HL
open Go Go.RowKit

/-- g: the place of internal/bytealg.MaxLen. -/
def xIndexStr (g : Nat) : List HV → HS → Option (HV × HS)
  | [.str a, .str b], hs =>
    match hs[0]? with
    | some (some (HB.gint g')) => if g' = g ∧ a.length < 4294967281 then some (.int .i64 (Lib.index a b), hs) else none
    | _ => none
  | _, _ => none

theorem xIndexStr_sound {P : Program} {f g : Nat} (hok : okF P f)
    (hI : ∀ (s sub : ByteArray) (m : Int) (w : World), s.size < 4294967281 → w.cell? ⟨g, 0, none⟩ = some (.int .i64 m) →
      Calls P f #[.string s, .string sub] w fun e w' => e = .returned (.int .i64 (Lib.index s.data.toList sub.data.toList)) ∧ w' = w)
    {args : List HV} {hs : HS} {v : HV} {hs' : HS} (h : xIndexStr g args hs = some (v, hs')) : HCall P f args hs fun v1 hs1 => v1 = v ∧ hs1 = hs' := by
  refine .inl ⟨hok, fun β w us E R => ?_⟩
  unfold xIndexStr at h
  split at h
  · rename_i a b
    split at h
    · rename_i g' hg
      split at h
      · rename_i hb
        obtain ⟨rfl, hl⟩ := hb
        simp at h; obtain ⟨rfl, rfl⟩ := h
        simp only [RelL, Rel] at R
        obtain ⟨_, _, rfl, rfl, _, _, rfl, rfl, rfl⟩ := R
        have he : ∃ e, β[0]? = some e := by
          have : 0 < β.length := by rw [E.len]; exact lt_of_get hg
          exact ⟨_, List.getElem?_eq_getElem this⟩
        obtain ⟨e, he⟩ := he
        obtain ⟨rfl, _, cur, t, fz, m, hgr, hc0⟩ := E.blk 0 e _ he hg
        refine (hI ⟨a.toArray⟩ ⟨b.toArray⟩ m w (by simpa [ByteArray.size] using hl) (by simp [World.cell?, hgr, hc0])).mono ?_
        rintro e' w' ⟨rfl, rfl⟩
        exact ⟨β, _, _, _, rfl, ⟨rfl, rfl⟩, rfl, Step.refl E⟩
      · simp at h
    · simp at h
  · simp at h
end Go.HL
