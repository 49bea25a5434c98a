/-
  HL: tables of the library that are package variables; strconv.Itoa by its contract.
-/
import Derived.Test.YthihchoccpnfeaaDoorKCHLStr
import Derived.Lib.LaidTab
import Derived.Lib.ItoaNum
import Derived.Lib.AppendIntMem
namespace Go.HL
open Go Go.RowKit

def hasTab : HS → Nat → IntKind → List Int → Bool
  | [], _, _, _ => false
  | some (.gtab g' k' zs') :: r, g, k, zs => (decide (g' = g) && decide (k' = k) && decide (zs' = zs)) || hasTab r g k zs
  | _ :: r, g, k, zs => hasTab r g k zs

theorem hasTab_get : ∀ {hs : HS} {g : Nat} {k : IntKind} {zs : List Int}, hasTab hs g k zs = true → ∃ i : Nat, hs[i]? = some (some (HB.gtab g k zs))
  | [], g, k, zs, h => by simp [hasTab] at h
  | b :: r, g, k, zs, h => by
    unfold hasTab at h
    split at h
    · rename_i hx; simp at hx
    · rename_i g' k' zs' r' hx
      obtain ⟨rfl, rfl⟩ := List.cons.inj hx
      simp only [Bool.or_eq_true, Bool.and_eq_true, decide_eq_true_eq] at h
      rcases h with ⟨⟨rfl, rfl⟩, rfl⟩ | h
      · exact ⟨0, rfl⟩
      · obtain ⟨i, hi⟩ := hasTab_get h
        exact ⟨i + 1, by simpa using hi⟩
    · rename_i r' _ hx
      obtain ⟨rfl, rfl⟩ := List.cons.inj hx
      obtain ⟨i, hi⟩ := hasTab_get h
      exact ⟨i + 1, by simpa using hi⟩

theorem tabIs_of {P : Program} {β : List Ent} {hs : HS} {w : World} (E : Emb β hs w) {name : String} {g : Nat} {k : IntKind} {zs : List Int} (hg : P.globalNamed name = some g) (h : hasTab hs g k zs = true) : Lib.TabIs P w name k zs := by
  obtain ⟨i, hi⟩ := hasTab_get h
  have hlt : i < β.length := by rw [E.len]; exact lt_of_get hi
  obtain ⟨h1, _, t, fz, h2⟩ := E.blk i _ _ (List.getElem?_eq_getElem hlt) hi
  rw [h1] at h2
  unfold Lib.TabIs
  simp only [World.var?, hg, Option.bind_some, h2]

/-- strconv.Itoa; g: the place of internal/strconv.uint64pow10. -/
def xItoa (g : Nat) : List HV → HS → Option (HV × HS)
  | [.int .i64 n], hs => if hasTab hs g .u64 Lib.pow10Tab = true ∧ -9223372036854775808 ≤ n ∧ n ≤ 9223372036854775807 then some (.str (Lib.itoa n), hs) else none
  | _, _ => none

theorem xItoa_sound {P : Program} {f g : Nat} (hok : okF P f) (hg : P.globalNamed "internal/strconv.uint64pow10" = some g)
    (hI : ∀ (n : Int) (w : World), -9223372036854775808 ≤ n → n ≤ 9223372036854775807 → Lib.TabIs P w "internal/strconv.uint64pow10" .u64 Lib.pow10Tab →
      Calls P f #[.int .i64 n] w fun e w' => e = .returned (.string ⟨(Lib.itoa n).toArray⟩) ∧ Below w.heap.size w w')
    {args : List HV} {hs : HS} {v : HV} {hs' : HS} (h : xItoa g args hs = some (v, hs')) : HCall P f args hs fun v1 hs1 => v1 = v ∧ hs1 = hs' := by
  refine .inl ⟨hok, fun β w us E R => ?_⟩
  unfold xItoa at h
  split at h
  · rename_i n
    split at h
    · rename_i hb
      simp at h; obtain ⟨rfl, rfl⟩ := h
      simp only [RelL, Rel] at R
      obtain ⟨_, _, rfl, rfl, rfl⟩ := R
      refine (hI n w hb.2.1 hb.2.2 (tabIs_of E hg hb.1)).mono ?_
      rintro e' w' ⟨rfl, hbel⟩
      exact ⟨β, _, _, _, rfl, ⟨rfl, rfl⟩, rfl, Step.below E hbel⟩
    · simp at h
  · simp at h
end Go.HL
