/-
  HL: bytes.Index, by its contract: the package variable internal/bytealg.MaxLen holds some int.
-/
import Derived.Test.YteedmbmgemiheaaDoorKYHLExt
import Derived.Lib.Index
import Derived.Lib.Bytes
import Derived.Deep.Draws
namespace Go.HL
open Go

/-- a world whose package variable g holds an int. -/
theorem emb_gint {w : World} {g : Nat} {m : Int} (h : w.cell? ⟨g, 0, none⟩ = some (.int .i64 m)) : Emb [⟨g, 0, 1, 1⟩] [some (.gint g)] w := by
  refine ⟨rfl, fun i e b h1 h2 => ?_, fun i j e e' b b' hne h1 h2 h3 h4 => ?_⟩
  · have hi : i = 0 := by have := lt_of_get h1; simp at this; omega
    subst hi
    simp at h1 h2; subst h1 h2
    refine ⟨rfl, rfl, ?_⟩
    simp only [World.cell?] at h
    split at h
    · rename_i cur t fz hc
      exact ⟨cur, t, fz, m, hc, by simpa using h⟩
    all_goals simp at h
  · have := lt_of_get h1; have := lt_of_get h2
    simp at *
    omega
end Go.HL
