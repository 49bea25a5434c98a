/-
  HL: arguments that were handed in, opened: bytes, numbers, texts.
-/
import Derived.Test.YtccfcegmaejlnaaHLArg
import Derived.Test.YtccfcegmaejlnaaHLByte
import Derived.Deep.Slices
import Derived.ChangeArms
import Derived.WideShapes
namespace Go.HL
open Go
section
variable {H : Type} {enc : TypeId × Value → H} {P : Program} {M : World} {base : Nat} {held : Bool} {fuel : Nat} {cs : List Value} {x : DataW H × List MemPlace}

theorem arg_int {t : TypeId} {sp : Nat → Bool} (ht : P.underlying t = some (.int .i64)) (h : DataW.trod enc P M base sp held fuel t cs = some x) : ∃ n : Int, cs = [.int .i64 n] ∧ -9223372036854775808 ≤ n ∧ n ≤ 9223372036854775807 := by
  obtain ⟨n, rfl, _, hw⟩ := DataW.trod_int ht h
  have h2 : (decide (IntKind.i64.min ≤ n) && decide (n ≤ IntKind.i64.max)) = true := hw
  rw [Bool.and_eq_true, decide_eq_true_eq, decide_eq_true_eq] at h2
  have h3 : IntKind.i64.max = 9223372036854775807 := by decide
  have h4 : IntKind.i64.min = -9223372036854775808 := by decide
  rw [h3, h4] at h2
  exact ⟨n, rfl, h2⟩
theorem arg_u8 {t : TypeId} {sp : Nat → Bool} (ht : P.underlying t = some (.int .u8)) (h : DataW.trod enc P M base sp held fuel t cs = some x) : ∃ c : UInt8, cs = [.int .u8 c.toNat] := by
  obtain ⟨n, rfl, _, hw⟩ := DataW.trod_int ht h
  have h2 : (decide (IntKind.u8.min ≤ n) && decide (n ≤ IntKind.u8.max)) = true := hw
  rw [Bool.and_eq_true, decide_eq_true_eq, decide_eq_true_eq] at h2
  have h3 : IntKind.u8.max = 255 := by decide
  have h4 : IntKind.u8.min = 0 := by decide
  rw [h3, h4] at h2
  refine ⟨UInt8.ofNat n.toNat, ?_⟩
  have : (UInt8.ofNat n.toNat).toNat = n.toNat := by
    have h5 : (UInt8.ofNat n.toNat).toNat = n.toNat % 256 := rfl
    omega
  rw [this]
  congr 2
  omega
theorem arg_str {t : TypeId} {sp : Nat → Bool} (ht : P.underlying t = some .string) (h : DataW.trod enc P M base sp held fuel t cs = some x) : ∃ b : List UInt8, cs = [.string ⟨b.toArray⟩] ∧ x.1 = .lit (.string b) := by
  obtain ⟨b, rfl, rfl, _⟩ := DataW.trod_string ht h
  exact ⟨b.data.toList, by simp, rfl⟩

/-- bytes that were handed in; z: some row that is known (for a slice without room). -/
theorem arg_bytes {t tu : TypeId} (ht : P.underlying t = some (.slice tu)) (hu : P.underlying tu = some (.int .u8)) (hc : P.cellsOf tu = 1) (h : DataW.trod enc P M base (fun _ => true) held fuel t cs = some x)
    {β : List Ent} {hs : HS} (E : Emb β hs M) (hro : AllRo hs) {z : Nat} {zc : List HV} {zo zn : Bool} {zl : List Nat} (hz : hs[z]? = some (some (.cells 1 zc zo zn zl))) :
    ∃ β' hs' v b, Ext β β' ∧ (∃ g, hs' = hs ++ g) ∧ Emb β' hs' M ∧ AllRo hs' ∧ RelL β' [v] cs ∧ SlAt hs' v (bcells b) ∧ b.length ≤ 9223372036854775807 ∧ (b = [] ∨ ∃ el sp, x.1 = .slice el sp ∧ el.length = b.length) := by
  rcases Go.Deep.open_slice1 ht hc h with ⟨rfl, rfl⟩ | ⟨a, len, cap, m, n, V, D, Pl, rfl, _, hle, hmax, hm, rfl, hel⟩
  · refine ⟨β, hs, .nilSlice, [], Ext.refl _, ⟨[], by simp⟩, E, hro, ?_, .inl ⟨rfl, rfl⟩, by simp, .inl rfl⟩
    simp only [RelL, Rel]
    exact ⟨_, _, rfl, rfl, rfl⟩
  · rw [if_pos rfl] at hm
    subst hm
    have hmx : maxLen = 9223372036854775807 := rfl
    have wf : ∀ (b : List UInt8), b.length = len → b = [] ∨ ∃ el sp, (DataW.slice ((List.range len).map D) ((List.range (m - len)).map fun j => D (len + j)), MemPlace.row a m ++ (List.range m).flatMap Pl).1 = DataW.slice el sp ∧ el.length = b.length := by
      intro b hb
      exact .inr ⟨_, _, rfl, by rw [hb]; simp⟩
    rcases Nat.eq_zero_or_pos m with hc0 | hc0
    · have hl0 : len = 0 := by omega
      subst hc0 hl0
      have hzb : z < β.length := by rw [E.len]; exact lt_of_get hz
      refine ⟨β, hs, .slice z 0 0 (some 0), [], Ext.refl _, ⟨[], by simp⟩, E, hro, ?_, .inr ⟨z, 0, some 0, zc, zo, zn, zl, rfl, hz, fun i x h => by simp [bcells] at h⟩, by simp, wf [] rfl⟩
      simp only [RelL, Rel]
      exact ⟨_, _, rfl, ⟨β[z], a, 0, List.getElem?_eq_getElem hzb, rfl, Nat.le_refl _, ⟨rfl, Nat.zero_le _⟩, fun h => absurd h (by omega)⟩, rfl⟩
    · have each : ∀ i, ∃ c : UInt8, i < m → V i = .int .u8 c.toNat := by
        intro i
        by_cases hi : i < m
        · obtain ⟨c, hcv⟩ := arg_u8 hu (hel i hi).2
          exact ⟨c, fun _ => by simpa using hcv⟩
        · exact ⟨0, fun h => absurd h hi⟩
      obtain ⟨B, hB⟩ : ∃ B : Nat → UInt8, ∀ i, i < m → V i = .int .u8 (B i).toNat := ⟨fun i => Classical.choose (each i), fun i => Classical.choose_spec (each i)⟩
      obtain ⟨_, c, t', fz, hex, _⟩ := cell_some (hel 0 hc0).1
      obtain ⟨e, E4, R4⟩ := emb_arg E hro hex (s := 1) (by omega) (a := a) (len := len) (cap := m) (us := (List.range m).map fun i => Value.int .u8 (B i).toNat) (by simp) hle
        (fun i u hu' => by
          rw [List.getElem?_map, Option.map_eq_some_iff] at hu'
          obtain ⟨j, hj, rfl⟩ := hu'
          have hjm := lt_of_get hj
          rw [List.getElem?_range (by simpa using hjm)] at hj
          have hji : j = i := (Option.some.inj hj).symm
          subst hji
          have hlt : j < m := by simpa using hjm
          rw [(hel j hlt).1, hB j hlt])
        (xs := bcells ((List.range len).map B)) (by
          rw [Nat.mul_one, ← List.map_take]
          have htk : (List.range m).take len = List.range len := by
            apply List.ext_getElem?
            intro i
            rw [List.getElem?_take]
            by_cases hi : i < len
            · rw [if_pos hi, List.getElem?_range (by omega), List.getElem?_range hi]
            · rw [if_neg hi, List.getElem?_eq_none (by simp; omega)]
          rw [htk]
          unfold bcells
          rw [List.map_map]
          refine RelL.of_get (by simp) fun i y hy => ?_
          rw [List.getElem?_map, Option.map_eq_some_iff] at hy
          obtain ⟨j, hj, rfl⟩ := hy
          exact ⟨_, by rw [List.getElem?_map, hj]; rfl, by simp [Rel]⟩) (fun y hy => by
          unfold bcells at hy
          obtain ⟨c, _, rfl⟩ := List.mem_map.1 hy
          rfl)
      refine ⟨_, _, .slice hs.length 0 len (some m), (List.range len).map B, Ext.snoc _ _, ⟨_, rfl⟩, E4, hro.snoc rfl, ?_, ?_, by simp; omega, wf _ (by simp)⟩
      · simp only [RelL]
        exact ⟨_, _, rfl, R4, rfl⟩
      · exact SlAt.fresh hs _ true len (by simp [bcells_length]) _
end
end Go.HL
