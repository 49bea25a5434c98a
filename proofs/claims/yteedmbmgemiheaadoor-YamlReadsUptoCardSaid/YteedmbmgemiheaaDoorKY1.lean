/-
  internal/stringslite.Index, laid off the shelf at this dump; what the evaluator takes of it.
  What a memory is at the beginning (the index's number), for the rows of this seat.
  yaml, plainly: what is read is what is written.
  strings.HasPrefix, CutPrefix, Cut; yaml.cut.
  Which texts are plain, which are keys; is a key there.
  yaml.ReadList, ReadDict.
  Which lists are alike.
-/
import Derived.Test.YteedmbmgemiheaaDoorKYHLIdxS
import Derived.Test.YteedmbmgemiheaaDoorProg
import Derived.Ground.NamesProg
import Derived.Shelf.LaysM
import Derived.Shelf.Strings.Search2
import Derived.KernelRfl
import Derived.Test.YteedmbmgemiheaaDoorRows
import Derived.Test.YteedmbmgemiheaaDoorKYHLShape
import Derived.Test.YteedmbmgemiheaaDoorKYHLRow
import Derived.Test.YteedmbmgemiheaaDoorKYHLArg
import Derived.Test.YteedmbmgemiheaaDoorKYHLIndex
import Derived.Test.YteedmbmgemiheaaDoorCards
import Derived.Test.YteedmbmgemiheaaDoorTie
import Derived.ProofKit
import Derived.Lib.LaidTab
import Derived.Stop.LaidErr
import Derived.MakeChecks
import Derived.LaidMore
import Derived.OpenShut
import Derived.Stop.Joined
import Derived.SevenTiedAt
import Derived.SizedLaws
import Derived.HandedShaped
import Derived.Carry
import Derived.OpenVars
import Derived.Lay
import Derived.Test.YteedmbmgemiheaaDoorKYHLRound
import Derived.Test.YteedmbmgemiheaaDoorKYHLVs
import Derived.Lib.Index
import Derived.Test.YteedmbmgemiheaaDoorKYHLFlat
import Derived.Test.YteedmbmgemiheaaDoorKYHLKeep
import Derived.Test.YteedmbmgemiheaaDoorKYHLLoops
namespace Go.Proofs
open Go.Shelf
def Tryd.laysM219_ren : Go.Shelf.Ren := ⟨fun | 219 => 55 | 217 => 59 | 225 => 60 | 224 => 61 | 267 => 62 | 266 => 64 | 314 => 65 | n => n, fun | 9 => 9 | 3 => 3 | 4 => 4 | 5 => 5 | 46 => 85 | 146 => 87 | 51 => 86 | n => n, fun | 1 => 1 | n => n⟩
theorem Tryd.laysM219 : Go.Proofs.LaysM.n219 Tryd.prog Tryd.laysM219_ren :=
  { mixed := by kernel_rfl
    f217 := Tryd.func59.trans (congrArg some (by kernel_rfl))
    f219 := Tryd.func55.trans (congrArg some (by kernel_rfl))
    f224 := Tryd.func61.trans (congrArg some (by kernel_rfl))
    f225 := Tryd.func60.trans (congrArg some (by kernel_rfl))
    f266 := Tryd.func64.trans (congrArg some (by kernel_rfl))
    f267 := Tryd.func62.trans (congrArg some (by kernel_rfl))
    f314 := Tryd.func65.trans (congrArg some (by kernel_rfl))
    t3 := Tryd.underlying3
    a3 := Tryd.isAgg3
    z3 := Tryd.sizeOf3
    v3 := Tryd.zeroValue3
    t4 := Tryd.underlying4
    a4 := Tryd.isAgg4
    z4 := Tryd.sizeOf4
    v4 := Tryd.zeroValue4
    t5 := Tryd.underlying5
    a5 := Tryd.isAgg5
    z5 := Tryd.sizeOf5
    v5 := Tryd.zeroValue5
    t9 := Tryd.underlying9
    a9 := Tryd.isAgg9
    z9 := Tryd.sizeOf9
    v9 := Tryd.zeroValue9
    t46 := Tryd.underlying85
    a46 := Tryd.isAgg85
    z46 := Tryd.sizeOf85
    v46 := Tryd.zeroValue85
    t51 := Tryd.underlying86
    a51 := Tryd.isAgg86
    z51 := Tryd.sizeOf86
    v51 := Tryd.zeroValue86
    t146 := Tryd.underlying87
    a146 := Tryd.isAgg87
    z146 := Tryd.sizeOf87
    v146 := Tryd.zeroValue87
    g1 := by kernel_rfl
    i3 := by kernel_rfl
    i4 := by kernel_rfl
    i5 := by kernel_rfl
    i9 := by kernel_rfl
    i46 := by kernel_rfl
    i51 := by kernel_rfl
    i146 := by kernel_rfl
    m1 := by kernel_rfl
    s1_3 := fun w h => Go.Proofs.cell_of_shapedOpen_int (zero := #[.int .i64 0]) (t := 3) h (of_decide_eq_true (by kernel_rfl)) (by kernel_rfl) rfl (by kernel_rfl) (by kernel_rfl) Tryd.underlying3 }
end Go.Proofs
namespace Go.Proofs.YteedmbmgemiheaaDoor
open Go Go.HL Go.Shelf

def X : FuncId → Option (List HV → HS → Option (HV × HS))
  | 55 => some (xIndexStr 1)
  | _ => none

theorem ok55 : okF Tryd.prog 55 := ⟨_, Tryd.func55, by kernel_rfl, by kernel_rfl⟩

theorem X_ok : XOk Tryd.prog X := by
  intro f g h
  unfold X at h
  split at h
  · simp at h; subst h
    exact fun args hs v hs' h => xIndexStr_sound ok55 (fun s sub m w h1 h2 => Any.stringslite_Index { Tryd.laysM219 with } s sub m w h1 h2) h
  · simp at h
end Go.Proofs.YteedmbmgemiheaaDoor
namespace Go.Proofs.YteedmbmgemiheaaDoor
open Go Go.HL Go.ChangeShapes Go.WideShapes Go.ChangeAt Go.ChangeMaps Go.RowKit
namespace W0
set_option maxRecDepth 100000
set_option linter.unusedSimpArgs false
theorem own : ownKnob Tryd.prog.godebug = none := by kernel_rfl
theorem laidOut : laidOutB Tryd.prog = true := by kernel_rfl
def hs1 : HS := [some (.gint 1)]
theorem ro1 : AllRo hs1 := fun i b h => by
  have hi : i = 0 := by have := lt_of_get h; simp [hs1] at this; omega
  subst hi
  simp [hs1] at h; subst h; rfl
theorem emb1 {W : World} {m : Int} (h : W.cell? ⟨1, 0, none⟩ = some (.int .i64 m)) : Emb [⟨1, 0, 1, 1⟩] hs1 W := emb_gint h

theorem bulk_one {H : Type} (d : DataW H) : 1 ≤ Rows.uptoBulk d := by
  cases d with
  | lit l => cases l <;> simp [Rows.uptoBulk]
  | _ => simp [Rows.uptoBulk]
theorem bulk_len {H : Type} : ∀ ds : List (DataW H), ds.length ≤ Rows.uptoBulkAll ds
  | [] => by simp
  | d :: ds => by
    have h1 := bulk_one d
    have := bulk_len ds
    simp only [List.length_cons, Rows.uptoBulkAll]; omega
theorem bulk_mem {H : Type} : ∀ {ds : List (DataW H)} {i : Nat} {d : DataW H}, ds[i]? = some d → Rows.uptoBulk d ≤ Rows.uptoBulkAll ds
  | d :: ds, 0, _, h => by simp only [List.getElem?_cons_zero, Option.some.injEq] at h; subst h; simp only [Rows.uptoBulkAll]; omega
  | d :: ds, i + 1, _, h => by
    have := bulk_mem (ds := ds) (i := i) (by simpa using h)
    simp only [Rows.uptoBulkAll]; omega
def bulkS {H : Type} : DataW H ⊕ List (DataW H) → Nat
  | .inl d => Rows.uptoBulk d
  | .inr ds => Rows.uptoBulkAll ds
/-- what is of small bulk has short lists. -/
theorem small_of {H : Type} {n : Nat} : ∀ (s : Sh) {d : DataW H ⊕ List (DataW H)} {a : s.D} (_ : s.Of d a) (_ : bulkS d ≤ n), s.Small n a
  | .int, _, _, _, _ => trivial
  | .bool, _, _, _, _ => trivial
  | .str, .inl d, t, h, hb => by
    have h : d = .lit (.string t) := h
    subst h
    have : t.length + 1 ≤ n := hb
    show t.length ≤ n
    omega
  | .bytes, .inl d, a, h, hb => by
    show a.2.length ≤ n
    rcases h with h | ⟨el, sp, rfl, h5⟩
    · rw [h]; simp
    · have := bulk_len el
      simp only [bulkS, Rows.uptoBulk] at hb; omega
  | .sl e, .inl d, a, h, hb => by
    rcases h with h | ⟨el, sp, rfl, h6, h7⟩
    · exact ⟨by rw [h]; simp, fun y hy => by rw [h] at hy; cases hy⟩
    · simp only [bulkS, Rows.uptoBulk] at hb
      have := bulk_len el
      refine ⟨by omega, fun y hy => ?_⟩
      obtain ⟨i, hi⟩ := List.getElem?_of_mem hy
      have hil : i < el.length := by have := lt_of_get hi; omega
      have hd := List.getElem?_eq_getElem hil
      have hm := bulk_mem hd
      exact small_of e (d := .inl el[i]) (h7 i _ y hd hi) (by simp only [bulkS]; omega)
  | .st f, .inl d, a, h, hb => by
    obtain ⟨ds, rfl, h4⟩ := h
    exact small_of f (d := .inr ds) h4 (by simp only [bulkS, Rows.uptoBulk] at hb ⊢; omega)
  | .nil, _, _, _, _ => trivial
  | .cons a r, .inr ds, x, h, hb => by
    obtain ⟨d, ds', rfl, h1, h2⟩ := h
    simp only [bulkS, Rows.uptoBulkAll] at hb
    exact ⟨small_of a (d := .inl d) h1 (by simp only [bulkS]; omega), small_of r (d := .inr ds') h2 (by simp only [bulkS]; omega)⟩

theorem gint_base {g h : HS} {l : List SA} (H : Sat h (HL.base (hs1 ++ g) :: l)) : h[0]? = some (some (HB.gint 1)) := H.base_get rfl
end W0
end Go.Proofs.YteedmbmgemiheaaDoor
/- The functions, turned (written by program, each checked by the kernel). -/
namespace Go.Proofs.YteedmbmgemiheaaDoor
open Go Go.HL
/-- stint/stintlaw09.YamlReads -/
def b5_1 : HCode :=
  (.region [
      ⟨(some 71), (.op (.mv (.tmp 5))), none⟩,
      ⟨(some 72), (.op (.b2s (.tmp 71))), none⟩,
      ⟨(some 73), (.op (.mv (.tmp 0))), none⟩,
      ⟨(some 74), (.op (.b2s (.tmp 73))), none⟩,
      ⟨(some 75), (.op (.bin .add none (.tmp 74) (.cst (.str [98, 101, 104, 105, 110, 100])))), none⟩,
      ⟨(some 76), (.op (.bin .neq (some .str) (.tmp 72) (.tmp 75))), none⟩,
      ⟨(some 77), (.op (.mv (.tmp 76))), none⟩,
      ⟨(some 78), (.op (.mv (.tmp 7))), (some (77, false))⟩,
      ⟨(some 79), (.op (.mv (.tmp 15))), (some (77, false))⟩,
      ⟨(some 80), (.op (.bin .neq (some .int) (.tmp 78) (.tmp 79))), (some (77, false))⟩,
      ⟨(some 81), (.op (.pick (.tmp 77) (.cst (.bool true)) (.tmp 80))), none⟩,
      ⟨(some 82), (.op (.mv (.tmp 81))), none⟩,
      ⟨(some 83), (.op (.mv (.tmp 9))), (some (82, false))⟩,
      ⟨(some 84), (.op (.mv (.tmp 15))), (some (82, false))⟩,
      ⟨(some 85), (.op (.bin .neq (some .int) (.tmp 83) (.tmp 84))), (some (82, false))⟩,
      ⟨(some 86), (.op (.pick (.tmp 82) (.cst (.bool true)) (.tmp 85))), none⟩,
      ⟨(some 87), (.op (.mv (.tmp 86))), none⟩,
      ⟨(some 88), (.op (.mv (.tmp 11))), (some (87, false))⟩,
      ⟨(some 89), (.op (.mv (.tmp 17))), (some (87, false))⟩,
      ⟨(some 90), (.op (.bin .neq (some .int) (.tmp 88) (.tmp 89))), (some (87, false))⟩,
      ⟨(some 91), (.op (.pick (.tmp 87) (.cst (.bool true)) (.tmp 90))), none⟩,
      ⟨(some 92), (.op (.mv (.tmp 91))), none⟩,
      ⟨(some 93), (.op (.mv (.tmp 13))), (some (92, false))⟩,
      ⟨(some 94), (.op (.mv (.tmp 17))), (some (92, false))⟩,
      ⟨(some 95), (.op (.bin .neq (some .int) (.tmp 93) (.tmp 94))), (some (92, false))⟩,
      ⟨(some 96), (.op (.pick (.tmp 92) (.cst (.bool true)) (.tmp 95))), none⟩,
      ⟨(some 97), (.op (.mv (.tmp 96))), none⟩,
      ⟨(some 98), (.op (.mv (.tmp 6))), (some (97, false))⟩,
      ⟨(some 99), (.op (.mv (.tmp 14))), (some (97, false))⟩,
      ⟨(some 100), (.call (.cst (.func (.func 16) [] [])) [(.tmp 98), (.tmp 99)]), (some (97, false))⟩,
      ⟨(some 101), (.op (.un .not (.tmp 100))), (some (97, false))⟩,
      ⟨(some 102), (.op (.pick (.tmp 97) (.cst (.bool true)) (.tmp 101))), none⟩,
      ⟨(some 103), (.op (.mv (.tmp 102))), none⟩,
      ⟨(some 104), (.op (.mv (.tmp 8))), (some (103, false))⟩,
      ⟨(some 105), (.op (.mv (.tmp 14))), (some (103, false))⟩,
      ⟨(some 106), (.call (.cst (.func (.func 16) [] [])) [(.tmp 104), (.tmp 105)]), (some (103, false))⟩,
      ⟨(some 107), (.op (.un .not (.tmp 106))), (some (103, false))⟩,
      ⟨(some 108), (.op (.pick (.tmp 103) (.cst (.bool true)) (.tmp 107))), none⟩,
      ⟨(some 109), (.op (.mv (.tmp 108))), none⟩,
      ⟨(some 110), (.op (.mv (.tmp 10))), (some (109, false))⟩,
      ⟨(some 111), (.op (.mv (.tmp 16))), (some (109, false))⟩,
      ⟨(some 112), (.call (.cst (.func (.func 22) [] [])) [(.tmp 110), (.tmp 111)]), (some (109, false))⟩,
      ⟨(some 113), (.op (.un .not (.tmp 112))), (some (109, false))⟩,
      ⟨(some 114), (.op (.pick (.tmp 109) (.cst (.bool true)) (.tmp 113))), none⟩,
      ⟨(some 115), (.op (.mv (.tmp 114))), none⟩,
      ⟨(some 116), (.op (.mv (.tmp 12))), (some (115, false))⟩,
      ⟨(some 117), (.op (.mv (.tmp 16))), (some (115, false))⟩,
      ⟨(some 118), (.call (.cst (.func (.func 22) [] [])) [(.tmp 116), (.tmp 117)]), (some (115, false))⟩,
      ⟨(some 119), (.op (.un .not (.tmp 118))), (some (115, false))⟩,
      ⟨(some 120), (.op (.pick (.tmp 115) (.cst (.bool true)) (.tmp 119))), none⟩] [])
def b5_2 : HCode :=
  (.region [
      ⟨(some 155), (.op (.mv (.tmp 19))), none⟩,
      ⟨(some 156), (.op (.mv (.tmp 21))), none⟩,
      ⟨(some 157), (.call (.cst (.func (.func 16) [] [])) [(.tmp 155), (.tmp 156)]), none⟩,
      ⟨(some 158), (.op (.un .not (.tmp 157))), none⟩,
      ⟨(some 159), (.op (.mv (.tmp 158))), none⟩,
      ⟨(some 160), (.op (.mv (.tmp 7))), (some (159, false))⟩,
      ⟨(some 161), (.op (.mv (.tmp 15))), (some (159, false))⟩,
      ⟨(some 162), (.op (.bin .neq (some .int) (.tmp 160) (.tmp 161))), (some (159, false))⟩,
      ⟨(some 163), (.op (.pick (.tmp 159) (.cst (.bool true)) (.tmp 162))), none⟩,
      ⟨(some 164), (.op (.mv (.tmp 163))), none⟩,
      ⟨(some 165), (.op (.mv (.tmp 20))), (some (164, false))⟩,
      ⟨(some 166), (.op (.mv (.tmp 22))), (some (164, false))⟩,
      ⟨(some 167), (.call (.cst (.func (.func 22) [] [])) [(.tmp 165), (.tmp 166)]), (some (164, false))⟩,
      ⟨(some 168), (.op (.un .not (.tmp 167))), (some (164, false))⟩,
      ⟨(some 169), (.op (.pick (.tmp 164) (.cst (.bool true)) (.tmp 168))), none⟩,
      ⟨(some 170), (.op (.mv (.tmp 169))), none⟩,
      ⟨(some 171), (.op (.mv (.tmp 11))), (some (170, false))⟩,
      ⟨(some 172), (.op (.mv (.tmp 17))), (some (170, false))⟩,
      ⟨(some 173), (.op (.bin .neq (some .int) (.tmp 171) (.tmp 172))), (some (170, false))⟩,
      ⟨(some 174), (.op (.pick (.tmp 170) (.cst (.bool true)) (.tmp 173))), none⟩,
      ⟨(some 175), (.op (.mv (.tmp 174))), none⟩,
      ⟨(some 176), (.op (.mv (.tmp 6))), (some (175, false))⟩,
      ⟨(some 177), (.op (.mv (.tmp 14))), (some (175, false))⟩,
      ⟨(some 178), (.call (.cst (.func (.func 16) [] [])) [(.tmp 176), (.tmp 177)]), (some (175, false))⟩,
      ⟨(some 179), (.op (.un .not (.tmp 178))), (some (175, false))⟩,
      ⟨(some 180), (.op (.pick (.tmp 175) (.cst (.bool true)) (.tmp 179))), none⟩,
      ⟨(some 181), (.op (.mv (.tmp 180))), none⟩,
      ⟨(some 182), (.op (.mv (.tmp 8))), (some (181, false))⟩,
      ⟨(some 183), (.op (.mv (.tmp 14))), (some (181, false))⟩,
      ⟨(some 184), (.call (.cst (.func (.func 16) [] [])) [(.tmp 182), (.tmp 183)]), (some (181, false))⟩,
      ⟨(some 185), (.op (.un .not (.tmp 184))), (some (181, false))⟩,
      ⟨(some 186), (.op (.pick (.tmp 181) (.cst (.bool true)) (.tmp 185))), none⟩,
      ⟨(some 187), (.op (.mv (.tmp 186))), none⟩,
      ⟨(some 188), (.op (.mv (.tmp 10))), (some (187, false))⟩,
      ⟨(some 189), (.op (.mv (.tmp 16))), (some (187, false))⟩,
      ⟨(some 190), (.call (.cst (.func (.func 22) [] [])) [(.tmp 188), (.tmp 189)]), (some (187, false))⟩,
      ⟨(some 191), (.op (.un .not (.tmp 190))), (some (187, false))⟩,
      ⟨(some 192), (.op (.pick (.tmp 187) (.cst (.bool true)) (.tmp 191))), none⟩,
      ⟨(some 193), (.op (.mv (.tmp 192))), none⟩,
      ⟨(some 194), (.op (.mv (.tmp 12))), (some (193, false))⟩,
      ⟨(some 195), (.op (.mv (.tmp 16))), (some (193, false))⟩,
      ⟨(some 196), (.call (.cst (.func (.func 22) [] [])) [(.tmp 194), (.tmp 195)]), (some (193, false))⟩,
      ⟨(some 197), (.op (.un .not (.tmp 196))), (some (193, false))⟩,
      ⟨(some 198), (.op (.pick (.tmp 193) (.cst (.bool true)) (.tmp 197))), none⟩] [])
def b5_3 : HCode :=
  (.region [
      ⟨(some 199), (.op (.mv (.tmp 6))), none⟩,
      ⟨(some 200), (.op (.mv (.tmp 8))), none⟩,
      ⟨(some 201), (.op (.mv (.tmp 19))), none⟩,
      ⟨(some 202), (.call (.cst (.func (.func 25) [] [])) [(.tmp 199), (.tmp 200), (.tmp 201)]), none⟩,
      ⟨(some 203), (.op (.mv (.tmp 202))), none⟩,
      ⟨(some 204), (.op (.mv (.tmp 10))), (some (203, true))⟩,
      ⟨(some 205), (.op (.mv (.tmp 12))), (some (203, true))⟩,
      ⟨(some 206), (.op (.mv (.tmp 20))), (some (203, true))⟩,
      ⟨(some 207), (.call (.cst (.func (.func 26) [] [])) [(.tmp 204), (.tmp 205), (.tmp 206)]), (some (203, true))⟩,
      ⟨(some 208), (.op (.pick (.tmp 203) (.tmp 207) (.cst (.bool false)))), none⟩,
      ⟨(some 4), (.op (.mv (.tmp 208))), none⟩] [])
def b5_4 : HCode :=
  (.seq (.region [
      ⟨(some 151), (.op (.mv (.tmp 18))), none⟩,
      ⟨(some 152), (.call (.cst (.func (.func 24) [] [])) [(.tmp 151)]), none⟩,
      ⟨(some 150), (.op (.mv (.tmp 152))), none⟩,
      ⟨(some 153), (.op (.ext 0 (.tmp 150))), none⟩,
      ⟨(some 154), (.op (.ext 1 (.tmp 150))), none⟩,
      ⟨(some 22), (.op (.mv (.tmp 153))), none⟩,
      ⟨(some 17), (.op (.mv (.tmp 154))), none⟩] []) (.seq (.seq b5_2 (.cond (.tmp 198) (.seq (.region [
        ⟨(some 4), (.op (.mv (.cst (.bool false)))), none⟩] []) .ret) .skip)) (.seq b5_3 .ret)))
def b5_5 : HCode :=
  (.region [
      ⟨(some 138), (.op (.mv (.tmp 5))), none⟩,
      ⟨(some 139), (.op (.mv (.tmp 0))), none⟩,
      ⟨(some 140), (.op (.len .slice (.tmp 139))), none⟩,
      ⟨(some 141), (.op (.sliceSl 1 (.tmp 138) none (some (.tmp 140)) none)), none⟩,
      ⟨(some 142), (.call (.cst (.func (.func 21) [] [])) [(.tmp 141)]), none⟩,
      ⟨(some 137), (.op (.mv (.tmp 142))), none⟩,
      ⟨(some 143), (.op (.ext 0 (.tmp 137))), none⟩,
      ⟨(some 144), (.op (.ext 1 (.tmp 137))), none⟩,
      ⟨(some 20), (.op (.mv (.tmp 143))), none⟩,
      ⟨(some 11), (.op (.mv (.tmp 144))), none⟩] [])
def b5_6 : HCode :=
  (.region [
      ⟨(some 130), (.op (.mv (.tmp 5))), none⟩,
      ⟨(some 131), (.op (.mv (.tmp 0))), none⟩,
      ⟨(some 132), (.op (.len .slice (.tmp 131))), none⟩,
      ⟨(some 133), (.op (.sliceSl 1 (.tmp 130) none (some (.tmp 132)) none)), none⟩,
      ⟨(some 134), (.call (.cst (.func (.func 15) [] [])) [(.tmp 133)]), none⟩,
      ⟨(some 129), (.op (.mv (.tmp 134))), none⟩,
      ⟨(some 135), (.op (.ext 0 (.tmp 129))), none⟩,
      ⟨(some 136), (.op (.ext 1 (.tmp 129))), none⟩,
      ⟨(some 19), (.op (.mv (.tmp 135))), none⟩,
      ⟨(some 7), (.op (.mv (.tmp 136))), none⟩] [])
def b5_7 : HCode :=
  (.seq (.region [
      ⟨(some 126), (.op (.mv (.tmp 5))), none⟩,
      ⟨(some 127), (.op (.mv (.tmp 18))), none⟩,
      ⟨(some 128), (.op (.copy 1 (.tmp 126) (.tmp 127))), none⟩] []) (.seq b5_6 (.seq b5_5 (.seq (.region [
      ⟨(some 146), (.op (.mv (.tmp 18))), none⟩,
      ⟨(some 147), (.call (.cst (.func (.func 23) [] [])) [(.tmp 146)]), none⟩,
      ⟨(some 145), (.op (.mv (.tmp 147))), none⟩,
      ⟨(some 148), (.op (.ext 0 (.tmp 145))), none⟩,
      ⟨(some 149), (.op (.ext 1 (.tmp 145))), none⟩,
      ⟨(some 21), (.op (.mv (.tmp 148))), none⟩,
      ⟨(some 15), (.op (.mv (.tmp 149))), none⟩] []) b5_4))))
def b5_8 : HCode :=
  (.seq (.seq b5_1 (.cond (.tmp 120) (.seq (.region [
        ⟨(some 4), (.op (.mv (.cst (.bool false)))), none⟩] []) .ret) .skip)) (.seq (.region [
      ⟨(some 121), (.op (.mv (.tmp 0))), none⟩,
      ⟨(some 122), (.op (.append 1 1 (.cst .nilSlice) (.tmp 121))), none⟩,
      ⟨(some 18), (.op (.mv (.tmp 122))), none⟩] []) (.seq (.region [
      ⟨(some 123), (.op (.mv (.tmp 18))), none⟩,
      ⟨(some 124), (.op (.mv (.tmp 1))), none⟩,
      ⟨(some 125), (.op (.copy 1 (.tmp 123) (.tmp 124))), none⟩] []) b5_7)))
def b5_9 : HCode :=
  (.region [
      ⟨(some 54), (.op (.mv (.tmp 5))), none⟩,
      ⟨(some 55), (.op (.mv (.tmp 0))), none⟩,
      ⟨(some 56), (.op (.len .slice (.tmp 55))), none⟩,
      ⟨(some 57), (.op (.sliceSl 1 (.tmp 54) none (some (.tmp 56)) none)), none⟩,
      ⟨(some 58), (.call (.cst (.func (.func 21) [] [])) [(.tmp 57)]), none⟩,
      ⟨(some 53), (.op (.mv (.tmp 58))), none⟩,
      ⟨(some 59), (.op (.ext 0 (.tmp 53))), none⟩,
      ⟨(some 60), (.op (.ext 1 (.tmp 53))), none⟩,
      ⟨(some 12), (.op (.mv (.tmp 59))), none⟩,
      ⟨(some 13), (.op (.mv (.tmp 60))), none⟩] [])
def b5_10 : HCode :=
  (.seq (.region [
      ⟨(some 62), (.op (.mv (.tmp 0))), none⟩,
      ⟨(some 63), (.call (.cst (.func (.func 23) [] [])) [(.tmp 62)]), none⟩,
      ⟨(some 61), (.op (.mv (.tmp 63))), none⟩,
      ⟨(some 64), (.op (.ext 0 (.tmp 61))), none⟩,
      ⟨(some 65), (.op (.ext 1 (.tmp 61))), none⟩,
      ⟨(some 14), (.op (.mv (.tmp 64))), none⟩,
      ⟨(some 15), (.op (.mv (.tmp 65))), none⟩] []) (.seq (.region [
      ⟨(some 67), (.op (.mv (.tmp 0))), none⟩,
      ⟨(some 68), (.call (.cst (.func (.func 24) [] [])) [(.tmp 67)]), none⟩,
      ⟨(some 66), (.op (.mv (.tmp 68))), none⟩,
      ⟨(some 69), (.op (.ext 0 (.tmp 66))), none⟩,
      ⟨(some 70), (.op (.ext 1 (.tmp 66))), none⟩,
      ⟨(some 16), (.op (.mv (.tmp 69))), none⟩,
      ⟨(some 17), (.op (.mv (.tmp 70))), none⟩] []) b5_8))
def b5_11 : HCode :=
  (.region [
      ⟨(some 46), (.op (.mv (.tmp 5))), none⟩,
      ⟨(some 47), (.op (.mv (.tmp 0))), none⟩,
      ⟨(some 48), (.op (.len .slice (.tmp 47))), none⟩,
      ⟨(some 49), (.op (.sliceSl 1 (.tmp 46) none (some (.tmp 48)) none)), none⟩,
      ⟨(some 50), (.call (.cst (.func (.func 21) [] [])) [(.tmp 49)]), none⟩,
      ⟨(some 45), (.op (.mv (.tmp 50))), none⟩,
      ⟨(some 51), (.op (.ext 0 (.tmp 45))), none⟩,
      ⟨(some 52), (.op (.ext 1 (.tmp 45))), none⟩,
      ⟨(some 10), (.op (.mv (.tmp 51))), none⟩,
      ⟨(some 11), (.op (.mv (.tmp 52))), none⟩] [])
def b5_12 : HCode :=
  (.region [
      ⟨(some 38), (.op (.mv (.tmp 5))), none⟩,
      ⟨(some 39), (.op (.mv (.tmp 0))), none⟩,
      ⟨(some 40), (.op (.len .slice (.tmp 39))), none⟩,
      ⟨(some 41), (.op (.sliceSl 1 (.tmp 38) none (some (.tmp 40)) none)), none⟩,
      ⟨(some 42), (.call (.cst (.func (.func 15) [] [])) [(.tmp 41)]), none⟩,
      ⟨(some 37), (.op (.mv (.tmp 42))), none⟩,
      ⟨(some 43), (.op (.ext 0 (.tmp 37))), none⟩,
      ⟨(some 44), (.op (.ext 1 (.tmp 37))), none⟩,
      ⟨(some 8), (.op (.mv (.tmp 43))), none⟩,
      ⟨(some 9), (.op (.mv (.tmp 44))), none⟩] [])
def b5_13 : HCode :=
  (.region [
      ⟨(some 30), (.op (.mv (.tmp 5))), none⟩,
      ⟨(some 31), (.op (.mv (.tmp 0))), none⟩,
      ⟨(some 32), (.op (.len .slice (.tmp 31))), none⟩,
      ⟨(some 33), (.op (.sliceSl 1 (.tmp 30) none (some (.tmp 32)) none)), none⟩,
      ⟨(some 34), (.call (.cst (.func (.func 15) [] [])) [(.tmp 33)]), none⟩,
      ⟨(some 29), (.op (.mv (.tmp 34))), none⟩,
      ⟨(some 35), (.op (.ext 0 (.tmp 29))), none⟩,
      ⟨(some 36), (.op (.ext 1 (.tmp 29))), none⟩,
      ⟨(some 6), (.op (.mv (.tmp 35))), none⟩,
      ⟨(some 7), (.op (.mv (.tmp 36))), none⟩] [])
def b5_14 : HCode :=
  (.seq (.seq (.region [
      ⟨(some 23), (.call (.cst (.func (.func 9) [] [])) []), none⟩,
      ⟨(some 24), (.op (.un .not (.tmp 23))), none⟩] []) (.cond (.tmp 24) (.seq (.region [
        ⟨(some 4), (.op (.mv (.cst (.bool false)))), none⟩] []) .ret) .skip)) (.seq (.region [
      ⟨(some 25), (.op (.mv (.tmp 0))), none⟩,
      ⟨(some 26), (.op (.append 1 1 (.cst .nilSlice) (.tmp 25))), none⟩,
      ⟨(some 5), (.op (.mv (.tmp 26))), none⟩] []) (.seq (.region [
      ⟨(some 27), (.op (.mv (.tmp 5))), none⟩,
      ⟨(some 28), (.op (.append 1 1 (.tmp 27) (.cst (.str [98, 101, 104, 105, 110, 100])))), none⟩,
      ⟨(some 5), (.op (.mv (.tmp 28))), none⟩] []) (.seq b5_13 (.seq b5_12 (.seq b5_11 (.seq b5_9 b5_10)))))))
set_option linter.defProp false in
def ub5 :=
  And.intro (hw_unf b5_1.eq_1) <|
  And.intro (hw_unf b5_2.eq_1) <|
  And.intro (hw_unf b5_3.eq_1) <|
  And.intro (hw_unf b5_4.eq_1) <|
  And.intro (hw_unf b5_5.eq_1) <|
  And.intro (hw_unf b5_6.eq_1) <|
  And.intro (hw_unf b5_7.eq_1) <|
  And.intro (hw_unf b5_8.eq_1) <|
  And.intro (hw_unf b5_9.eq_1) <|
  And.intro (hw_unf b5_10.eq_1) <|
  And.intro (hw_unf b5_11.eq_1) <|
  And.intro (hw_unf b5_12.eq_1) <|
  And.intro (hw_unf b5_13.eq_1) <|
  hw_unf b5_14.eq_1
def h5 : HFn :=
  ⟨209, [(.tmp 4)], (.seq (.region [
      ⟨(some 4), (.op (.mv (.cst (.bool false)))), none⟩] []) b5_14)⟩
theorem c5 : cFn Tryd.prog [] Tryd.f5 = some h5 := by kernel_rfl
/-- stint/stintref09.List -/
def b14_1 : HCode :=
  (.seq (.region [
            ⟨(some 13), (.op (.idxS 1 (.tmp 9) (.tmp 11))), none⟩,
            ⟨(some 14), (.op (.load none (.tmp 13))), none⟩,
            ⟨(some 5), (.op (.mv (.tmp 14))), none⟩] []) (.seq (.region [
            ⟨(some 15), (.op (.mv (.tmp 5))), none⟩,
            ⟨(some 16), (.call (.cst (.func (.func 33) [] [])) [(.tmp 15)]), none⟩,
            ⟨(some 17), (.op (.un .not (.tmp 16))), none⟩] []) (.cond (.tmp 17) (.seq (.region [
              ⟨(some 2), (.op (.mv (.cst .nilSlice))), none⟩,
              ⟨(some 3), (.op (.mv (.cst (.int .i64 91)))), none⟩] []) .ret) .skip)))
def b14_2 : HCode :=
  (.seq (.region [
            ⟨(some 29), (.op (.mv (.tmp 6))), none⟩,
            ⟨(some 30), (.op (.mv (.tmp 8))), none⟩,
            ⟨(some 31), (.op (.append 1 1 (.tmp 29) (.tmp 30))), none⟩,
            ⟨(some 6), (.op (.mv (.tmp 31))), none⟩] []) (.region [
            ⟨(some 32), (.op (.mv (.tmp 6))), none⟩,
            ⟨(some 33), (.op (.bslice 1 1 [(.int .u8 0)] [(0, 1, (.cst (.int .u8 10)))])), none⟩,
            ⟨(some 34), (.op (.append 1 1 (.tmp 32) (.tmp 33))), none⟩,
            ⟨(some 6), (.op (.mv (.tmp 34))), none⟩] []))
def b14_3 : HCode :=
  (.seq (.block 3 (.seq (.region [
            ⟨(some 25), (.op (.idxS 1 (.tmp 21) (.tmp 23))), none⟩,
            ⟨(some 26), (.op (.load none (.tmp 25))), none⟩,
            ⟨(some 8), (.op (.mv (.tmp 26))), none⟩] []) (.seq (.region [
            ⟨(some 27), (.op (.mv (.tmp 6))), none⟩,
            ⟨(some 28), (.op (.append 1 1 (.tmp 27) (.cst (.str [45, 32])))), none⟩,
            ⟨(some 6), (.op (.mv (.tmp 28))), none⟩] []) b14_2))) (.region [
          ⟨(some 35), (.op (.bin .add none (.tmp 23) (.cst (.int .i64 1)))), none⟩,
          ⟨(some 23), (.op (.mv (.tmp 35))), none⟩] []))
def b14_4 : HCode :=
  (.seq (.seq (.region [
      ⟨(some 21), (.op (.mv (.tmp 0))), none⟩,
      ⟨(some 22), (.op (.len .slice (.tmp 21))), none⟩,
      ⟨(some 23), (.op (.mv (.cst (.int .i64 0)))), none⟩] []) (.block 2 (.loop (.seq (.region [
          ⟨(some 24), (.op (.bin .lss none (.tmp 23) (.tmp 22))), none⟩] []) (.seq (.cond (.tmp 24) .skip (.exit 2)) b14_3))))) (.seq (.region [
      ⟨(some 36), (.op (.mv (.tmp 6))), none⟩,
      ⟨(some 2), (.op (.mv (.tmp 36))), none⟩,
      ⟨(some 3), (.op (.mv (.cst (.int .i64 0)))), none⟩] []) .ret))
def b14_5 : HCode :=
  (.seq (.region [
      ⟨(some 9), (.op (.mv (.tmp 0))), none⟩,
      ⟨(some 10), (.op (.len .slice (.tmp 9))), none⟩,
      ⟨(some 11), (.op (.mv (.cst (.int .i64 0)))), none⟩] []) (.block 0 (.loop (.seq (.region [
          ⟨(some 12), (.op (.bin .lss none (.tmp 11) (.tmp 10))), none⟩] []) (.seq (.cond (.tmp 12) .skip (.exit 0)) (.seq (.block 1 b14_1) (.region [
          ⟨(some 18), (.op (.bin .add none (.tmp 11) (.cst (.int .i64 1)))), none⟩,
          ⟨(some 11), (.op (.mv (.tmp 18))), none⟩] [])))))))
set_option linter.defProp false in
def ub14 :=
  And.intro (hw_unf b14_1.eq_1) <|
  And.intro (hw_unf b14_2.eq_1) <|
  And.intro (hw_unf b14_3.eq_1) <|
  And.intro (hw_unf b14_4.eq_1) <|
  hw_unf b14_5.eq_1
def h14 : HFn :=
  ⟨37, [(.tmp 2), (.tmp 3)], (.seq (.region [
      ⟨(some 2), (.op (.mv (.cst .nilSlice))), none⟩,
      ⟨(some 3), (.op (.mv (.cst (.int .i64 0)))), none⟩] []) (.seq b14_5 (.seq (.region [
      ⟨(some 19), (.op (.bslice 1 4 [(.int .u8 0), (.int .u8 0), (.int .u8 0), (.int .u8 0)] [(0, 1, (.cst (.int .u8 45))), (1, 1, (.cst (.int .u8 45))), (2, 1, (.cst (.int .u8 45))), (3, 1, (.cst (.int .u8 10)))])), none⟩,
      ⟨(some 20), (.op (.mark (.tmp 19))), none⟩,
      ⟨(some 6), (.op (.mv (.tmp 20))), none⟩] []) b14_4)))⟩
theorem c14 : cFn Tryd.prog [] Tryd.f14 = some h14 := by kernel_rfl
/-- stint/yaml.ReadList -/
def b15_1 : HCode :=
  (.seq (.block 3 (.seq (.region [
                    ⟨(some 39), (.op (.idxS 1 (.tmp 35) (.tmp 37))), none⟩,
                    ⟨(some 40), (.op (.load none (.tmp 39))), none⟩,
                    ⟨(some 11), (.op (.mv (.tmp 40))), none⟩] []) (.seq (.region [
                    ⟨(some 41), (.op (.mv (.tmp 11))), none⟩] []) (.cond (.tmp 41) (.seq (.region [
                      ⟨(some 5), (.op (.mv (.cst (.bool false)))), none⟩] []) (.exit 0)) .skip)))) (.region [
                  ⟨(some 42), (.op (.bin .add none (.tmp 37) (.cst (.int .i64 1)))), none⟩,
                  ⟨(some 37), (.op (.mv (.tmp 42))), none⟩] []))
def b15_2 : HCode :=
  (.region [
              ⟨(some 30), (.op (.mv (.tmp 9))), none⟩,
              ⟨(some 31), (.op (.un .not (.tmp 30))), none⟩,
              ⟨(some 32), (.op (.mv (.tmp 7))), none⟩,
              ⟨(some 33), (.call (.cst (.func (.func 36) [] [])) [(.tmp 32), (.cst (.str [45, 32]))]), none⟩,
              ⟨(some 34), (.op (.un .not (.tmp 33))), none⟩,
              ⟨(some 35), (.op (.bslice 1 2 [(.bool false), (.bool false)] [(0, 1, (.tmp 31)), (1, 1, (.tmp 34))])), none⟩,
              ⟨(some 36), (.op (.len .slice (.tmp 35))), none⟩,
              ⟨(some 37), (.op (.mv (.cst (.int .i64 0)))), none⟩] [])
def b15_3 : HCode :=
  (.seq (.region [
              ⟨(some 45), (.op (.mv (.tmp 12))), none⟩,
              ⟨(some 46), (.call (.cst (.func (.func 37) [] [])) [(.tmp 45)]), none⟩,
              ⟨(some 5), (.op (.mv (.tmp 46))), none⟩] []) (.seq (.region [
              ⟨(some 47), (.op (.mv (.tmp 6))), none⟩,
              ⟨(some 48), (.op (.mv (.tmp 12))), none⟩,
              ⟨(some 49), (.op (.bslice 1 1 [(.str [])] [(0, 1, (.tmp 48))])), none⟩,
              ⟨(some 50), (.op (.append 1 16 (.tmp 47) (.tmp 49))), none⟩,
              ⟨(some 6), (.op (.mv (.tmp 50))), none⟩] []) (.region [
              ⟨(some 51), (.op (.mv (.tmp 8))), none⟩,
              ⟨(some 4), (.op (.mv (.tmp 51))), none⟩] [])))
def b15_4 : HCode :=
  (.region [
              ⟨(some 25), (.op (.mv (.tmp 4))), none⟩,
              ⟨(some 26), (.call (.cst (.func (.func 35) [] [])) [(.tmp 25)]), none⟩,
              ⟨(some 24), (.op (.mv (.tmp 26))), none⟩,
              ⟨(some 27), (.op (.ext 0 (.tmp 24))), none⟩,
              ⟨(some 28), (.op (.ext 1 (.tmp 24))), none⟩,
              ⟨(some 29), (.op (.ext 2 (.tmp 24))), none⟩,
              ⟨(some 7), (.op (.mv (.tmp 27))), none⟩,
              ⟨(some 8), (.op (.mv (.tmp 28))), none⟩,
              ⟨(some 9), (.op (.mv (.tmp 29))), none⟩] [])
def b15_5 : HCode :=
  (.seq (.seq (.region [
            ⟨(some 19), (.op (.mv (.tmp 5))), none⟩,
            ⟨(some 20), (.op (.mv (.tmp 19))), none⟩,
            ⟨(some 21), (.op (.mv (.tmp 4))), (some (20, true))⟩,
            ⟨(some 22), (.op (.bin .neq (some .str) (.tmp 21) (.cst (.str [])))), (some (20, true))⟩,
            ⟨(some 23), (.op (.pick (.tmp 20) (.tmp 22) (.cst (.bool false)))), none⟩] []) (.cond (.tmp 23) .skip (.exit 0))) (.block 1 (.seq b15_4 (.seq (.seq b15_2 (.block 2 (.loop (.seq (.region [
                  ⟨(some 38), (.op (.bin .lss none (.tmp 37) (.tmp 36))), none⟩] []) (.seq (.cond (.tmp 38) .skip (.exit 2)) b15_1))))) (.seq (.region [
              ⟨(some 43), (.op (.mv (.tmp 7))), none⟩,
              ⟨(some 44), (.op (.sliceStr (.tmp 43) (some (.cst (.int .i64 2))) none)), none⟩,
              ⟨(some 12), (.op (.mv (.tmp 44))), none⟩] []) b15_3)))))
def b15_6 : HCode :=
  (.seq (.block 0 (.loop b15_5)) (.seq (.seq (.region [
        ⟨(some 52), (.op (.mv (.tmp 5))), none⟩,
        ⟨(some 53), (.op (.un .not (.tmp 52))), none⟩] []) (.cond (.tmp 53) (.seq (.region [
          ⟨(some 2), (.op (.mv (.cst .nilSlice))), none⟩,
          ⟨(some 3), (.op (.mv (.cst (.int .i64 92)))), none⟩] []) .ret) .skip)) (.seq (.region [
        ⟨(some 54), (.op (.mv (.tmp 6))), none⟩,
        ⟨(some 2), (.op (.mv (.tmp 54))), none⟩,
        ⟨(some 3), (.op (.mv (.cst (.int .i64 0)))), none⟩] []) .ret)))
def b15_7 : HCode :=
  (.seq (.region [
        ⟨(some 14), (.op (.mv (.tmp 0))), none⟩,
        ⟨(some 15), (.op (.b2s (.tmp 14))), none⟩,
        ⟨(some 16), (.call (.cst (.func (.func 34) [] [])) [(.tmp 15), (.cst (.str [45, 45, 45, 10]))]), none⟩,
        ⟨(some 13), (.op (.mv (.tmp 16))), none⟩,
        ⟨(some 17), (.op (.ext 0 (.tmp 13))), none⟩,
        ⟨(some 18), (.op (.ext 1 (.tmp 13))), none⟩,
        ⟨(some 4), (.op (.mv (.tmp 17))), none⟩,
        ⟨(some 5), (.op (.mv (.tmp 18))), none⟩] []) (.seq (.region [
        ⟨(some 6), (.op (.mv (.cst .nilSlice))), none⟩] []) (.seq .lab b15_6)))
set_option linter.defProp false in
def ub15 :=
  And.intro (hw_unf b15_1.eq_1) <|
  And.intro (hw_unf b15_2.eq_1) <|
  And.intro (hw_unf b15_3.eq_1) <|
  And.intro (hw_unf b15_4.eq_1) <|
  And.intro (hw_unf b15_5.eq_1) <|
  And.intro (hw_unf b15_6.eq_1) <|
  hw_unf b15_7.eq_1
def h15 : HFn :=
  ⟨55, [(.tmp 2), (.tmp 3)], (.seq (.region [
      ⟨(some 2), (.op (.mv (.cst .nilSlice))), none⟩,
      ⟨(some 3), (.op (.mv (.cst (.int .i64 0)))), none⟩] []) (.scope b15_7))⟩
theorem c15 : cFn Tryd.prog [] Tryd.f15 = some h15 := by kernel_rfl
/-- stint/stintlaw09.texts -/
def b16_1 : HCode :=
  (.draw [
            ⟨(some 16), (.op (.mv (.tmp 0))), none⟩,
            ⟨(some 17), (.op (.mv (.tmp 5))), none⟩,
            ⟨(some 18), (.op (.idxS 1 (.tmp 16) (.tmp 17))), none⟩,
            ⟨(some 19), (.op (.load none (.tmp 18))), none⟩,
            ⟨(some 20), (.op (.mv (.tmp 1))), none⟩,
            ⟨(some 21), (.op (.mv (.tmp 5))), none⟩,
            ⟨(some 22), (.op (.idxS 1 (.tmp 20) (.tmp 21))), none⟩,
            ⟨(some 23), (.op (.load none (.tmp 22))), none⟩,
            ⟨(some 24), (.op (.bin .neq (some .str) (.tmp 19) (.tmp 23))), none⟩] [0, 1, 2, 3, 4, 5, 6, 7, 8] [[], [], [], [], [], [], [], [], []] [])
def b16_2 : HCode :=
  (.seq (.region [
          ⟨(some 14), (.op (.bin .lss none (.tmp 13) (.tmp 12))), none⟩] []) (.seq (.cond (.tmp 14) .skip (.exit 0)) (.seq (.block 1 (.seq (.region [
            ⟨(some 15), (.op (.mv (.tmp 13))), none⟩,
            ⟨(some 5), (.op (.mv (.tmp 15))), none⟩] []) (.seq b16_1 (.cond (.tmp 24) (.seq (.region [
              ⟨(some 4), (.op (.mv (.cst (.bool false)))), none⟩] []) .ret) .skip)))) (.region [
          ⟨(some 25), (.op (.bin .add none (.tmp 13) (.cst (.int .i64 1)))), none⟩,
          ⟨(some 13), (.op (.mv (.tmp 25))), none⟩] []))))
def b16_3 : HCode :=
  (.seq (.seq (.region [
      ⟨(some 6), (.op (.mv (.tmp 0))), none⟩,
      ⟨(some 7), (.op (.len .slice (.tmp 6))), none⟩,
      ⟨(some 8), (.op (.mv (.tmp 1))), none⟩,
      ⟨(some 9), (.op (.len .slice (.tmp 8))), none⟩,
      ⟨(some 10), (.op (.bin .neq (some .int) (.tmp 7) (.tmp 9))), none⟩] []) (.cond (.tmp 10) (.seq (.region [
        ⟨(some 4), (.op (.mv (.cst (.bool false)))), none⟩] []) .ret) .skip)) (.seq (.seq (.region [
      ⟨(some 11), (.op (.mv (.tmp 0))), none⟩,
      ⟨(some 12), (.op (.len .slice (.tmp 11))), none⟩,
      ⟨(some 13), (.op (.mv (.cst (.int .i64 0)))), none⟩] []) (.block 0 (.loop b16_2))) (.seq (.region [
      ⟨(some 4), (.op (.mv (.cst (.bool true)))), none⟩] []) .ret)))
set_option linter.defProp false in
def ub16 :=
  And.intro (hw_unf b16_1.eq_1) <|
  And.intro (hw_unf b16_2.eq_1) <|
  hw_unf b16_3.eq_1
def h16 : HFn :=
  ⟨26, [(.tmp 4)], (.seq (.region [
      ⟨(some 4), (.op (.mv (.cst (.bool false)))), none⟩] []) b16_3)⟩
theorem c16 : cFn Tryd.prog [] Tryd.f16 = some h16 := by kernel_rfl
/-- stint/stintref09.Dict -/
def b20_1 : HCode :=
  (.seq (.region [
                  ⟨(some 33), (.op (.faddr 0 (.tmp 8))), none⟩,
                  ⟨(some 34), (.op (.load none (.tmp 33))), none⟩,
                  ⟨(some 35), (.op (.faddr 0 (.tmp 6))), none⟩,
                  ⟨(some 36), (.op (.load none (.tmp 35))), none⟩,
                  ⟨(some 37), (.op (.bin .eql (some .str) (.tmp 34) (.tmp 36))), none⟩] []) (.cond (.tmp 37) (.seq (.region [
                    ⟨(some 2), (.op (.mv (.cst .nilSlice))), none⟩,
                    ⟨(some 3), (.op (.mv (.cst (.int .i64 90)))), none⟩] []) .ret) .skip))
def b20_2 : HCode :=
  (.seq (.block 3 (.seq (.region [
                  ⟨(some 31), (.op (.idxS 2 (.tmp 27) (.tmp 29))), none⟩,
                  ⟨(some 32), (.op (.load (some 2) (.tmp 31))), none⟩,
                  ⟨(some 8), (.op (.box (.cst (.agg [(.str []), (.str [])])))), none⟩,
                  ⟨none, (.op (.store 2 (.tmp 8) (.tmp 32))), none⟩] []) b20_1)) (.region [
                ⟨(some 38), (.op (.bin .add none (.tmp 29) (.cst (.int .i64 1)))), none⟩,
                ⟨(some 29), (.op (.mv (.tmp 38))), none⟩] []))
def b20_3 : HCode :=
  (.seq (.region [
            ⟨(some 49), (.op (.mv (.tmp 4))), none⟩,
            ⟨(some 50), (.op (.faddr 1 (.tmp 6))), none⟩,
            ⟨(some 51), (.op (.load none (.tmp 50))), none⟩,
            ⟨(some 52), (.op (.append 1 1 (.tmp 49) (.tmp 51))), none⟩,
            ⟨(some 4), (.op (.mv (.tmp 52))), none⟩] []) (.region [
            ⟨(some 53), (.op (.mv (.tmp 4))), none⟩,
            ⟨(some 54), (.op (.bslice 1 1 [(.int .u8 0)] [(0, 1, (.cst (.int .u8 10)))])), none⟩,
            ⟨(some 55), (.op (.append 1 1 (.tmp 53) (.tmp 54))), none⟩,
            ⟨(some 4), (.op (.mv (.tmp 55))), none⟩] []))
def b20_4 : HCode :=
  (.seq (.region [
            ⟨(some 43), (.op (.mv (.tmp 4))), none⟩,
            ⟨(some 44), (.op (.faddr 0 (.tmp 6))), none⟩,
            ⟨(some 45), (.op (.load none (.tmp 44))), none⟩,
            ⟨(some 46), (.op (.append 1 1 (.tmp 43) (.tmp 45))), none⟩,
            ⟨(some 4), (.op (.mv (.tmp 46))), none⟩] []) (.seq (.region [
            ⟨(some 47), (.op (.mv (.tmp 4))), none⟩,
            ⟨(some 48), (.op (.append 1 1 (.tmp 47) (.cst (.str [58, 32])))), none⟩,
            ⟨(some 4), (.op (.mv (.tmp 48))), none⟩] []) b20_3))
def b20_5 : HCode :=
  (.seq (.region [
            ⟨(some 25), (.op (.mv (.tmp 0))), none⟩,
            ⟨(some 26), (.op (.mv (.tmp 5))), none⟩,
            ⟨(some 27), (.op (.sliceSl 2 (.tmp 25) none (some (.tmp 26)) none)), none⟩,
            ⟨(some 28), (.op (.len .slice (.tmp 27))), none⟩,
            ⟨(some 29), (.op (.mv (.cst (.int .i64 0)))), none⟩] []) (.block 2 (.loop (.seq (.region [
                ⟨(some 30), (.op (.bin .lss none (.tmp 29) (.tmp 28))), none⟩] []) (.seq (.cond (.tmp 30) .skip (.exit 2)) b20_2)))))
def b20_6 : HCode :=
  (.seq (.seq (.region [
            ⟨(some 21), (.op (.faddr 0 (.tmp 6))), none⟩,
            ⟨(some 22), (.op (.load none (.tmp 21))), none⟩,
            ⟨(some 23), (.call (.cst (.func (.func 39) [] [])) [(.tmp 22)]), none⟩,
            ⟨(some 24), (.op (.un .not (.tmp 23))), none⟩] []) (.cond (.tmp 24) (.seq (.region [
              ⟨(some 2), (.op (.mv (.cst .nilSlice))), none⟩,
              ⟨(some 3), (.op (.mv (.cst (.int .i64 90)))), none⟩] []) .ret) .skip)) (.seq b20_5 (.seq (.seq (.region [
            ⟨(some 39), (.op (.faddr 1 (.tmp 6))), none⟩,
            ⟨(some 40), (.op (.load none (.tmp 39))), none⟩,
            ⟨(some 41), (.call (.cst (.func (.func 33) [] [])) [(.tmp 40)]), none⟩,
            ⟨(some 42), (.op (.un .not (.tmp 41))), none⟩] []) (.cond (.tmp 42) (.seq (.region [
              ⟨(some 2), (.op (.mv (.cst .nilSlice))), none⟩,
              ⟨(some 3), (.op (.mv (.cst (.int .i64 91)))), none⟩] []) .ret) .skip)) b20_4)))
def b20_7 : HCode :=
  (.seq (.block 1 (.seq (.region [
            ⟨(some 18), (.op (.mv (.tmp 16))), none⟩,
            ⟨(some 19), (.op (.idxS 2 (.tmp 14) (.tmp 16))), none⟩,
            ⟨(some 20), (.op (.load (some 2) (.tmp 19))), none⟩,
            ⟨(some 6), (.op (.box (.cst (.agg [(.str []), (.str [])])))), none⟩,
            ⟨(some 5), (.op (.mv (.tmp 18))), none⟩,
            ⟨none, (.op (.store 2 (.tmp 6) (.tmp 20))), none⟩] []) b20_6)) (.region [
          ⟨(some 56), (.op (.bin .add none (.tmp 16) (.cst (.int .i64 1)))), none⟩,
          ⟨(some 16), (.op (.mv (.tmp 56))), none⟩] []))
def b20_8 : HCode :=
  (.seq (.seq (.region [
      ⟨(some 14), (.op (.mv (.tmp 0))), none⟩,
      ⟨(some 15), (.op (.len .slice (.tmp 14))), none⟩,
      ⟨(some 16), (.op (.mv (.cst (.int .i64 0)))), none⟩] []) (.block 0 (.loop (.seq (.region [
          ⟨(some 17), (.op (.bin .lss none (.tmp 16) (.tmp 15))), none⟩] []) (.seq (.cond (.tmp 17) .skip (.exit 0)) b20_7))))) (.seq (.region [
      ⟨(some 57), (.op (.mv (.tmp 4))), none⟩,
      ⟨(some 2), (.op (.mv (.tmp 57))), none⟩,
      ⟨(some 3), (.op (.mv (.cst (.int .i64 0)))), none⟩] []) .ret))
def b20_9 : HCode :=
  (.seq (.seq (.region [
      ⟨(some 9), (.op (.mv (.tmp 0))), none⟩,
      ⟨(some 10), (.op (.len .slice (.tmp 9))), none⟩,
      ⟨(some 11), (.op (.bin .gtr none (.tmp 10) (.cst (.int .i64 256)))), none⟩] []) (.cond (.tmp 11) (.seq (.region [
        ⟨(some 2), (.op (.mv (.cst .nilSlice))), none⟩,
        ⟨(some 3), (.op (.mv (.cst (.int .i64 1)))), none⟩] []) .ret) .skip)) (.seq (.region [
      ⟨(some 12), (.op (.bslice 1 4 [(.int .u8 0), (.int .u8 0), (.int .u8 0), (.int .u8 0)] [(0, 1, (.cst (.int .u8 45))), (1, 1, (.cst (.int .u8 45))), (2, 1, (.cst (.int .u8 45))), (3, 1, (.cst (.int .u8 10)))])), none⟩,
      ⟨(some 13), (.op (.mark (.tmp 12))), none⟩,
      ⟨(some 4), (.op (.mv (.tmp 13))), none⟩] []) b20_8))
set_option linter.defProp false in
def ub20 :=
  And.intro (hw_unf b20_1.eq_1) <|
  And.intro (hw_unf b20_2.eq_1) <|
  And.intro (hw_unf b20_3.eq_1) <|
  And.intro (hw_unf b20_4.eq_1) <|
  And.intro (hw_unf b20_5.eq_1) <|
  And.intro (hw_unf b20_6.eq_1) <|
  And.intro (hw_unf b20_7.eq_1) <|
  And.intro (hw_unf b20_8.eq_1) <|
  hw_unf b20_9.eq_1
def h20 : HFn :=
  ⟨58, [(.tmp 2), (.tmp 3)], (.seq (.region [
      ⟨(some 2), (.op (.mv (.cst .nilSlice))), none⟩,
      ⟨(some 3), (.op (.mv (.cst (.int .i64 0)))), none⟩] []) b20_9)⟩
theorem c20 : cFn Tryd.prog [] Tryd.f20 = some h20 := by kernel_rfl
/-- stint/yaml.ReadDict -/
def b21_1 : HCode :=
  (.region [
            ⟨(some 59), (.op (.mv (.tmp 6))), none⟩,
            ⟨(some 60), (.op (.mv (.tmp 10))), none⟩,
            ⟨(some 61), (.op (.mv (.tmp 11))), none⟩,
            ⟨(some 62), (.op (.build [(.str []), (.str [])] [(0, 1, (.tmp 60)), (1, 1, (.tmp 61))])), none⟩,
            ⟨(some 63), (.op (.bslice 2 1 [(.str []), (.str [])] [(0, 2, (.tmp 62))])), none⟩,
            ⟨(some 64), (.op (.append 2 32 (.tmp 59) (.tmp 63))), none⟩,
            ⟨(some 6), (.op (.mv (.tmp 64))), none⟩] [])
def b21_2 : HCode :=
  (.region [
            ⟨(some 36), (.op (.mv (.tmp 9))), none⟩,
            ⟨(some 37), (.op (.mv (.tmp 36))), none⟩,
            ⟨(some 38), (.op (.mv (.tmp 12))), (some (37, true))⟩,
            ⟨(some 39), (.op (.pick (.tmp 37) (.tmp 38) (.cst (.bool false)))), none⟩,
            ⟨(some 40), (.op (.mv (.tmp 39))), none⟩,
            ⟨(some 41), (.op (.mv (.tmp 10))), (some (40, true))⟩,
            ⟨(some 42), (.call (.cst (.func (.func 41) [] [])) [(.tmp 41)]), (some (40, true))⟩,
            ⟨(some 43), (.op (.pick (.tmp 40) (.tmp 42) (.cst (.bool false)))), none⟩,
            ⟨(some 44), (.op (.mv (.tmp 43))), none⟩,
            ⟨(some 45), (.op (.mv (.tmp 11))), (some (44, true))⟩,
            ⟨(some 46), (.call (.cst (.func (.func 37) [] [])) [(.tmp 45)]), (some (44, true))⟩,
            ⟨(some 47), (.op (.pick (.tmp 44) (.tmp 46) (.cst (.bool false)))), none⟩,
            ⟨(some 48), (.op (.mv (.tmp 47))), none⟩,
            ⟨(some 49), (.op (.mv (.tmp 6))), (some (48, true))⟩,
            ⟨(some 50), (.op (.mv (.tmp 10))), (some (48, true))⟩,
            ⟨(some 51), (.call (.cst (.func (.func 42) [] [])) [(.tmp 49), (.tmp 50)]), (some (48, true))⟩,
            ⟨(some 52), (.op (.un .not (.tmp 51))), (some (48, true))⟩,
            ⟨(some 53), (.op (.pick (.tmp 48) (.tmp 52) (.cst (.bool false)))), none⟩,
            ⟨(some 54), (.op (.mv (.tmp 53))), none⟩,
            ⟨(some 55), (.op (.mv (.tmp 6))), (some (54, true))⟩,
            ⟨(some 56), (.op (.len .slice (.tmp 55))), (some (54, true))⟩,
            ⟨(some 57), (.op (.bin .lss none (.tmp 56) (.cst (.int .i64 256)))), (some (54, true))⟩,
            ⟨(some 58), (.op (.pick (.tmp 54) (.tmp 57) (.cst (.bool false)))), none⟩,
            ⟨(some 5), (.op (.mv (.tmp 58))), none⟩] [])
def b21_3 : HCode :=
  (.region [
            ⟨(some 31), (.op (.mv (.tmp 7))), none⟩,
            ⟨(some 32), (.call (.cst (.func (.func 40) [] [])) [(.tmp 31), (.cst (.str [58, 32]))]), none⟩,
            ⟨(some 30), (.op (.mv (.tmp 32))), none⟩,
            ⟨(some 33), (.op (.ext 0 (.tmp 30))), none⟩,
            ⟨(some 34), (.op (.ext 1 (.tmp 30))), none⟩,
            ⟨(some 35), (.op (.ext 2 (.tmp 30))), none⟩,
            ⟨(some 10), (.op (.mv (.tmp 33))), none⟩,
            ⟨(some 11), (.op (.mv (.tmp 34))), none⟩,
            ⟨(some 12), (.op (.mv (.tmp 35))), none⟩] [])
def b21_4 : HCode :=
  (.region [
            ⟨(some 25), (.op (.mv (.tmp 4))), none⟩,
            ⟨(some 26), (.call (.cst (.func (.func 35) [] [])) [(.tmp 25)]), none⟩,
            ⟨(some 24), (.op (.mv (.tmp 26))), none⟩,
            ⟨(some 27), (.op (.ext 0 (.tmp 24))), none⟩,
            ⟨(some 28), (.op (.ext 1 (.tmp 24))), none⟩,
            ⟨(some 29), (.op (.ext 2 (.tmp 24))), none⟩,
            ⟨(some 7), (.op (.mv (.tmp 27))), none⟩,
            ⟨(some 8), (.op (.mv (.tmp 28))), none⟩,
            ⟨(some 9), (.op (.mv (.tmp 29))), none⟩] [])
def b21_5 : HCode :=
  (.seq (.seq (.region [
          ⟨(some 19), (.op (.mv (.tmp 5))), none⟩,
          ⟨(some 20), (.op (.mv (.tmp 19))), none⟩,
          ⟨(some 21), (.op (.mv (.tmp 4))), (some (20, true))⟩,
          ⟨(some 22), (.op (.bin .neq (some .str) (.tmp 21) (.cst (.str [])))), (some (20, true))⟩,
          ⟨(some 23), (.op (.pick (.tmp 20) (.tmp 22) (.cst (.bool false)))), none⟩] []) (.cond (.tmp 23) .skip (.exit 0))) (.block 1 (.seq b21_4 (.seq b21_3 (.seq b21_2 (.seq b21_1 (.region [
            ⟨(some 65), (.op (.mv (.tmp 8))), none⟩,
            ⟨(some 4), (.op (.mv (.tmp 65))), none⟩] [])))))))
def b21_6 : HCode :=
  (.seq (.block 0 (.loop b21_5)) (.seq (.seq (.region [
      ⟨(some 66), (.op (.mv (.tmp 5))), none⟩,
      ⟨(some 67), (.op (.un .not (.tmp 66))), none⟩] []) (.cond (.tmp 67) (.seq (.region [
        ⟨(some 2), (.op (.mv (.cst .nilSlice))), none⟩,
        ⟨(some 3), (.op (.mv (.cst (.int .i64 92)))), none⟩] []) .ret) .skip)) (.seq (.region [
      ⟨(some 68), (.op (.mv (.tmp 6))), none⟩,
      ⟨(some 2), (.op (.mv (.tmp 68))), none⟩,
      ⟨(some 3), (.op (.mv (.cst (.int .i64 0)))), none⟩] []) .ret)))
def b21_7 : HCode :=
  (.seq (.region [
      ⟨(some 14), (.op (.mv (.tmp 0))), none⟩,
      ⟨(some 15), (.op (.b2s (.tmp 14))), none⟩,
      ⟨(some 16), (.call (.cst (.func (.func 34) [] [])) [(.tmp 15), (.cst (.str [45, 45, 45, 10]))]), none⟩,
      ⟨(some 13), (.op (.mv (.tmp 16))), none⟩,
      ⟨(some 17), (.op (.ext 0 (.tmp 13))), none⟩,
      ⟨(some 18), (.op (.ext 1 (.tmp 13))), none⟩,
      ⟨(some 4), (.op (.mv (.tmp 17))), none⟩,
      ⟨(some 5), (.op (.mv (.tmp 18))), none⟩] []) (.seq (.region [
      ⟨(some 6), (.op (.mv (.cst .nilSlice))), none⟩] []) b21_6))
set_option linter.defProp false in
def ub21 :=
  And.intro (hw_unf b21_1.eq_1) <|
  And.intro (hw_unf b21_2.eq_1) <|
  And.intro (hw_unf b21_3.eq_1) <|
  And.intro (hw_unf b21_4.eq_1) <|
  And.intro (hw_unf b21_5.eq_1) <|
  And.intro (hw_unf b21_6.eq_1) <|
  hw_unf b21_7.eq_1
def h21 : HFn :=
  ⟨69, [(.tmp 2), (.tmp 3)], (.seq (.region [
      ⟨(some 2), (.op (.mv (.cst .nilSlice))), none⟩,
      ⟨(some 3), (.op (.mv (.cst (.int .i64 0)))), none⟩] []) b21_7)⟩
theorem c21 : cFn Tryd.prog [] Tryd.f21 = some h21 := by kernel_rfl
/-- stint/stintlaw09.pairs -/
def b22_1 : HCode :=
  (.draw [
            ⟨(some 16), (.op (.mv (.tmp 0))), none⟩,
            ⟨(some 17), (.op (.mv (.tmp 5))), none⟩,
            ⟨(some 18), (.op (.idxS 2 (.tmp 16) (.tmp 17))), none⟩,
            ⟨(some 19), (.op (.load (some 2) (.tmp 18))), none⟩,
            ⟨(some 20), (.op (.mv (.tmp 1))), none⟩,
            ⟨(some 21), (.op (.mv (.tmp 5))), none⟩,
            ⟨(some 22), (.op (.idxS 2 (.tmp 20) (.tmp 21))), none⟩,
            ⟨(some 23), (.op (.load (some 2) (.tmp 22))), none⟩,
            ⟨(some 24), (.op (.bin .neq (some (.struct [(0, none, .str), (1, none, .str)])) (.tmp 19) (.tmp 23))), none⟩] [0, 1, 2, 3, 4, 5, 6, 7, 8] [[], [], [], [], [], [], [], [], []] [])
def b22_2 : HCode :=
  (.seq (.region [
          ⟨(some 14), (.op (.bin .lss none (.tmp 13) (.tmp 12))), none⟩] []) (.seq (.cond (.tmp 14) .skip (.exit 0)) (.seq (.block 1 (.seq (.region [
            ⟨(some 15), (.op (.mv (.tmp 13))), none⟩,
            ⟨(some 5), (.op (.mv (.tmp 15))), none⟩] []) (.seq b22_1 (.cond (.tmp 24) (.seq (.region [
              ⟨(some 4), (.op (.mv (.cst (.bool false)))), none⟩] []) .ret) .skip)))) (.region [
          ⟨(some 25), (.op (.bin .add none (.tmp 13) (.cst (.int .i64 1)))), none⟩,
          ⟨(some 13), (.op (.mv (.tmp 25))), none⟩] []))))
def b22_3 : HCode :=
  (.seq (.seq (.region [
      ⟨(some 6), (.op (.mv (.tmp 0))), none⟩,
      ⟨(some 7), (.op (.len .slice (.tmp 6))), none⟩,
      ⟨(some 8), (.op (.mv (.tmp 1))), none⟩,
      ⟨(some 9), (.op (.len .slice (.tmp 8))), none⟩,
      ⟨(some 10), (.op (.bin .neq (some .int) (.tmp 7) (.tmp 9))), none⟩] []) (.cond (.tmp 10) (.seq (.region [
        ⟨(some 4), (.op (.mv (.cst (.bool false)))), none⟩] []) .ret) .skip)) (.seq (.seq (.region [
      ⟨(some 11), (.op (.mv (.tmp 0))), none⟩,
      ⟨(some 12), (.op (.len .slice (.tmp 11))), none⟩,
      ⟨(some 13), (.op (.mv (.cst (.int .i64 0)))), none⟩] []) (.block 0 (.loop b22_2))) (.seq (.region [
      ⟨(some 4), (.op (.mv (.cst (.bool true)))), none⟩] []) .ret)))
set_option linter.defProp false in
def ub22 :=
  And.intro (hw_unf b22_1.eq_1) <|
  And.intro (hw_unf b22_2.eq_1) <|
  hw_unf b22_3.eq_1
def h22 : HFn :=
  ⟨26, [(.tmp 4)], (.seq (.region [
      ⟨(some 4), (.op (.mv (.cst (.bool false)))), none⟩] []) b22_3)⟩
theorem c22 : cFn Tryd.prog [] Tryd.f22 = some h22 := by kernel_rfl
/-- stint/stintref09.ReadList -/
def b23_1 : HCode :=
  (.seq (.seq (.region [
            ⟨(some 24), (.op (.mv (.tmp 8))), none⟩,
            ⟨(some 25), (.op (.len .str (.tmp 24))), none⟩,
            ⟨(some 26), (.op (.bin .lss none (.tmp 25) (.cst (.int .i64 2)))), none⟩] []) (.cond (.tmp 26) (.seq (.region [
              ⟨(some 2), (.op (.mv (.cst .nilSlice))), none⟩,
              ⟨(some 3), (.op (.mv (.cst (.int .i64 92)))), none⟩] []) .ret) .skip)) (.region [
            ⟨(some 27), (.op (.mv (.tmp 6))), none⟩,
            ⟨(some 28), (.op (.mv (.tmp 8))), none⟩,
            ⟨(some 29), (.op (.sliceStr (.tmp 28) (some (.cst (.int .i64 2))) none)), none⟩,
            ⟨(some 30), (.op (.bslice 1 1 [(.str [])] [(0, 1, (.tmp 29))])), none⟩,
            ⟨(some 31), (.op (.append 1 16 (.tmp 27) (.tmp 30))), none⟩,
            ⟨(some 6), (.op (.mv (.tmp 31))), none⟩] []))
def b23_2 : HCode :=
  (.seq (.region [
          ⟨(some 21), (.op (.bin .lss none (.tmp 20) (.tmp 19))), none⟩] []) (.seq (.cond (.tmp 21) .skip (.exit 0)) (.seq (.block 1 (.seq (.region [
            ⟨(some 22), (.op (.idxS 1 (.tmp 18) (.tmp 20))), none⟩,
            ⟨(some 23), (.op (.load none (.tmp 22))), none⟩,
            ⟨(some 8), (.op (.mv (.tmp 23))), none⟩] []) b23_1)) (.region [
          ⟨(some 32), (.op (.bin .add none (.tmp 20) (.cst (.int .i64 1)))), none⟩,
          ⟨(some 20), (.op (.mv (.tmp 32))), none⟩] []))))
def b23_3 : HCode :=
  (.region [
      ⟨(some 38), (.op (.mv (.tmp 10))), none⟩,
      ⟨(some 39), (.op (.bin .neq (some .int) (.tmp 38) (.cst (.int .i64 0)))), none⟩,
      ⟨(some 40), (.op (.mv (.tmp 39))), none⟩,
      ⟨(some 41), (.op (.mv (.tmp 9))), (some (40, false))⟩,
      ⟨(some 42), (.op (.mv (.tmp 0))), (some (40, false))⟩,
      ⟨(some 43), (.call (.cst (.func (.func 44) [] [])) [(.tmp 41), (.tmp 42)]), (some (40, false))⟩,
      ⟨(some 44), (.op (.un .not (.tmp 43))), (some (40, false))⟩,
      ⟨(some 45), (.op (.pick (.tmp 40) (.cst (.bool true)) (.tmp 44))), none⟩] [])
def b23_4 : HCode :=
  (.seq (.region [
      ⟨(some 34), (.op (.mv (.tmp 6))), none⟩,
      ⟨(some 35), (.call (.cst (.func (.func 14) [] [])) [(.tmp 34)]), none⟩,
      ⟨(some 33), (.op (.mv (.tmp 35))), none⟩,
      ⟨(some 36), (.op (.ext 0 (.tmp 33))), none⟩,
      ⟨(some 37), (.op (.ext 1 (.tmp 33))), none⟩,
      ⟨(some 9), (.op (.mv (.tmp 36))), none⟩,
      ⟨(some 10), (.op (.mv (.tmp 37))), none⟩] []) (.seq (.seq b23_3 (.cond (.tmp 45) (.seq (.region [
        ⟨(some 2), (.op (.mv (.cst .nilSlice))), none⟩,
        ⟨(some 3), (.op (.mv (.cst (.int .i64 92)))), none⟩] []) .ret) .skip)) (.seq (.region [
      ⟨(some 46), (.op (.mv (.tmp 6))), none⟩,
      ⟨(some 2), (.op (.mv (.tmp 46))), none⟩,
      ⟨(some 3), (.op (.mv (.cst (.int .i64 0)))), none⟩] []) .ret)))
def b23_5 : HCode :=
  (.seq (.seq (.region [
      ⟨(some 16), (.op (.mv (.tmp 5))), none⟩,
      ⟨(some 17), (.op (.un .not (.tmp 16))), none⟩] []) (.cond (.tmp 17) (.seq (.region [
        ⟨(some 2), (.op (.mv (.cst .nilSlice))), none⟩,
        ⟨(some 3), (.op (.mv (.cst (.int .i64 92)))), none⟩] []) .ret) .skip)) (.seq (.region [
      ⟨(some 6), (.op (.mv (.cst .nilSlice))), none⟩] []) (.seq (.seq (.region [
      ⟨(some 18), (.op (.mv (.tmp 4))), none⟩,
      ⟨(some 19), (.op (.len .slice (.tmp 18))), none⟩,
      ⟨(some 20), (.op (.mv (.cst (.int .i64 0)))), none⟩] []) (.block 0 (.loop b23_2))) b23_4)))
set_option linter.defProp false in
def ub23 :=
  And.intro (hw_unf b23_1.eq_1) <|
  And.intro (hw_unf b23_2.eq_1) <|
  And.intro (hw_unf b23_3.eq_1) <|
  And.intro (hw_unf b23_4.eq_1) <|
  hw_unf b23_5.eq_1
def h23 : HFn :=
  ⟨47, [(.tmp 2), (.tmp 3)], (.seq (.region [
      ⟨(some 2), (.op (.mv (.cst .nilSlice))), none⟩,
      ⟨(some 3), (.op (.mv (.cst (.int .i64 0)))), none⟩] []) (.seq (.region [
      ⟨(some 12), (.op (.mv (.tmp 0))), none⟩,
      ⟨(some 13), (.call (.cst (.func (.func 43) [] [])) [(.tmp 12)]), none⟩,
      ⟨(some 11), (.op (.mv (.tmp 13))), none⟩,
      ⟨(some 14), (.op (.ext 0 (.tmp 11))), none⟩,
      ⟨(some 15), (.op (.ext 1 (.tmp 11))), none⟩,
      ⟨(some 4), (.op (.mv (.tmp 14))), none⟩,
      ⟨(some 5), (.op (.mv (.tmp 15))), none⟩] []) b23_5))⟩
theorem c23 : cFn Tryd.prog [] Tryd.f23 = some h23 := by kernel_rfl
/-- stint/stintref09.ReadDict -/
def b24_1 : HCode :=
  (.region [
                ⟨(some 30), (.op (.mv (.tmp 9))), none⟩,
                ⟨(some 31), (.op (.mv (.tmp 8))), none⟩,
                ⟨(some 32), (.op (.len .str (.tmp 31))), none⟩,
                ⟨(some 33), (.op (.bin .lss none (.tmp 30) (.tmp 32))), none⟩,
                ⟨(some 34), (.op (.mv (.tmp 33))), none⟩,
                ⟨(some 35), (.op (.mv (.tmp 8))), (some (34, true))⟩,
                ⟨(some 36), (.op (.mv (.tmp 9))), (some (34, true))⟩,
                ⟨(some 37), (.op (.idxStr (.tmp 35) (.tmp 36))), (some (34, true))⟩,
                ⟨(some 38), (.op (.bin .neq (some .int) (.tmp 37) (.cst (.int .u8 58)))), (some (34, true))⟩,
                ⟨(some 39), (.op (.pick (.tmp 34) (.tmp 38) (.cst (.bool false)))), none⟩] [])
def b24_2 : HCode :=
  (.seq (.region [
            ⟨(some 42), (.op (.mv (.tmp 9))), none⟩,
            ⟨(some 43), (.op (.bin .add none (.tmp 42) (.cst (.int .i64 2)))), none⟩,
            ⟨(some 44), (.op (.mv (.tmp 8))), none⟩,
            ⟨(some 45), (.op (.len .str (.tmp 44))), none⟩,
            ⟨(some 46), (.op (.bin .gtr none (.tmp 43) (.tmp 45))), none⟩] []) (.cond (.tmp 46) (.seq (.region [
              ⟨(some 2), (.op (.mv (.cst .nilSlice))), none⟩,
              ⟨(some 3), (.op (.mv (.cst (.int .i64 92)))), none⟩] []) .ret) .skip))
def b24_3 : HCode :=
  (.draw [
            ⟨(some 47), (.op (.mv (.tmp 6))), none⟩,
            ⟨(some 48), (.op (.mv (.tmp 8))), none⟩,
            ⟨(some 49), (.op (.mv (.tmp 9))), none⟩,
            ⟨(some 50), (.op (.sliceStr (.tmp 48) none (some (.tmp 49)))), none⟩,
            ⟨(some 51), (.op (.mv (.tmp 8))), none⟩,
            ⟨(some 52), (.op (.mv (.tmp 9))), none⟩,
            ⟨(some 53), (.op (.bin .add none (.tmp 52) (.cst (.int .i64 2)))), none⟩,
            ⟨(some 54), (.op (.sliceStr (.tmp 51) (some (.tmp 53)) none)), none⟩,
            ⟨(some 55), (.op (.build [(.str []), (.str [])] [(0, 1, (.tmp 50)), (1, 1, (.tmp 54))])), none⟩,
            ⟨(some 56), (.op (.bslice 2 1 [(.str []), (.str [])] [(0, 2, (.tmp 55))])), none⟩,
            ⟨(some 57), (.op (.append 2 32 (.tmp 47) (.tmp 56))), none⟩,
            ⟨(some 6), (.op (.mv (.tmp 57))), none⟩] [0, 1, 2, 3, 4, 5, 6, 7, 8, 9, 10, 11] [[], [], [], [], [], [], [], [], [], [], [], []] [])
def b24_4 : HCode :=
  (.seq (.region [
            ⟨(some 28), (.op (.idxS 1 (.tmp 24) (.tmp 26))), none⟩,
            ⟨(some 29), (.op (.load none (.tmp 28))), none⟩,
            ⟨(some 8), (.op (.mv (.tmp 29))), none⟩] []) (.seq (.region [
            ⟨(some 9), (.op (.mv (.cst (.int .i64 0)))), none⟩] []) (.seq (.block 2 (.loop (.seq (.seq b24_1 (.cond (.tmp 39) .skip (.exit 2))) (.block 3 (.region [
                  ⟨(some 40), (.op (.mv (.tmp 9))), none⟩,
                  ⟨(some 41), (.op (.bin .add none (.tmp 40) (.cst (.int .i64 1)))), none⟩,
                  ⟨(some 9), (.op (.mv (.tmp 41))), none⟩] []))))) (.seq b24_2 b24_3))))
def b24_5 : HCode :=
  (.region [
      ⟨(some 64), (.op (.mv (.tmp 11))), none⟩,
      ⟨(some 65), (.op (.bin .neq (some .int) (.tmp 64) (.cst (.int .i64 0)))), none⟩,
      ⟨(some 66), (.op (.mv (.tmp 65))), none⟩,
      ⟨(some 67), (.op (.mv (.tmp 10))), (some (66, false))⟩,
      ⟨(some 68), (.op (.mv (.tmp 0))), (some (66, false))⟩,
      ⟨(some 69), (.call (.cst (.func (.func 44) [] [])) [(.tmp 67), (.tmp 68)]), (some (66, false))⟩,
      ⟨(some 70), (.op (.un .not (.tmp 69))), (some (66, false))⟩,
      ⟨(some 71), (.op (.pick (.tmp 66) (.cst (.bool true)) (.tmp 70))), none⟩] [])
def b24_6 : HCode :=
  (.seq (.region [
      ⟨(some 24), (.op (.mv (.tmp 4))), none⟩,
      ⟨(some 25), (.op (.len .slice (.tmp 24))), none⟩,
      ⟨(some 26), (.op (.mv (.cst (.int .i64 0)))), none⟩] []) (.block 0 (.loop (.seq (.region [
          ⟨(some 27), (.op (.bin .lss none (.tmp 26) (.tmp 25))), none⟩] []) (.seq (.cond (.tmp 27) .skip (.exit 0)) (.seq (.block 1 b24_4) (.region [
          ⟨(some 58), (.op (.bin .add none (.tmp 26) (.cst (.int .i64 1)))), none⟩,
          ⟨(some 26), (.op (.mv (.tmp 58))), none⟩] [])))))))
def b24_7 : HCode :=
  (.seq (.region [
      ⟨(some 60), (.op (.mv (.tmp 6))), none⟩,
      ⟨(some 61), (.call (.cst (.func (.func 20) [] [])) [(.tmp 60)]), none⟩,
      ⟨(some 59), (.op (.mv (.tmp 61))), none⟩,
      ⟨(some 62), (.op (.ext 0 (.tmp 59))), none⟩,
      ⟨(some 63), (.op (.ext 1 (.tmp 59))), none⟩,
      ⟨(some 10), (.op (.mv (.tmp 62))), none⟩,
      ⟨(some 11), (.op (.mv (.tmp 63))), none⟩] []) (.seq (.seq b24_5 (.cond (.tmp 71) (.seq (.region [
        ⟨(some 2), (.op (.mv (.cst .nilSlice))), none⟩,
        ⟨(some 3), (.op (.mv (.cst (.int .i64 92)))), none⟩] []) .ret) .skip)) (.seq (.region [
      ⟨(some 72), (.op (.mv (.tmp 6))), none⟩,
      ⟨(some 2), (.op (.mv (.tmp 72))), none⟩,
      ⟨(some 3), (.op (.mv (.cst (.int .i64 0)))), none⟩] []) .ret)))
def b24_8 : HCode :=
  (.seq (.region [
      ⟨(some 17), (.op (.mv (.tmp 5))), none⟩,
      ⟨(some 18), (.op (.un .not (.tmp 17))), none⟩,
      ⟨(some 19), (.op (.mv (.tmp 18))), none⟩,
      ⟨(some 20), (.op (.mv (.tmp 4))), (some (19, false))⟩,
      ⟨(some 21), (.op (.len .slice (.tmp 20))), (some (19, false))⟩,
      ⟨(some 22), (.op (.bin .gtr none (.tmp 21) (.cst (.int .i64 256)))), (some (19, false))⟩,
      ⟨(some 23), (.op (.pick (.tmp 19) (.cst (.bool true)) (.tmp 22))), none⟩] []) (.cond (.tmp 23) (.seq (.region [
        ⟨(some 2), (.op (.mv (.cst .nilSlice))), none⟩,
        ⟨(some 3), (.op (.mv (.cst (.int .i64 92)))), none⟩] []) .ret) .skip))
set_option linter.defProp false in
def ub24 :=
  And.intro (hw_unf b24_1.eq_1) <|
  And.intro (hw_unf b24_2.eq_1) <|
  And.intro (hw_unf b24_3.eq_1) <|
  And.intro (hw_unf b24_4.eq_1) <|
  And.intro (hw_unf b24_5.eq_1) <|
  And.intro (hw_unf b24_6.eq_1) <|
  And.intro (hw_unf b24_7.eq_1) <|
  hw_unf b24_8.eq_1
def h24 : HFn :=
  ⟨73, [(.tmp 2), (.tmp 3)], (.seq (.region [
      ⟨(some 2), (.op (.mv (.cst .nilSlice))), none⟩,
      ⟨(some 3), (.op (.mv (.cst (.int .i64 0)))), none⟩] []) (.seq (.region [
      ⟨(some 13), (.op (.mv (.tmp 0))), none⟩,
      ⟨(some 14), (.call (.cst (.func (.func 43) [] [])) [(.tmp 13)]), none⟩,
      ⟨(some 12), (.op (.mv (.tmp 14))), none⟩,
      ⟨(some 15), (.op (.ext 0 (.tmp 12))), none⟩,
      ⟨(some 16), (.op (.ext 1 (.tmp 12))), none⟩,
      ⟨(some 4), (.op (.mv (.tmp 15))), none⟩,
      ⟨(some 5), (.op (.mv (.tmp 16))), none⟩] []) (.seq b24_8 (.seq (.region [
      ⟨(some 6), (.op (.mv (.cst .nilSlice))), none⟩] []) (.seq b24_6 b24_7)))))⟩
theorem c24 : cFn Tryd.prog [] Tryd.f24 = some h24 := by kernel_rfl
/-- stint/stintlaw09.apart -/
def b25_1 : HCode :=
  (.seq (.region [
                  ⟨(some 35), (.op (.mv (.tmp 33))), none⟩,
                  ⟨(some 10), (.op (.mv (.tmp 35))), none⟩] []) (.region [
                  ⟨(some 36), (.op (.mv (.tmp 9))), none⟩,
                  ⟨(some 37), (.op (.mv (.tmp 10))), none⟩,
                  ⟨(some 38), (.op (.mv (.tmp 8))), none⟩,
                  ⟨(some 39), (.call (.cst (.func (.func 45) [] [])) [(.tmp 38)]), none⟩,
                  ⟨(some 40), (.op (.idxS 1 (.tmp 36) (.tmp 37))), none⟩,
                  ⟨none, (.op (.store 1 (.tmp 40) (.tmp 39))), none⟩] []))
def b25_2 : HCode :=
  (.seq (.region [
            ⟨(some 31), (.op (.mv (.tmp 9))), none⟩,
            ⟨(some 32), (.op (.len .slice (.tmp 31))), none⟩,
            ⟨(some 33), (.op (.mv (.cst (.int .i64 0)))), none⟩] []) (.block 2 (.loop (.seq (.region [
                ⟨(some 34), (.op (.bin .lss none (.tmp 33) (.tmp 32))), none⟩] []) (.seq (.cond (.tmp 34) .skip (.exit 2)) (.seq (.block 3 b25_1) (.region [
                ⟨(some 41), (.op (.bin .add none (.tmp 33) (.cst (.int .i64 1)))), none⟩,
                ⟨(some 33), (.op (.mv (.tmp 41))), none⟩] [])))))))
def b25_3 : HCode :=
  (.seq (.cond (.tmp 27) .skip (.exit 0)) (.seq (.block 1 (.seq (.region [
            ⟨(some 28), (.op (.mv (.tmp 26))), none⟩,
            ⟨(some 29), (.op (.idxS 1 (.tmp 24) (.tmp 26))), none⟩,
            ⟨(some 30), (.op (.load none (.tmp 29))), none⟩,
            ⟨(some 8), (.op (.mv (.tmp 28))), none⟩,
            ⟨(some 9), (.op (.mv (.tmp 30))), none⟩] []) b25_2)) (.region [
          ⟨(some 42), (.op (.bin .add none (.tmp 26) (.cst (.int .i64 1)))), none⟩,
          ⟨(some 26), (.op (.mv (.tmp 42))), none⟩] [])))
def b25_4 : HCode :=
  (.draw [
                  ⟨(some 50), (.op (.mv (.tmp 7))), none⟩,
                  ⟨(some 51), (.op (.mv (.tmp 11))), none⟩,
                  ⟨(some 52), (.op (.mv (.tmp 7))), none⟩,
                  ⟨(some 53), (.op (.mv (.tmp 11))), none⟩,
                  ⟨(some 54), (.op (.idxS 1 (.tmp 52) (.tmp 53))), none⟩,
                  ⟨(some 55), (.op (.load none (.tmp 54))), none⟩,
                  ⟨(some 56), (.op (.mv (.tmp 11))), none⟩,
                  ⟨(some 57), (.call (.cst (.func (.func 45) [] [])) [(.tmp 56)]), none⟩,
                  ⟨(some 58), (.op (.bslice 1 1 [(.str [])] [(0, 1, (.tmp 57))])), none⟩,
                  ⟨(some 59), (.op (.append 1 16 (.tmp 55) (.tmp 58))), none⟩,
                  ⟨(some 60), (.op (.idxS 1 (.tmp 50) (.tmp 51))), none⟩,
                  ⟨none, (.op (.store 1 (.tmp 60) (.tmp 59))), none⟩] [0, 1, 2, 3, 4, 5, 6, 7, 8, 9, 10, 11] [[], [], [], [], [], [], [], [], [], [5, 4], [], [10, 4, 5]] [])
def b25_5 : HCode :=
  (.seq (.region [
            ⟨(some 47), (.op (.mv (.tmp 45))), none⟩,
            ⟨(some 11), (.op (.mv (.tmp 47))), none⟩] []) (.seq (.region [
            ⟨(some 48), (.op (.mv (.cst (.int .i64 0)))), none⟩] []) (.block 6 (.loop (.seq (.region [
                ⟨(some 49), (.op (.bin .lss none (.tmp 48) (.cst (.int .i64 20)))), none⟩] []) (.seq (.cond (.tmp 49) .skip (.exit 6)) (.seq (.block 7 b25_4) (.region [
                ⟨(some 61), (.op (.bin .add none (.tmp 48) (.cst (.int .i64 1)))), none⟩,
                ⟨(some 48), (.op (.mv (.tmp 61))), none⟩] []))))))))
def b25_6 : HCode :=
  (.seq (.region [
                  ⟨(some 74), (.op (.idxS 1 (.tmp 70) (.tmp 72))), none⟩,
                  ⟨(some 75), (.op (.load none (.tmp 74))), none⟩,
                  ⟨(some 15), (.op (.mv (.tmp 75))), none⟩] []) (.seq (.region [
                  ⟨(some 76), (.op (.mv (.tmp 15))), none⟩,
                  ⟨(some 77), (.op (.mv (.tmp 12))), none⟩,
                  ⟨(some 78), (.call (.cst (.func (.func 45) [] [])) [(.tmp 77)]), none⟩,
                  ⟨(some 79), (.op (.bin .neq (some .str) (.tmp 76) (.tmp 78))), none⟩] []) (.cond (.tmp 79) (.seq (.region [
                    ⟨(some 6), (.op (.mv (.cst (.bool false)))), none⟩] []) .ret) .skip)))
def b25_7 : HCode :=
  (.seq (.region [
            ⟨(some 70), (.op (.mv (.tmp 13))), none⟩,
            ⟨(some 71), (.op (.len .slice (.tmp 70))), none⟩,
            ⟨(some 72), (.op (.mv (.cst (.int .i64 0)))), none⟩] []) (.block 10 (.loop (.seq (.region [
                ⟨(some 73), (.op (.bin .lss none (.tmp 72) (.tmp 71))), none⟩] []) (.seq (.cond (.tmp 73) .skip (.exit 10)) (.seq (.block 11 b25_6) (.region [
                ⟨(some 80), (.op (.bin .add none (.tmp 72) (.cst (.int .i64 1)))), none⟩,
                ⟨(some 72), (.op (.mv (.tmp 80))), none⟩] [])))))))
def b25_8 : HCode :=
  (.seq (.cond (.tmp 66) .skip (.exit 8)) (.seq (.block 9 (.seq (.region [
            ⟨(some 67), (.op (.mv (.tmp 65))), none⟩,
            ⟨(some 68), (.op (.idxS 1 (.tmp 63) (.tmp 65))), none⟩,
            ⟨(some 69), (.op (.load none (.tmp 68))), none⟩,
            ⟨(some 12), (.op (.mv (.tmp 67))), none⟩,
            ⟨(some 13), (.op (.mv (.tmp 69))), none⟩] []) b25_7)) (.region [
          ⟨(some 81), (.op (.bin .add none (.tmp 65) (.cst (.int .i64 1)))), none⟩,
          ⟨(some 65), (.op (.mv (.tmp 81))), none⟩] [])))
def b25_9 : HCode :=
  (.seq (.region [
                  ⟨(some 96), (.op (.idxS 1 (.tmp 92) (.tmp 94))), none⟩,
                  ⟨(some 97), (.op (.load none (.tmp 96))), none⟩,
                  ⟨(some 19), (.op (.mv (.tmp 97))), none⟩] []) (.seq (.region [
                  ⟨(some 98), (.op (.mv (.tmp 19))), none⟩,
                  ⟨(some 99), (.op (.mv (.tmp 16))), none⟩,
                  ⟨(some 100), (.call (.cst (.func (.func 45) [] [])) [(.tmp 99)]), none⟩,
                  ⟨(some 101), (.op (.bin .neq (some .str) (.tmp 98) (.tmp 100))), none⟩] []) (.cond (.tmp 101) (.seq (.region [
                    ⟨(some 6), (.op (.mv (.cst (.bool false)))), none⟩] []) .ret) .skip)))
def b25_10 : HCode :=
  (.seq (.region [
            ⟨(some 92), (.op (.mv (.tmp 17))), none⟩,
            ⟨(some 93), (.op (.len .slice (.tmp 92))), none⟩,
            ⟨(some 94), (.op (.mv (.cst (.int .i64 0)))), none⟩] []) (.block 14 (.loop (.seq (.region [
                ⟨(some 95), (.op (.bin .lss none (.tmp 94) (.tmp 93))), none⟩] []) (.seq (.cond (.tmp 95) .skip (.exit 14)) (.seq (.block 15 b25_9) (.region [
                ⟨(some 102), (.op (.bin .add none (.tmp 94) (.cst (.int .i64 1)))), none⟩,
                ⟨(some 94), (.op (.mv (.tmp 102))), none⟩] [])))))))
def b25_11 : HCode :=
  (.seq (.cond (.tmp 88) .skip (.exit 12)) (.seq (.block 13 (.seq (.region [
            ⟨(some 89), (.op (.mv (.tmp 87))), none⟩,
            ⟨(some 90), (.op (.idxS 1 (.tmp 85) (.tmp 87))), none⟩,
            ⟨(some 91), (.op (.load none (.tmp 90))), none⟩,
            ⟨(some 16), (.op (.mv (.tmp 89))), none⟩,
            ⟨(some 17), (.op (.mv (.tmp 91))), none⟩] []) b25_10)) (.region [
          ⟨(some 103), (.op (.bin .add none (.tmp 87) (.cst (.int .i64 1)))), none⟩,
          ⟨(some 87), (.op (.mv (.tmp 103))), none⟩] [])))
def b25_12 : HCode :=
  (.seq (.region [
      ⟨(some 82), (.op (.mv (.tmp 0))), none⟩,
      ⟨(some 83), (.op (.mv (.tmp 1))), none⟩,
      ⟨(some 84), (.op (.mv (.tmp 2))), none⟩,
      ⟨(some 85), (.op (.bslice 1 3 [.nilSlice, .nilSlice, .nilSlice] [(0, 1, (.tmp 82)), (1, 1, (.tmp 83)), (2, 1, (.tmp 84))])), none⟩,
      ⟨(some 86), (.op (.len .slice (.tmp 85))), none⟩,
      ⟨(some 87), (.op (.mv (.cst (.int .i64 0)))), none⟩] []) (.block 12 (.loop (.seq (.region [
          ⟨(some 88), (.op (.bin .lss none (.tmp 87) (.tmp 86))), none⟩] []) b25_11))))
def b25_13 : HCode :=
  (.seq (.region [
      ⟨(some 43), (.op (.mv (.tmp 7))), none⟩,
      ⟨(some 44), (.op (.len .slice (.tmp 43))), none⟩,
      ⟨(some 45), (.op (.mv (.cst (.int .i64 0)))), none⟩] []) (.block 4 (.loop (.seq (.region [
          ⟨(some 46), (.op (.bin .lss none (.tmp 45) (.tmp 44))), none⟩] []) (.seq (.cond (.tmp 46) .skip (.exit 4)) (.seq (.block 5 b25_5) (.region [
          ⟨(some 62), (.op (.bin .add none (.tmp 45) (.cst (.int .i64 1)))), none⟩,
          ⟨(some 45), (.op (.mv (.tmp 62))), none⟩] [])))))))
def b25_14 : HCode :=
  (.seq (.seq (.region [
      ⟨(some 24), (.op (.mv (.tmp 7))), none⟩,
      ⟨(some 25), (.op (.len .slice (.tmp 24))), none⟩,
      ⟨(some 26), (.op (.mv (.cst (.int .i64 0)))), none⟩] []) (.block 0 (.loop (.seq (.region [
          ⟨(some 27), (.op (.bin .lss none (.tmp 26) (.tmp 25))), none⟩] []) b25_3)))) (.seq b25_13 (.seq (.seq (.region [
      ⟨(some 63), (.op (.mv (.tmp 7))), none⟩,
      ⟨(some 64), (.op (.len .slice (.tmp 63))), none⟩,
      ⟨(some 65), (.op (.mv (.cst (.int .i64 0)))), none⟩] []) (.block 8 (.loop (.seq (.region [
          ⟨(some 66), (.op (.bin .lss none (.tmp 65) (.tmp 64))), none⟩] []) b25_8)))) (.seq b25_12 (.seq (.region [
      ⟨(some 6), (.op (.mv (.cst (.bool true)))), none⟩] []) .ret)))))
set_option linter.defProp false in
def ub25 :=
  And.intro (hw_unf b25_1.eq_1) <|
  And.intro (hw_unf b25_2.eq_1) <|
  And.intro (hw_unf b25_3.eq_1) <|
  And.intro (hw_unf b25_4.eq_1) <|
  And.intro (hw_unf b25_5.eq_1) <|
  And.intro (hw_unf b25_6.eq_1) <|
  And.intro (hw_unf b25_7.eq_1) <|
  And.intro (hw_unf b25_8.eq_1) <|
  And.intro (hw_unf b25_9.eq_1) <|
  And.intro (hw_unf b25_10.eq_1) <|
  And.intro (hw_unf b25_11.eq_1) <|
  And.intro (hw_unf b25_12.eq_1) <|
  And.intro (hw_unf b25_13.eq_1) <|
  hw_unf b25_14.eq_1
def h25 : HFn :=
  ⟨104, [(.tmp 6)], (.seq (.region [
      ⟨(some 6), (.op (.mv (.cst (.bool false)))), none⟩] []) (.seq (.region [
      ⟨(some 20), (.op (.mv (.tmp 0))), none⟩,
      ⟨(some 21), (.op (.mv (.tmp 1))), none⟩,
      ⟨(some 22), (.op (.mv (.tmp 2))), none⟩,
      ⟨(some 23), (.op (.bslice 1 3 [.nilSlice, .nilSlice, .nilSlice] [(0, 1, (.tmp 20)), (1, 1, (.tmp 21)), (2, 1, (.tmp 22))])), none⟩,
      ⟨(some 7), (.op (.mv (.tmp 23))), none⟩] []) b25_14))⟩
theorem c25 : cFn Tryd.prog [] Tryd.f25 = some h25 := by kernel_rfl
/-- stint/stintlaw09.apartPairs -/
def b26_1 : HCode :=
  (.region [
                  ⟨(some 32), (.op (.mv (.tmp 9))), none⟩,
                  ⟨(some 33), (.op (.mv (.tmp 10))), none⟩,
                  ⟨(some 34), (.op (.mv (.tmp 8))), none⟩,
                  ⟨(some 35), (.call (.cst (.func (.func 45) [] [])) [(.tmp 34)]), none⟩,
                  ⟨(some 36), (.op (.build [(.str []), (.str [])] [(0, 1, (.tmp 35))])), none⟩,
                  ⟨(some 37), (.op (.idxS 2 (.tmp 32) (.tmp 33))), none⟩,
                  ⟨none, (.op (.store 2 (.tmp 37) (.tmp 36))), none⟩] [])
def b26_2 : HCode :=
  (.seq (.region [
            ⟨(some 27), (.op (.mv (.tmp 9))), none⟩,
            ⟨(some 28), (.op (.len .slice (.tmp 27))), none⟩,
            ⟨(some 29), (.op (.mv (.cst (.int .i64 0)))), none⟩] []) (.block 2 (.loop (.seq (.region [
                ⟨(some 30), (.op (.bin .lss none (.tmp 29) (.tmp 28))), none⟩] []) (.seq (.cond (.tmp 30) .skip (.exit 2)) (.seq (.block 3 (.seq (.region [
                  ⟨(some 31), (.op (.mv (.tmp 29))), none⟩,
                  ⟨(some 10), (.op (.mv (.tmp 31))), none⟩] []) b26_1)) (.region [
                ⟨(some 38), (.op (.bin .add none (.tmp 29) (.cst (.int .i64 1)))), none⟩,
                ⟨(some 29), (.op (.mv (.tmp 38))), none⟩] [])))))))
def b26_3 : HCode :=
  (.seq (.cond (.tmp 23) .skip (.exit 0)) (.seq (.block 1 (.seq (.region [
            ⟨(some 24), (.op (.mv (.tmp 22))), none⟩,
            ⟨(some 25), (.op (.idxS 1 (.tmp 20) (.tmp 22))), none⟩,
            ⟨(some 26), (.op (.load none (.tmp 25))), none⟩,
            ⟨(some 8), (.op (.mv (.tmp 24))), none⟩,
            ⟨(some 9), (.op (.mv (.tmp 26))), none⟩] []) b26_2)) (.region [
          ⟨(some 39), (.op (.bin .add none (.tmp 22) (.cst (.int .i64 1)))), none⟩,
          ⟨(some 22), (.op (.mv (.tmp 39))), none⟩] [])))
def b26_4 : HCode :=
  (.draw [
                  ⟨(some 47), (.op (.mv (.tmp 7))), none⟩,
                  ⟨(some 48), (.op (.mv (.tmp 11))), none⟩,
                  ⟨(some 49), (.op (.mv (.tmp 7))), none⟩,
                  ⟨(some 50), (.op (.mv (.tmp 11))), none⟩,
                  ⟨(some 51), (.op (.idxS 1 (.tmp 49) (.tmp 50))), none⟩,
                  ⟨(some 52), (.op (.load none (.tmp 51))), none⟩,
                  ⟨(some 53), (.op (.mv (.tmp 11))), none⟩,
                  ⟨(some 54), (.call (.cst (.func (.func 45) [] [])) [(.tmp 53)]), none⟩,
                  ⟨(some 55), (.op (.build [(.str []), (.str [])] [(0, 1, (.tmp 54))])), none⟩,
                  ⟨(some 56), (.op (.bslice 2 1 [(.str []), (.str [])] [(0, 2, (.tmp 55))])), none⟩,
                  ⟨(some 57), (.op (.append 2 32 (.tmp 52) (.tmp 56))), none⟩,
                  ⟨(some 58), (.op (.idxS 1 (.tmp 47) (.tmp 48))), none⟩,
                  ⟨none, (.op (.store 1 (.tmp 58) (.tmp 57))), none⟩] [0, 1, 2, 3, 4, 5, 6, 7, 8, 9, 10, 11, 12] [[], [], [], [], [], [], [], [], [], [], [5, 4], [], [11, 4, 5]] [])
def b26_5 : HCode :=
  (.seq (.region [
            ⟨(some 44), (.op (.mv (.tmp 42))), none⟩,
            ⟨(some 11), (.op (.mv (.tmp 44))), none⟩] []) (.seq (.region [
            ⟨(some 45), (.op (.mv (.cst (.int .i64 0)))), none⟩] []) (.block 6 (.loop (.seq (.region [
                ⟨(some 46), (.op (.bin .lss none (.tmp 45) (.cst (.int .i64 20)))), none⟩] []) (.seq (.cond (.tmp 46) .skip (.exit 6)) (.seq (.block 7 b26_4) (.region [
                ⟨(some 59), (.op (.bin .add none (.tmp 45) (.cst (.int .i64 1)))), none⟩,
                ⟨(some 45), (.op (.mv (.tmp 59))), none⟩] []))))))))
def b26_6 : HCode :=
  (.draw [
                  ⟨(some 86), (.op (.faddr 0 (.tmp 15))), none⟩,
                  ⟨(some 87), (.op (.load none (.tmp 86))), none⟩,
                  ⟨(some 88), (.op (.mv (.tmp 12))), none⟩,
                  ⟨(some 89), (.op (.bin .rem none (.tmp 88) (.cst (.int .i64 3)))), none⟩,
                  ⟨(some 90), (.call (.cst (.func (.func 45) [] [])) [(.tmp 89)]), none⟩,
                  ⟨(some 91), (.op (.bin .neq (some .str) (.tmp 87) (.tmp 90))), none⟩,
                  ⟨(some 92), (.op (.mv (.tmp 91))), none⟩,
                  ⟨(some 93), (.op (.faddr 1 (.tmp 15))), (some (92, false))⟩,
                  ⟨(some 94), (.op (.load none (.tmp 93))), (some (92, false))⟩,
                  ⟨(some 95), (.op (.bin .neq (some .str) (.tmp 94) (.cst (.str [])))), (some (92, false))⟩,
                  ⟨(some 96), (.op (.pick (.tmp 92) (.cst (.bool true)) (.tmp 95))), none⟩] [0, 1, 2, 3, 4, 5, 6, 7, 8, 9, 10] [[], [], [], [], [], [], [], [], [], [], []] [])
def b26_7 : HCode :=
  (.seq (.block 11 (.seq (.region [
                  ⟨(some 84), (.op (.idxS 2 (.tmp 80) (.tmp 82))), none⟩,
                  ⟨(some 85), (.op (.load (some 2) (.tmp 84))), none⟩,
                  ⟨(some 15), (.op (.box (.cst (.agg [(.str []), (.str [])])))), none⟩,
                  ⟨none, (.op (.store 2 (.tmp 15) (.tmp 85))), none⟩] []) (.seq b26_6 (.cond (.tmp 96) (.seq (.region [
                    ⟨(some 6), (.op (.mv (.cst (.bool false)))), none⟩] []) .ret) .skip)))) (.region [
                ⟨(some 97), (.op (.bin .add none (.tmp 82) (.cst (.int .i64 1)))), none⟩,
                ⟨(some 82), (.op (.mv (.tmp 97))), none⟩] []))
def b26_8 : HCode :=
  (.seq (.region [
            ⟨(some 77), (.op (.mv (.tmp 75))), none⟩,
            ⟨(some 78), (.op (.idxS 1 (.tmp 73) (.tmp 75))), none⟩,
            ⟨(some 79), (.op (.load none (.tmp 78))), none⟩,
            ⟨(some 12), (.op (.mv (.tmp 77))), none⟩,
            ⟨(some 13), (.op (.mv (.tmp 79))), none⟩] []) (.seq (.region [
            ⟨(some 80), (.op (.mv (.tmp 13))), none⟩,
            ⟨(some 81), (.op (.len .slice (.tmp 80))), none⟩,
            ⟨(some 82), (.op (.mv (.cst (.int .i64 0)))), none⟩] []) (.block 10 (.loop (.seq (.region [
                ⟨(some 83), (.op (.bin .lss none (.tmp 82) (.tmp 81))), none⟩] []) (.seq (.cond (.tmp 83) .skip (.exit 10)) b26_7))))))
def b26_9 : HCode :=
  (.draw [
      ⟨(some 61), (.op (.mv (.tmp 7))), none⟩,
      ⟨(some 62), (.op (.idxS 1 (.tmp 61) (.cst (.int .i64 0)))), none⟩,
      ⟨(some 63), (.op (.load none (.tmp 62))), none⟩,
      ⟨(some 64), (.op (.mv (.tmp 7))), none⟩,
      ⟨(some 65), (.op (.idxS 1 (.tmp 64) (.cst (.int .i64 1)))), none⟩,
      ⟨(some 66), (.op (.load none (.tmp 65))), none⟩,
      ⟨(some 67), (.op (.mv (.tmp 7))), none⟩,
      ⟨(some 68), (.op (.idxS 1 (.tmp 67) (.cst (.int .i64 2)))), none⟩,
      ⟨(some 69), (.op (.load none (.tmp 68))), none⟩,
      ⟨(some 70), (.op (.mv (.tmp 0))), none⟩,
      ⟨(some 71), (.op (.mv (.tmp 1))), none⟩,
      ⟨(some 72), (.op (.mv (.tmp 2))), none⟩,
      ⟨(some 73), (.op (.bslice 1 6 [.nilSlice, .nilSlice, .nilSlice, .nilSlice, .nilSlice, .nilSlice] [(0, 1, (.tmp 63)), (1, 1, (.tmp 66)), (2, 1, (.tmp 69)), (3, 1, (.tmp 70)), (4, 1, (.tmp 71)), (5, 1, (.tmp 72))])), none⟩,
      ⟨(some 74), (.op (.len .slice (.tmp 73))), none⟩,
      ⟨(some 75), (.op (.mv (.cst (.int .i64 0)))), none⟩] [0, 1, 2, 3, 4, 5, 6, 7, 8, 9, 10, 11, 14, 12, 13] [[], [], [], [], [], [], [], [], [], [], [], [], [2, 1, 5, 4, 8, 7], [], []] [])
def b26_10 : HCode :=
  (.seq (.region [
      ⟨(some 40), (.op (.mv (.tmp 7))), none⟩,
      ⟨(some 41), (.op (.len .slice (.tmp 40))), none⟩,
      ⟨(some 42), (.op (.mv (.cst (.int .i64 0)))), none⟩] []) (.block 4 (.loop (.seq (.region [
          ⟨(some 43), (.op (.bin .lss none (.tmp 42) (.tmp 41))), none⟩] []) (.seq (.cond (.tmp 43) .skip (.exit 4)) (.seq (.block 5 b26_5) (.region [
          ⟨(some 60), (.op (.bin .add none (.tmp 42) (.cst (.int .i64 1)))), none⟩,
          ⟨(some 42), (.op (.mv (.tmp 60))), none⟩] [])))))))
def b26_11 : HCode :=
  (.seq (.seq (.region [
      ⟨(some 20), (.op (.mv (.tmp 7))), none⟩,
      ⟨(some 21), (.op (.len .slice (.tmp 20))), none⟩,
      ⟨(some 22), (.op (.mv (.cst (.int .i64 0)))), none⟩] []) (.block 0 (.loop (.seq (.region [
          ⟨(some 23), (.op (.bin .lss none (.tmp 22) (.tmp 21))), none⟩] []) b26_3)))) (.seq b26_10 (.seq (.seq b26_9 (.block 8 (.loop (.seq (.region [
          ⟨(some 76), (.op (.bin .lss none (.tmp 75) (.tmp 74))), none⟩] []) (.seq (.cond (.tmp 76) .skip (.exit 8)) (.seq (.block 9 b26_8) (.region [
          ⟨(some 98), (.op (.bin .add none (.tmp 75) (.cst (.int .i64 1)))), none⟩,
          ⟨(some 75), (.op (.mv (.tmp 98))), none⟩] []))))))) (.seq (.region [
      ⟨(some 6), (.op (.mv (.cst (.bool true)))), none⟩] []) .ret))))
set_option linter.defProp false in
def ub26 :=
  And.intro (hw_unf b26_1.eq_1) <|
  And.intro (hw_unf b26_2.eq_1) <|
  And.intro (hw_unf b26_3.eq_1) <|
  And.intro (hw_unf b26_4.eq_1) <|
  And.intro (hw_unf b26_5.eq_1) <|
  And.intro (hw_unf b26_6.eq_1) <|
  And.intro (hw_unf b26_7.eq_1) <|
  And.intro (hw_unf b26_8.eq_1) <|
  And.intro (hw_unf b26_9.eq_1) <|
  And.intro (hw_unf b26_10.eq_1) <|
  hw_unf b26_11.eq_1
def h26 : HFn :=
  ⟨99, [(.tmp 6)], (.seq (.region [
      ⟨(some 6), (.op (.mv (.cst (.bool false)))), none⟩] []) (.seq (.region [
      ⟨(some 16), (.op (.mv (.tmp 0))), none⟩,
      ⟨(some 17), (.op (.mv (.tmp 1))), none⟩,
      ⟨(some 18), (.op (.mv (.tmp 2))), none⟩,
      ⟨(some 19), (.op (.bslice 1 3 [.nilSlice, .nilSlice, .nilSlice] [(0, 1, (.tmp 16)), (1, 1, (.tmp 17)), (2, 1, (.tmp 18))])), none⟩,
      ⟨(some 7), (.op (.mv (.tmp 19))), none⟩] []) b26_11))⟩
theorem c26 : cFn Tryd.prog [] Tryd.f26 = some h26 := by kernel_rfl
/-- stint/stintref09.plain -/
def b33_1 : HCode :=
  (.region [
            ⟨(some 10), (.op (.mv (.tmp 0))), none⟩,
            ⟨(some 11), (.op (.mv (.tmp 3))), none⟩,
            ⟨(some 12), (.op (.idxStr (.tmp 10) (.tmp 11))), none⟩,
            ⟨(some 13), (.op (.bin .lss none (.tmp 12) (.cst (.int .u8 33)))), none⟩,
            ⟨(some 14), (.op (.mv (.tmp 13))), none⟩,
            ⟨(some 15), (.op (.mv (.tmp 0))), (some (14, false))⟩,
            ⟨(some 16), (.op (.mv (.tmp 3))), (some (14, false))⟩,
            ⟨(some 17), (.op (.idxStr (.tmp 15) (.tmp 16))), (some (14, false))⟩,
            ⟨(some 18), (.op (.bin .gtr none (.tmp 17) (.cst (.int .u8 126)))), (some (14, false))⟩,
            ⟨(some 19), (.op (.pick (.tmp 14) (.cst (.bool true)) (.tmp 18))), none⟩] [])
def b33_2 : HCode :=
  (.seq (.seq (.region [
          ⟨(some 4), (.op (.mv (.tmp 3))), none⟩,
          ⟨(some 5), (.op (.mv (.tmp 0))), none⟩,
          ⟨(some 6), (.op (.len .str (.tmp 5))), none⟩,
          ⟨(some 7), (.op (.bin .lss none (.tmp 4) (.tmp 6))), none⟩] []) (.cond (.tmp 7) .skip (.exit 0))) (.seq (.block 1 (.seq b33_1 (.cond (.tmp 19) (.seq (.region [
              ⟨(some 2), (.op (.mv (.cst (.bool false)))), none⟩] []) .ret) .skip))) (.region [
          ⟨(some 8), (.op (.mv (.tmp 3))), none⟩,
          ⟨(some 9), (.op (.bin .add none (.tmp 8) (.cst (.int .i64 1)))), none⟩,
          ⟨(some 3), (.op (.mv (.tmp 9))), none⟩] [])))
def b33_3 : HCode :=
  (.region [
      ⟨(some 20), (.op (.mv (.tmp 0))), none⟩,
      ⟨(some 21), (.op (.len .str (.tmp 20))), none⟩,
      ⟨(some 22), (.op (.bin .geq none (.tmp 21) (.cst (.int .i64 1)))), none⟩,
      ⟨(some 23), (.op (.mv (.tmp 22))), none⟩,
      ⟨(some 24), (.op (.mv (.tmp 0))), (some (23, true))⟩,
      ⟨(some 25), (.op (.len .str (.tmp 24))), (some (23, true))⟩,
      ⟨(some 26), (.op (.bin .leq none (.tmp 25) (.cst (.int .i64 4096)))), (some (23, true))⟩,
      ⟨(some 27), (.op (.pick (.tmp 23) (.tmp 26) (.cst (.bool false)))), none⟩,
      ⟨(some 2), (.op (.mv (.tmp 27))), none⟩] [])
set_option linter.defProp false in
def ub33 :=
  And.intro (hw_unf b33_1.eq_1) <|
  And.intro (hw_unf b33_2.eq_1) <|
  hw_unf b33_3.eq_1
def h33 : HFn :=
  ⟨28, [(.tmp 2)], (.seq (.region [
      ⟨(some 2), (.op (.mv (.cst (.bool false)))), none⟩] []) (.seq (.seq (.region [
      ⟨(some 3), (.op (.mv (.cst (.int .i64 0)))), none⟩] []) (.block 0 (.loop b33_2))) (.seq b33_3 .ret)))⟩
theorem c33 : cFn Tryd.prog [] Tryd.f33 = some h33 := by kernel_rfl
/-- strings.CutPrefix -/
def h34 : HFn :=
  ⟨11, [(.tmp 4), (.tmp 5)], (.seq (.region [
      ⟨(some 4), (.op (.mv (.cst (.str [])))), none⟩,
      ⟨(some 5), (.op (.mv (.cst (.bool false)))), none⟩] []) (.seq (.region [
      ⟨(some 6), (.op (.mv (.tmp 0))), none⟩,
      ⟨(some 7), (.op (.mv (.tmp 1))), none⟩,
      ⟨(some 8), (.call (.cst (.func (.func 49) [] [])) [(.tmp 6), (.tmp 7)]), none⟩,
      ⟨(some 9), (.op (.ext 0 (.tmp 8))), none⟩,
      ⟨(some 10), (.op (.ext 1 (.tmp 8))), none⟩,
      ⟨(some 4), (.op (.mv (.tmp 9))), none⟩,
      ⟨(some 5), (.op (.mv (.tmp 10))), none⟩] []) .ret))⟩
theorem c34 : cFn Tryd.prog [] Tryd.f34 = some h34 := by kernel_rfl
/-- stint/yaml.cut -/
def h35 : HFn :=
  ⟨10, [(.tmp 2), (.tmp 3), (.tmp 4)], (.seq (.region [
      ⟨(some 2), (.op (.mv (.cst (.str [])))), none⟩,
      ⟨(some 3), (.op (.mv (.cst (.str [])))), none⟩,
      ⟨(some 4), (.op (.mv (.cst (.bool false)))), none⟩] []) (.seq (.region [
      ⟨(some 5), (.op (.mv (.tmp 0))), none⟩,
      ⟨(some 6), (.call (.cst (.func (.func 40) [] [])) [(.tmp 5), (.cst (.str [10]))]), none⟩,
      ⟨(some 7), (.op (.ext 0 (.tmp 6))), none⟩,
      ⟨(some 8), (.op (.ext 1 (.tmp 6))), none⟩,
      ⟨(some 9), (.op (.ext 2 (.tmp 6))), none⟩,
      ⟨(some 2), (.op (.mv (.tmp 7))), none⟩,
      ⟨(some 3), (.op (.mv (.tmp 8))), none⟩,
      ⟨(some 4), (.op (.mv (.tmp 9))), none⟩] []) .ret))⟩
theorem c35 : cFn Tryd.prog [] Tryd.f35 = some h35 := by kernel_rfl
/-- strings.HasPrefix -/
def h36 : HFn :=
  ⟨8, [(.tmp 4)], (.seq (.region [
      ⟨(some 4), (.op (.mv (.cst (.bool false)))), none⟩] []) (.seq (.region [
      ⟨(some 5), (.op (.mv (.tmp 0))), none⟩,
      ⟨(some 6), (.op (.mv (.tmp 1))), none⟩,
      ⟨(some 7), (.call (.cst (.func (.func 50) [] [])) [(.tmp 5), (.tmp 6)]), none⟩,
      ⟨(some 4), (.op (.mv (.tmp 7))), none⟩] []) .ret))⟩
theorem c36 : cFn Tryd.prog [] Tryd.f36 = some h36 := by kernel_rfl
/-- stint/yaml.plain -/
def b37_1 : HCode :=
  (.seq (.region [
            ⟨(some 12), (.op (.mv (.tmp 4))), none⟩,
            ⟨(some 13), (.op (.bin .lss none (.tmp 12) (.cst (.int .u8 33)))), none⟩,
            ⟨(some 14), (.op (.mv (.tmp 13))), none⟩,
            ⟨(some 15), (.op (.mv (.tmp 4))), (some (14, false))⟩,
            ⟨(some 16), (.op (.bin .gtr none (.tmp 15) (.cst (.int .u8 126)))), (some (14, false))⟩,
            ⟨(some 17), (.op (.pick (.tmp 14) (.cst (.bool true)) (.tmp 16))), none⟩] []) (.cond (.tmp 17) (.seq (.region [
              ⟨(some 2), (.op (.mv (.cst (.bool false)))), none⟩] []) .ret) .skip))
def b37_2 : HCode :=
  (.seq (.region [
          ⟨(some 9), (.op (.bin .lss none (.tmp 8) (.tmp 7))), none⟩] []) (.seq (.cond (.tmp 9) .skip (.exit 0)) (.seq (.block 1 (.seq (.region [
            ⟨(some 10), (.op (.idxS 1 (.tmp 6) (.tmp 8))), none⟩,
            ⟨(some 11), (.op (.load none (.tmp 10))), none⟩,
            ⟨(some 4), (.op (.mv (.tmp 11))), none⟩] []) b37_1)) (.region [
          ⟨(some 18), (.op (.bin .add none (.tmp 8) (.cst (.int .i64 1)))), none⟩,
          ⟨(some 8), (.op (.mv (.tmp 18))), none⟩] []))))
def b37_3 : HCode :=
  (.region [
      ⟨(some 19), (.op (.mv (.tmp 0))), none⟩,
      ⟨(some 20), (.op (.bin .neq (some .str) (.tmp 19) (.cst (.str [])))), none⟩,
      ⟨(some 21), (.op (.mv (.tmp 20))), none⟩,
      ⟨(some 22), (.op (.mv (.tmp 0))), (some (21, true))⟩,
      ⟨(some 23), (.op (.len .str (.tmp 22))), (some (21, true))⟩,
      ⟨(some 24), (.op (.bin .leq none (.tmp 23) (.cst (.int .i64 4096)))), (some (21, true))⟩,
      ⟨(some 25), (.op (.pick (.tmp 21) (.tmp 24) (.cst (.bool false)))), none⟩,
      ⟨(some 2), (.op (.mv (.tmp 25))), none⟩] [])
set_option linter.defProp false in
def ub37 :=
  And.intro (hw_unf b37_1.eq_1) <|
  And.intro (hw_unf b37_2.eq_1) <|
  hw_unf b37_3.eq_1
def h37 : HFn :=
  ⟨26, [(.tmp 2)], (.seq (.region [
      ⟨(some 2), (.op (.mv (.cst (.bool false)))), none⟩] []) (.seq (.seq (.region [
      ⟨(some 5), (.op (.mv (.tmp 0))), none⟩,
      ⟨(some 6), (.op (.s2b (.tmp 5))), none⟩,
      ⟨(some 7), (.op (.len .slice (.tmp 6))), none⟩,
      ⟨(some 8), (.op (.mv (.cst (.int .i64 0)))), none⟩] []) (.block 0 (.loop b37_2))) (.seq b37_3 .ret)))⟩
theorem c37 : cFn Tryd.prog [] Tryd.f37 = some h37 := by kernel_rfl
/-- stint/stintref09.key -/
def b39_1 : HCode :=
  (.region [
            ⟨(some 14), (.op (.mv (.tmp 4))), none⟩,
            ⟨(some 15), (.op (.bin .geq none (.tmp 14) (.cst (.int .u8 97)))), none⟩,
            ⟨(some 16), (.op (.mv (.tmp 15))), none⟩,
            ⟨(some 17), (.op (.mv (.tmp 4))), (some (16, true))⟩,
            ⟨(some 18), (.op (.bin .leq none (.tmp 17) (.cst (.int .u8 122)))), (some (16, true))⟩,
            ⟨(some 19), (.op (.pick (.tmp 16) (.tmp 18) (.cst (.bool false)))), none⟩,
            ⟨(some 20), (.op (.mv (.tmp 19))), none⟩,
            ⟨(some 21), (.op (.mv (.tmp 4))), (some (20, false))⟩,
            ⟨(some 22), (.op (.bin .geq none (.tmp 21) (.cst (.int .u8 48)))), (some (20, false))⟩,
            ⟨(some 23), (.op (.mv (.tmp 22))), (some (20, false))⟩,
            ⟨(some 24), (.op (.mv (.tmp 4))), (some (23, true))⟩,
            ⟨(some 25), (.op (.bin .leq none (.tmp 24) (.cst (.int .u8 57)))), (some (23, true))⟩,
            ⟨(some 26), (.op (.pick (.tmp 23) (.tmp 25) (.cst (.bool false)))), (some (20, false))⟩,
            ⟨(some 27), (.op (.pick (.tmp 20) (.cst (.bool true)) (.tmp 26))), none⟩,
            ⟨(some 28), (.op (.mv (.tmp 27))), none⟩,
            ⟨(some 29), (.op (.mv (.tmp 4))), (some (28, false))⟩,
            ⟨(some 30), (.op (.bin .eql (some .int) (.tmp 29) (.cst (.int .u8 45)))), (some (28, false))⟩,
            ⟨(some 31), (.op (.pick (.tmp 28) (.cst (.bool true)) (.tmp 30))), none⟩,
            ⟨(some 32), (.op (.un .not (.tmp 31))), none⟩] [])
def b39_2 : HCode :=
  (.seq (.block 1 (.seq (.region [
            ⟨(some 11), (.op (.mv (.tmp 0))), none⟩,
            ⟨(some 12), (.op (.mv (.tmp 3))), none⟩,
            ⟨(some 13), (.op (.idxStr (.tmp 11) (.tmp 12))), none⟩,
            ⟨(some 4), (.op (.mv (.tmp 13))), none⟩] []) (.seq b39_1 (.cond (.tmp 32) (.seq (.region [
              ⟨(some 2), (.op (.mv (.cst (.bool false)))), none⟩] []) .ret) .skip)))) (.region [
          ⟨(some 9), (.op (.mv (.tmp 3))), none⟩,
          ⟨(some 10), (.op (.bin .add none (.tmp 9) (.cst (.int .i64 1)))), none⟩,
          ⟨(some 3), (.op (.mv (.tmp 10))), none⟩] []))
def b39_3 : HCode :=
  (.region [
      ⟨(some 33), (.op (.mv (.tmp 0))), none⟩,
      ⟨(some 34), (.op (.len .str (.tmp 33))), none⟩,
      ⟨(some 35), (.op (.bin .geq none (.tmp 34) (.cst (.int .i64 1)))), none⟩,
      ⟨(some 36), (.op (.mv (.tmp 35))), none⟩,
      ⟨(some 37), (.op (.mv (.tmp 0))), (some (36, true))⟩,
      ⟨(some 38), (.op (.len .str (.tmp 37))), (some (36, true))⟩,
      ⟨(some 39), (.op (.bin .leq none (.tmp 38) (.cst (.int .i64 64)))), (some (36, true))⟩,
      ⟨(some 40), (.op (.pick (.tmp 36) (.tmp 39) (.cst (.bool false)))), none⟩,
      ⟨(some 2), (.op (.mv (.tmp 40))), none⟩] [])
set_option linter.defProp false in
def ub39 :=
  And.intro (hw_unf b39_1.eq_1) <|
  And.intro (hw_unf b39_2.eq_1) <|
  hw_unf b39_3.eq_1
def h39 : HFn :=
  ⟨41, [(.tmp 2)], (.seq (.region [
      ⟨(some 2), (.op (.mv (.cst (.bool false)))), none⟩] []) (.seq (.seq (.region [
      ⟨(some 3), (.op (.mv (.cst (.int .i64 0)))), none⟩] []) (.block 0 (.loop (.seq (.seq (.region [
          ⟨(some 5), (.op (.mv (.tmp 3))), none⟩,
          ⟨(some 6), (.op (.mv (.tmp 0))), none⟩,
          ⟨(some 7), (.op (.len .str (.tmp 6))), none⟩,
          ⟨(some 8), (.op (.bin .lss none (.tmp 5) (.tmp 7))), none⟩] []) (.cond (.tmp 8) .skip (.exit 0))) b39_2)))) (.seq b39_3 .ret)))⟩
theorem c39 : cFn Tryd.prog [] Tryd.f39 = some h39 := by kernel_rfl
/-- strings.Cut -/
def h40 : HFn :=
  ⟨13, [(.tmp 4), (.tmp 5), (.tmp 6)], (.seq (.region [
      ⟨(some 4), (.op (.mv (.cst (.str [])))), none⟩,
      ⟨(some 5), (.op (.mv (.cst (.str [])))), none⟩,
      ⟨(some 6), (.op (.mv (.cst (.bool false)))), none⟩] []) (.seq (.region [
      ⟨(some 7), (.op (.mv (.tmp 0))), none⟩,
      ⟨(some 8), (.op (.mv (.tmp 1))), none⟩,
      ⟨(some 9), (.call (.cst (.func (.func 51) [] [])) [(.tmp 7), (.tmp 8)]), none⟩,
      ⟨(some 10), (.op (.ext 0 (.tmp 9))), none⟩,
      ⟨(some 11), (.op (.ext 1 (.tmp 9))), none⟩,
      ⟨(some 12), (.op (.ext 2 (.tmp 9))), none⟩,
      ⟨(some 4), (.op (.mv (.tmp 10))), none⟩,
      ⟨(some 5), (.op (.mv (.tmp 11))), none⟩,
      ⟨(some 6), (.op (.mv (.tmp 12))), none⟩] []) .ret))⟩
theorem c40 : cFn Tryd.prog [] Tryd.f40 = some h40 := by kernel_rfl
/-- stint/yaml.right -/
def b41_1 : HCode :=
  (.region [
            ⟨(some 12), (.op (.mv (.tmp 4))), none⟩,
            ⟨(some 13), (.op (.bin .neq (some .int) (.tmp 12) (.cst (.int .u8 45)))), none⟩,
            ⟨(some 14), (.op (.mv (.tmp 13))), none⟩,
            ⟨(some 15), (.op (.mv (.tmp 4))), (some (14, true))⟩,
            ⟨(some 16), (.op (.bin .lss none (.tmp 15) (.cst (.int .u8 48)))), (some (14, true))⟩,
            ⟨(some 17), (.op (.mv (.tmp 16))), (some (14, true))⟩,
            ⟨(some 18), (.op (.mv (.tmp 4))), (some (17, false))⟩,
            ⟨(some 19), (.op (.bin .gtr none (.tmp 18) (.cst (.int .u8 57)))), (some (17, false))⟩,
            ⟨(some 20), (.op (.pick (.tmp 17) (.cst (.bool true)) (.tmp 19))), (some (14, true))⟩,
            ⟨(some 21), (.op (.pick (.tmp 14) (.tmp 20) (.cst (.bool false)))), none⟩,
            ⟨(some 22), (.op (.mv (.tmp 21))), none⟩,
            ⟨(some 23), (.op (.mv (.tmp 4))), (some (22, true))⟩,
            ⟨(some 24), (.op (.bin .lss none (.tmp 23) (.cst (.int .u8 97)))), (some (22, true))⟩,
            ⟨(some 25), (.op (.mv (.tmp 24))), (some (22, true))⟩,
            ⟨(some 26), (.op (.mv (.tmp 4))), (some (25, false))⟩,
            ⟨(some 27), (.op (.bin .gtr none (.tmp 26) (.cst (.int .u8 122)))), (some (25, false))⟩,
            ⟨(some 28), (.op (.pick (.tmp 25) (.cst (.bool true)) (.tmp 27))), (some (22, true))⟩,
            ⟨(some 29), (.op (.pick (.tmp 22) (.tmp 28) (.cst (.bool false)))), none⟩] [])
def b41_2 : HCode :=
  (.seq (.cond (.tmp 9) .skip (.exit 0)) (.seq (.block 1 (.seq (.region [
            ⟨(some 10), (.op (.idxS 1 (.tmp 6) (.tmp 8))), none⟩,
            ⟨(some 11), (.op (.load none (.tmp 10))), none⟩,
            ⟨(some 4), (.op (.mv (.tmp 11))), none⟩] []) (.seq b41_1 (.cond (.tmp 29) (.seq (.region [
              ⟨(some 2), (.op (.mv (.cst (.bool false)))), none⟩] []) .ret) .skip)))) (.region [
          ⟨(some 30), (.op (.bin .add none (.tmp 8) (.cst (.int .i64 1)))), none⟩,
          ⟨(some 8), (.op (.mv (.tmp 30))), none⟩] [])))
def b41_3 : HCode :=
  (.region [
      ⟨(some 31), (.op (.mv (.tmp 0))), none⟩,
      ⟨(some 32), (.op (.bin .neq (some .str) (.tmp 31) (.cst (.str [])))), none⟩,
      ⟨(some 33), (.op (.mv (.tmp 32))), none⟩,
      ⟨(some 34), (.op (.mv (.tmp 0))), (some (33, true))⟩,
      ⟨(some 35), (.op (.len .str (.tmp 34))), (some (33, true))⟩,
      ⟨(some 36), (.op (.bin .leq none (.tmp 35) (.cst (.int .i64 64)))), (some (33, true))⟩,
      ⟨(some 37), (.op (.pick (.tmp 33) (.tmp 36) (.cst (.bool false)))), none⟩,
      ⟨(some 2), (.op (.mv (.tmp 37))), none⟩] [])
set_option linter.defProp false in
def ub41 :=
  And.intro (hw_unf b41_1.eq_1) <|
  And.intro (hw_unf b41_2.eq_1) <|
  hw_unf b41_3.eq_1
def h41 : HFn :=
  ⟨38, [(.tmp 2)], (.seq (.region [
      ⟨(some 2), (.op (.mv (.cst (.bool false)))), none⟩] []) (.seq (.seq (.region [
      ⟨(some 5), (.op (.mv (.tmp 0))), none⟩,
      ⟨(some 6), (.op (.s2b (.tmp 5))), none⟩,
      ⟨(some 7), (.op (.len .slice (.tmp 6))), none⟩,
      ⟨(some 8), (.op (.mv (.cst (.int .i64 0)))), none⟩] []) (.block 0 (.loop (.seq (.region [
          ⟨(some 9), (.op (.bin .lss none (.tmp 8) (.tmp 7))), none⟩] []) b41_2)))) (.seq b41_3 .ret)))⟩
theorem c41 : cFn Tryd.prog [] Tryd.f41 = some h41 := by kernel_rfl
/-- stint/yaml.has -/
def b42_1 : HCode :=
  (.seq (.region [
            ⟨(some 11), (.op (.idxS 2 (.tmp 7) (.tmp 9))), none⟩,
            ⟨(some 12), (.op (.load (some 2) (.tmp 11))), none⟩,
            ⟨(some 6), (.op (.box (.cst (.agg [(.str []), (.str [])])))), none⟩,
            ⟨none, (.op (.store 2 (.tmp 6) (.tmp 12))), none⟩] []) (.seq (.region [
            ⟨(some 13), (.op (.faddr 0 (.tmp 6))), none⟩,
            ⟨(some 14), (.op (.load none (.tmp 13))), none⟩,
            ⟨(some 15), (.op (.mv (.tmp 1))), none⟩,
            ⟨(some 16), (.op (.bin .eql (some .str) (.tmp 14) (.tmp 15))), none⟩] []) (.cond (.tmp 16) (.seq (.region [
              ⟨(some 4), (.op (.mv (.cst (.bool true)))), none⟩] []) .ret) .skip)))
def b42_2 : HCode :=
  (.seq (.region [
      ⟨(some 7), (.op (.mv (.tmp 0))), none⟩,
      ⟨(some 8), (.op (.len .slice (.tmp 7))), none⟩,
      ⟨(some 9), (.op (.mv (.cst (.int .i64 0)))), none⟩] []) (.block 0 (.loop (.seq (.region [
          ⟨(some 10), (.op (.bin .lss none (.tmp 9) (.tmp 8))), none⟩] []) (.seq (.cond (.tmp 10) .skip (.exit 0)) (.seq (.block 1 b42_1) (.region [
          ⟨(some 17), (.op (.bin .add none (.tmp 9) (.cst (.int .i64 1)))), none⟩,
          ⟨(some 9), (.op (.mv (.tmp 17))), none⟩] [])))))))
set_option linter.defProp false in
def ub42 :=
  And.intro (hw_unf b42_1.eq_1) <|
  hw_unf b42_2.eq_1
def h42 : HFn :=
  ⟨18, [(.tmp 4)], (.seq (.region [
      ⟨(some 4), (.op (.mv (.cst (.bool false)))), none⟩] []) (.seq b42_2 (.seq (.region [
      ⟨(some 4), (.op (.mv (.cst (.bool false)))), none⟩] []) .ret)))⟩
theorem c42 : cFn Tryd.prog [] Tryd.f42 = some h42 := by kernel_rfl
/-- stint/stintref09.lines -/
def b43_1 : HCode :=
  (.region [
              ⟨(some 17), (.op (.mv (.tmp 4))), none⟩,
              ⟨(some 18), (.op (.mv (.tmp 0))), none⟩,
              ⟨(some 19), (.op (.mv (.tmp 5))), none⟩,
              ⟨(some 20), (.op (.mv (.tmp 6))), none⟩,
              ⟨(some 21), (.op (.sliceSl 1 (.tmp 18) (some (.tmp 19)) (some (.tmp 20)) none)), none⟩,
              ⟨(some 22), (.op (.b2s (.tmp 21))), none⟩,
              ⟨(some 23), (.op (.bslice 1 1 [(.str [])] [(0, 1, (.tmp 22))])), none⟩,
              ⟨(some 24), (.op (.append 1 16 (.tmp 17) (.tmp 23))), none⟩,
              ⟨(some 4), (.op (.mv (.tmp 24))), none⟩] [])
def b43_2 : HCode :=
  (.seq (.region [
            ⟨(some 12), (.op (.mv (.tmp 10))), none⟩,
            ⟨(some 13), (.op (.idxS 1 (.tmp 8) (.tmp 10))), none⟩,
            ⟨(some 14), (.op (.load none (.tmp 13))), none⟩,
            ⟨(some 6), (.op (.mv (.tmp 12))), none⟩,
            ⟨(some 7), (.op (.mv (.tmp 14))), none⟩] []) (.seq (.region [
            ⟨(some 15), (.op (.mv (.tmp 7))), none⟩,
            ⟨(some 16), (.op (.bin .eql (some .int) (.tmp 15) (.cst (.int .u8 10)))), none⟩] []) (.cond (.tmp 16) (.seq b43_1 (.region [
              ⟨(some 25), (.op (.mv (.tmp 6))), none⟩,
              ⟨(some 26), (.op (.bin .add none (.tmp 25) (.cst (.int .i64 1)))), none⟩,
              ⟨(some 5), (.op (.mv (.tmp 26))), none⟩] [])) .skip)))
def b43_3 : HCode :=
  (.region [
      ⟨(some 28), (.op (.mv (.tmp 5))), none⟩,
      ⟨(some 29), (.op (.mv (.tmp 0))), none⟩,
      ⟨(some 30), (.op (.len .slice (.tmp 29))), none⟩,
      ⟨(some 31), (.op (.bin .neq (some .int) (.tmp 28) (.tmp 30))), none⟩,
      ⟨(some 32), (.op (.mv (.tmp 31))), none⟩,
      ⟨(some 33), (.op (.mv (.tmp 4))), (some (32, false))⟩,
      ⟨(some 34), (.op (.len .slice (.tmp 33))), (some (32, false))⟩,
      ⟨(some 35), (.op (.bin .eql (some .int) (.tmp 34) (.cst (.int .i64 0)))), (some (32, false))⟩,
      ⟨(some 36), (.op (.pick (.tmp 32) (.cst (.bool true)) (.tmp 35))), none⟩,
      ⟨(some 37), (.op (.mv (.tmp 36))), none⟩,
      ⟨(some 38), (.op (.mv (.tmp 4))), (some (37, false))⟩,
      ⟨(some 39), (.op (.idxS 1 (.tmp 38) (.cst (.int .i64 0)))), (some (37, false))⟩,
      ⟨(some 40), (.op (.load none (.tmp 39))), (some (37, false))⟩,
      ⟨(some 41), (.op (.bin .neq (some .str) (.tmp 40) (.cst (.str [45, 45, 45])))), (some (37, false))⟩,
      ⟨(some 42), (.op (.pick (.tmp 37) (.cst (.bool true)) (.tmp 41))), none⟩] [])
def b43_4 : HCode :=
  (.seq (.region [
      ⟨(some 8), (.op (.mv (.tmp 0))), none⟩,
      ⟨(some 9), (.op (.len .slice (.tmp 8))), none⟩,
      ⟨(some 10), (.op (.mv (.cst (.int .i64 0)))), none⟩] []) (.block 0 (.loop (.seq (.region [
          ⟨(some 11), (.op (.bin .lss none (.tmp 10) (.tmp 9))), none⟩] []) (.seq (.cond (.tmp 11) .skip (.exit 0)) (.seq (.block 1 b43_2) (.region [
          ⟨(some 27), (.op (.bin .add none (.tmp 10) (.cst (.int .i64 1)))), none⟩,
          ⟨(some 10), (.op (.mv (.tmp 27))), none⟩] [])))))))
def b43_5 : HCode :=
  (.seq (.region [
      ⟨(some 5), (.op (.mv (.cst (.int .i64 0)))), none⟩] []) (.seq b43_4 (.seq (.seq b43_3 (.cond (.tmp 42) (.seq (.region [
        ⟨(some 2), (.op (.mv (.cst .nilSlice))), none⟩,
        ⟨(some 3), (.op (.mv (.cst (.bool false)))), none⟩] []) .ret) .skip)) (.seq (.region [
      ⟨(some 43), (.op (.mv (.tmp 4))), none⟩,
      ⟨(some 44), (.op (.sliceSl 1 (.tmp 43) (some (.cst (.int .i64 1))) none none)), none⟩,
      ⟨(some 2), (.op (.mv (.tmp 44))), none⟩,
      ⟨(some 3), (.op (.mv (.cst (.bool true)))), none⟩] []) .ret))))
set_option linter.defProp false in
def ub43 :=
  And.intro (hw_unf b43_1.eq_1) <|
  And.intro (hw_unf b43_2.eq_1) <|
  And.intro (hw_unf b43_3.eq_1) <|
  And.intro (hw_unf b43_4.eq_1) <|
  hw_unf b43_5.eq_1
def h43 : HFn :=
  ⟨45, [(.tmp 2), (.tmp 3)], (.seq (.region [
      ⟨(some 2), (.op (.mv (.cst .nilSlice))), none⟩,
      ⟨(some 3), (.op (.mv (.cst (.bool false)))), none⟩] []) (.seq (.region [
      ⟨(some 4), (.op (.mv (.cst .nilSlice))), none⟩] []) b43_5))⟩
theorem c43 : cFn Tryd.prog [] Tryd.f43 = some h43 := by kernel_rfl
/-- stint/stintref09.same -/
def b44_1 : HCode :=
  (.draw [
            ⟨(some 16), (.op (.mv (.tmp 0))), none⟩,
            ⟨(some 17), (.op (.mv (.tmp 5))), none⟩,
            ⟨(some 18), (.op (.idxS 1 (.tmp 16) (.tmp 17))), none⟩,
            ⟨(some 19), (.op (.load none (.tmp 18))), none⟩,
            ⟨(some 20), (.op (.mv (.tmp 1))), none⟩,
            ⟨(some 21), (.op (.mv (.tmp 5))), none⟩,
            ⟨(some 22), (.op (.idxS 1 (.tmp 20) (.tmp 21))), none⟩,
            ⟨(some 23), (.op (.load none (.tmp 22))), none⟩,
            ⟨(some 24), (.op (.bin .neq (some .int) (.tmp 19) (.tmp 23))), none⟩] [0, 1, 2, 3, 4, 5, 6, 7, 8] [[], [], [], [], [], [], [], [], []] [])
def b44_2 : HCode :=
  (.seq (.region [
          ⟨(some 14), (.op (.bin .lss none (.tmp 13) (.tmp 12))), none⟩] []) (.seq (.cond (.tmp 14) .skip (.exit 0)) (.seq (.block 1 (.seq (.region [
            ⟨(some 15), (.op (.mv (.tmp 13))), none⟩,
            ⟨(some 5), (.op (.mv (.tmp 15))), none⟩] []) (.seq b44_1 (.cond (.tmp 24) (.seq (.region [
              ⟨(some 4), (.op (.mv (.cst (.bool false)))), none⟩] []) .ret) .skip)))) (.region [
          ⟨(some 25), (.op (.bin .add none (.tmp 13) (.cst (.int .i64 1)))), none⟩,
          ⟨(some 13), (.op (.mv (.tmp 25))), none⟩] []))))
def b44_3 : HCode :=
  (.seq (.seq (.region [
      ⟨(some 6), (.op (.mv (.tmp 0))), none⟩,
      ⟨(some 7), (.op (.len .slice (.tmp 6))), none⟩,
      ⟨(some 8), (.op (.mv (.tmp 1))), none⟩,
      ⟨(some 9), (.op (.len .slice (.tmp 8))), none⟩,
      ⟨(some 10), (.op (.bin .neq (some .int) (.tmp 7) (.tmp 9))), none⟩] []) (.cond (.tmp 10) (.seq (.region [
        ⟨(some 4), (.op (.mv (.cst (.bool false)))), none⟩] []) .ret) .skip)) (.seq (.seq (.region [
      ⟨(some 11), (.op (.mv (.tmp 0))), none⟩,
      ⟨(some 12), (.op (.len .slice (.tmp 11))), none⟩,
      ⟨(some 13), (.op (.mv (.cst (.int .i64 0)))), none⟩] []) (.block 0 (.loop b44_2))) (.seq (.region [
      ⟨(some 4), (.op (.mv (.cst (.bool true)))), none⟩] []) .ret)))
set_option linter.defProp false in
def ub44 :=
  And.intro (hw_unf b44_1.eq_1) <|
  And.intro (hw_unf b44_2.eq_1) <|
  hw_unf b44_3.eq_1
def h44 : HFn :=
  ⟨26, [(.tmp 4)], (.seq (.region [
      ⟨(some 4), (.op (.mv (.cst (.bool false)))), none⟩] []) b44_3)⟩
theorem c44 : cFn Tryd.prog [] Tryd.f44 = some h44 := by kernel_rfl
/-- internal/stringslite.CutPrefix -/
def b49_1 : HCode :=
  (.seq (.seq (.region [
      ⟨(some 6), (.op (.mv (.tmp 0))), none⟩,
      ⟨(some 7), (.op (.mv (.tmp 1))), none⟩,
      ⟨(some 8), (.call (.cst (.func (.func 50) [] [])) [(.tmp 6), (.tmp 7)]), none⟩,
      ⟨(some 9), (.op (.un .not (.tmp 8))), none⟩] []) (.cond (.tmp 9) (.seq (.region [
        ⟨(some 10), (.op (.mv (.tmp 0))), none⟩,
        ⟨(some 4), (.op (.mv (.tmp 10))), none⟩,
        ⟨(some 5), (.op (.mv (.cst (.bool false)))), none⟩] []) .ret) .skip)) (.seq (.region [
      ⟨(some 11), (.op (.mv (.tmp 0))), none⟩,
      ⟨(some 12), (.op (.mv (.tmp 1))), none⟩,
      ⟨(some 13), (.op (.len .str (.tmp 12))), none⟩,
      ⟨(some 14), (.op (.sliceStr (.tmp 11) (some (.tmp 13)) none)), none⟩,
      ⟨(some 4), (.op (.mv (.tmp 14))), none⟩,
      ⟨(some 5), (.op (.mv (.cst (.bool true)))), none⟩] []) .ret))
set_option linter.defProp false in
def ub49 :=
  hw_unf b49_1.eq_1
def h49 : HFn :=
  ⟨15, [(.tmp 4), (.tmp 5)], (.seq (.region [
      ⟨(some 4), (.op (.mv (.cst (.str [])))), none⟩,
      ⟨(some 5), (.op (.mv (.cst (.bool false)))), none⟩] []) b49_1)⟩
theorem c49 : cFn Tryd.prog [] Tryd.f49 = some h49 := by kernel_rfl
/-- internal/stringslite.HasPrefix -/
def b50_1 : HCode :=
  (.region [
      ⟨(some 5), (.op (.mv (.tmp 0))), none⟩,
      ⟨(some 6), (.op (.len .str (.tmp 5))), none⟩,
      ⟨(some 7), (.op (.mv (.tmp 1))), none⟩,
      ⟨(some 8), (.op (.len .str (.tmp 7))), none⟩,
      ⟨(some 9), (.op (.bin .geq none (.tmp 6) (.tmp 8))), none⟩,
      ⟨(some 10), (.op (.mv (.tmp 9))), none⟩,
      ⟨(some 11), (.op (.mv (.tmp 0))), (some (10, true))⟩,
      ⟨(some 12), (.op (.mv (.tmp 1))), (some (10, true))⟩,
      ⟨(some 13), (.op (.len .str (.tmp 12))), (some (10, true))⟩,
      ⟨(some 14), (.op (.sliceStr (.tmp 11) none (some (.tmp 13)))), (some (10, true))⟩,
      ⟨(some 15), (.op (.mv (.tmp 1))), (some (10, true))⟩,
      ⟨(some 16), (.op (.bin .eql (some .str) (.tmp 14) (.tmp 15))), (some (10, true))⟩,
      ⟨(some 17), (.op (.pick (.tmp 10) (.tmp 16) (.cst (.bool false)))), none⟩,
      ⟨(some 4), (.op (.mv (.tmp 17))), none⟩] [])
set_option linter.defProp false in
def ub50 :=
  hw_unf b50_1.eq_1
def h50 : HFn :=
  ⟨18, [(.tmp 4)], (.seq (.region [
      ⟨(some 4), (.op (.mv (.cst (.bool false)))), none⟩] []) (.seq b50_1 .ret))⟩
theorem c50 : cFn Tryd.prog [] Tryd.f50 = some h50 := by kernel_rfl
/-- internal/stringslite.Cut -/
def b51_1 : HCode :=
  (.draw [
        ⟨(some 13), (.op (.mv (.tmp 0))), none⟩,
        ⟨(some 14), (.op (.mv (.tmp 7))), none⟩,
        ⟨(some 15), (.op (.sliceStr (.tmp 13) none (some (.tmp 14)))), none⟩,
        ⟨(some 16), (.op (.mv (.tmp 0))), none⟩,
        ⟨(some 17), (.op (.mv (.tmp 7))), none⟩,
        ⟨(some 18), (.op (.mv (.tmp 1))), none⟩,
        ⟨(some 19), (.op (.len .str (.tmp 18))), none⟩,
        ⟨(some 20), (.op (.bin .add none (.tmp 17) (.tmp 19))), none⟩,
        ⟨(some 21), (.op (.sliceStr (.tmp 16) (some (.tmp 20)) none)), none⟩,
        ⟨(some 4), (.op (.mv (.tmp 15))), none⟩,
        ⟨(some 5), (.op (.mv (.tmp 21))), none⟩,
        ⟨(some 6), (.op (.mv (.cst (.bool true)))), none⟩] [0, 1, 2, 3, 4, 5, 6, 7, 8, 9, 10, 11] [[], [], [], [], [], [], [], [], [], [], [], []] [])
def b51_2 : HCode :=
  (.seq (.seq (.region [
      ⟨(some 8), (.op (.mv (.tmp 0))), none⟩,
      ⟨(some 9), (.op (.mv (.tmp 1))), none⟩,
      ⟨(some 10), (.call (.cst (.func (.func 55) [] [])) [(.tmp 8), (.tmp 9)]), none⟩,
      ⟨(some 7), (.op (.mv (.tmp 10))), none⟩] []) (.seq (.region [
      ⟨(some 11), (.op (.mv (.tmp 7))), none⟩,
      ⟨(some 12), (.op (.bin .geq none (.tmp 11) (.cst (.int .i64 0)))), none⟩] []) (.cond (.tmp 12) (.seq b51_1 .ret) .skip))) (.seq (.region [
      ⟨(some 22), (.op (.mv (.tmp 0))), none⟩,
      ⟨(some 4), (.op (.mv (.tmp 22))), none⟩,
      ⟨(some 5), (.op (.mv (.cst (.str [])))), none⟩,
      ⟨(some 6), (.op (.mv (.cst (.bool false)))), none⟩] []) .ret))
set_option linter.defProp false in
def ub51 :=
  And.intro (hw_unf b51_1.eq_1) <|
  hw_unf b51_2.eq_1
def h51 : HFn :=
  ⟨23, [(.tmp 4), (.tmp 5), (.tmp 6)], (.seq (.region [
      ⟨(some 4), (.op (.mv (.cst (.str [])))), none⟩,
      ⟨(some 5), (.op (.mv (.cst (.str [])))), none⟩,
      ⟨(some 6), (.op (.mv (.cst (.bool false)))), none⟩] []) b51_2)⟩
theorem c51 : cFn Tryd.prog [] Tryd.f51 = some h51 := by kernel_rfl
end Go.Proofs.YteedmbmgemiheaaDoor
namespace Go.Proofs.YteedmbmgemiheaaDoor
namespace Y
open Go Go.HL
set_option linter.unusedSimpArgs false
def plainC (c : UInt8) : Bool := decide (33 ≤ c.toNat) && decide (c.toNat ≤ 126)
def plainB (s : List UInt8) : Bool := s.all plainC && (!(s == []) && decide (s.length ≤ 4096))
def keyC (c : UInt8) : Bool := c == 45 || (decide (48 ≤ c.toNat) && decide (c.toNat ≤ 57)) || (decide (97 ≤ c.toNat) && decide (c.toNat ≤ 122))
def rightB (s : List UInt8) : Bool := s.all keyC && (!(s == []) && decide (s.length ≤ 64))
/-- what stands ahead of the first c, and behind it. -/
def cutAt (c : UInt8) : List UInt8 → Option (List UInt8 × List UInt8)
  | [] => none
  | x :: r => if x = c then some ([], r) else (cutAt c r).map fun p => (x :: p.1, p.2)
theorem cutAt_some {c : UInt8} : ∀ {s a b : List UInt8}, cutAt c s = some (a, b) → s = a ++ c :: b ∧ c ∉ a
  | [], a, b, h => by simp [cutAt] at h
  | x :: r, a, b, h => by
    unfold cutAt at h
    split at h
    · rename_i hx
      cases h
      simp [hx]
    · rename_i hx
      rw [Option.map_eq_some_iff] at h
      obtain ⟨⟨a', b'⟩, h1, h2⟩ := h
      cases h2
      obtain ⟨h3, h4⟩ := cutAt_some h1
      exact ⟨by simp [h3], by simp [h4]; exact fun e => hx e.symm⟩
theorem cutAt_of {c : UInt8} : ∀ {a b : List UInt8}, c ∉ a → cutAt c (a ++ c :: b) = some (a, b)
  | [], b, _ => by simp [cutAt]
  | x :: a, b, h => by
    have h1 : x ≠ c := fun e => h (by simp [e])
    have h2 : c ∉ a := fun e => h (by simp [e])
    simp [cutAt, h1, cutAt_of h2]
theorem plain_no {s : List UInt8} (h : plainB s = true) {c : UInt8} (hc : plainC c = false) : c ∉ s := fun e => by
  unfold plainB at h
  simp only [Bool.and_eq_true] at h
  have := List.all_eq_true.1 h.1 c e
  rw [hc] at this; cases this
theorem right_no {s : List UInt8} (h : rightB s = true) {c : UInt8} (hc : keyC c = false) : c ∉ s := fun e => by
  unfold rightB at h
  simp only [Bool.and_eq_true] at h
  have := List.all_eq_true.1 h.1 c e
  rw [hc] at this; cases this
/-! ### lists -/
def head9 : List UInt8 := [45, 45, 45, 10]
def lineL (s : List UInt8) : List UInt8 := 45 :: 32 :: (s ++ [10])
/-- a list, line by line. -/
def listGo : Nat → List UInt8 → Option (List (List UInt8))
  | 0, rest => if rest = [] then some [] else none
  | n + 1, rest => if rest = [] then some [] else match cutAt 10 rest with
    | none => none
    | some (t, r) => if t.take 2 = [45, 32] ∧ plainB (t.drop 2) = true then (listGo n r).map (t.drop 2 :: ·) else none
theorem listGo_some : ∀ {n : Nat} {rest : List UInt8} {L : List (List UInt8)}, listGo n rest = some L → rest = L.flatMap lineL ∧ ∀ s ∈ L, plainB s = true
  | 0, rest, L, h => by
    unfold listGo at h
    split at h
    · rename_i hr; cases h; simp [hr]
    · cases h
  | n + 1, rest, L, h => by
    unfold listGo at h
    split at h
    · rename_i hr; cases h; simp [hr]
    · split at h
      · cases h
      · rename_i t r hc
        split at h
        · rename_i hp
          rw [Option.map_eq_some_iff] at h
          obtain ⟨L', h1, rfl⟩ := h
          obtain ⟨h2, h3⟩ := listGo_some h1
          obtain ⟨h4, _⟩ := cutAt_some hc
          refine ⟨?_, fun s hs => ?_⟩
          · rw [List.flatMap_cons, ← h2, h4]
            unfold lineL
            conv => lhs; rw [← List.take_append_drop 2 t, hp.1]
            simp
          · rcases List.mem_cons.1 hs with rfl | hs
            · exact hp.2
            · exact h3 s hs
        · cases h
theorem listGo_of : ∀ {L : List (List UInt8)} {n : Nat}, (∀ s ∈ L, plainB s = true) → (L.flatMap lineL).length ≤ n → listGo n (L.flatMap lineL) = some L
  | [], n, _, _ => by cases n <;> simp [listGo]
  | s :: L, 0, _, hn => by simp [lineL] at hn
  | s :: L, n + 1, h, hn => by
    have h0 := h s List.mem_cons_self
    have e : (s :: L).flatMap lineL = (45 :: 32 :: s) ++ 10 :: L.flatMap lineL := by rw [List.flatMap_cons]; simp [lineL]
    rw [e] at hn ⊢
    have hc : cutAt 10 ((45 :: 32 :: s) ++ 10 :: L.flatMap lineL) = some (45 :: 32 :: s, L.flatMap lineL) := cutAt_of (by
      have := plain_no h0 (c := 10) (by decide)
      simp [this])
    unfold listGo
    rw [if_neg (by simp), hc]
    simp only
    rw [if_pos ⟨by simp, by simpa using h0⟩, listGo_of (fun x hx => h x (List.mem_cons_of_mem _ hx)) (by simp at hn ⊢; omega)]
    simp
/-- what ReadList tells. -/
def readL (b : List UInt8) : Option (List (List UInt8)) := if b.take 4 = head9 then listGo b.length (b.drop 4) else none
def writeL (L : List (List UInt8)) : List UInt8 := head9 ++ L.flatMap lineL
theorem readL_iff {b : List UInt8} {L : List (List UInt8)} : readL b = some L ↔ b = writeL L ∧ ∀ s ∈ L, plainB s = true := by
  unfold readL writeL
  constructor
  · intro h
    split at h
    · rename_i h0
      obtain ⟨h1, h2⟩ := listGo_some h
      refine ⟨?_, h2⟩
      rw [← h1, ← h0, List.take_append_drop]
    · cases h
  · rintro ⟨rfl, h⟩
    rw [if_pos (by simp [head9])]
    exact listGo_of (n := (head9 ++ L.flatMap lineL).length) h (by simp)
/-! ### lines, as the document has them -/
def linesGo : List UInt8 → List UInt8 → List (List UInt8) × List UInt8
  | [], cur => ([], cur)
  | c :: r, cur => if c = 10 then (cur :: (linesGo r []).1, (linesGo r []).2) else linesGo r (cur ++ [c])
theorem linesGo_eq : ∀ (b cur : List UInt8), 10 ∉ cur → cur ++ b = (linesGo b cur).1.flatMap (fun l => l ++ [10]) ++ (linesGo b cur).2 ∧ (∀ l ∈ (linesGo b cur).1, 10 ∉ l) ∧ 10 ∉ (linesGo b cur).2
  | [], cur, h => by simp [linesGo, h]
  | c :: r, cur, h => by
    unfold linesGo
    split
    · rename_i hc
      subst hc
      obtain ⟨h1, h2, h3⟩ := linesGo_eq r [] (by simp)
      refine ⟨?_, ?_, h3⟩
      · simp only [List.flatMap_cons, List.append_assoc]
        rw [← h1]; simp
      · intro l hl
        rcases List.mem_cons.1 hl with rfl | hl
        · exact h
        · exact h2 l hl
    · rename_i hc
      have := linesGo_eq r (cur ++ [c]) (by simp [h]; exact fun e => hc e.symm)
      simpa using this
theorem linesGo_of : ∀ {ls : List (List UInt8)}, (∀ l ∈ ls, 10 ∉ l) → linesGo (ls.flatMap fun l => l ++ [10]) [] = (ls, [])
  | [], _ => by simp [linesGo]
  | l :: ls, h => by
    have go : ∀ (a cur r : List UInt8), 10 ∉ a → linesGo (a ++ 10 :: r) cur = ((cur ++ a) :: (linesGo r []).1, (linesGo r []).2) := by
      intro a
      induction a with
      | nil => intro cur r _; simp [linesGo]
      | cons x a ih =>
        intro cur r h
        have h1 : x ≠ 10 := fun e => h (by simp [e])
        have h2 : 10 ∉ a := fun e => h (by simp [e])
        rw [List.cons_append]
        conv => lhs; unfold linesGo
        simp only [if_neg h1]
        rw [ih _ _ h2]; simp
    rw [List.flatMap_cons, List.append_assoc, List.singleton_append, go _ _ _ (h l List.mem_cons_self), linesGo_of fun x hx => h x (List.mem_cons_of_mem _ hx)]
    simp
/-- the lines behind the first one. -/
def linesF (b : List UInt8) : Option (List (List UInt8)) := match linesGo b [] with
  | (l :: ls, []) => if l = [45, 45, 45] then some ls else none
  | _ => none
theorem linesF_iff {b : List UInt8} {ls : List (List UInt8)} : linesF b = some ls ↔ b = head9 ++ ls.flatMap (fun l => l ++ [10]) ∧ ∀ l ∈ ls, 10 ∉ l := by
  unfold linesF
  constructor
  · intro h
    split at h
    · rename_i l ls' e
      split at h
      · rename_i hl
        cases h
        obtain ⟨h1, h2, _⟩ := linesGo_eq b [] (by simp)
        rw [e] at h1 h2
        simp only [List.nil_append, List.flatMap_cons, List.append_nil] at h1
        refine ⟨by rw [h1, hl]; rfl, fun x hx => h2 x (List.mem_cons_of_mem _ hx)⟩
      · cases h
    · cases h
  · rintro ⟨rfl, h⟩
    have e : head9 ++ ls.flatMap (fun l => l ++ [10]) = ([45, 45, 45] :: ls).flatMap fun l => l ++ [10] := by rw [List.flatMap_cons]; rfl
    rw [e, linesGo_of (by
      intro l hl
      rcases List.mem_cons.1 hl with rfl | hl
      · decide
      · exact h l hl)]
    simp
/-- what the document's ReadList tells. -/
def refL (b : List UInt8) : Option (List (List UInt8)) := match linesF b with
  | none => none
  | some ls => if ls.all (fun s => decide (2 ≤ s.length)) = true ∧ (ls.map (·.drop 2)).all plainB = true ∧ writeL (ls.map (·.drop 2)) = b then some (ls.map (·.drop 2)) else none
theorem refL_eq (b : List UInt8) : refL b = readL b := by
  have key : ∀ L, refL b = some L ↔ readL b = some L := by
    intro L
    rw [readL_iff]
    unfold refL
    constructor
    · intro h
      split at h
      · cases h
      · rename_i ls hls
        split at h
        · rename_i hc
          cases h
          exact ⟨hc.2.2.symm, List.all_eq_true.1 hc.2.1⟩
        · cases h
    · rintro ⟨rfl, h⟩
      have hl : linesF (writeL L) = some (L.map fun s => 45 :: 32 :: s) := linesF_iff.2 ⟨by unfold writeL; rw [List.flatMap_map]; rfl, fun l hl => by
        obtain ⟨s, hs, rfl⟩ := List.mem_map.1 hl
        have := plain_no (h s hs) (c := 10) (by decide)
        simp [this]⟩
      rw [hl]
      simp only
      have e : (L.map fun s => (45 :: 32 :: s : List UInt8)).map (·.drop 2) = L := by rw [List.map_map]; simp [Function.comp_def]
      rw [e, if_pos ⟨by simp, by simpa using h, rfl⟩]
  cases h1 : readL b with
  | some L => exact (key L).2 h1
  | none =>
    cases h2 : refL b with
    | none => rfl
    | some L => rw [(key L).1 h2] at h1; cases h1
/-! ### dictionaries -/
abbrev Pr := List UInt8 × List UInt8
def lineD (p : Pr) : List UInt8 := p.1 ++ 58 :: 32 :: (p.2 ++ [10])
def writeD (D : List Pr) : List UInt8 := head9 ++ D.flatMap lineD
def hasB (l : List Pr) (k : List UInt8) : Bool := l.any fun p => p.1 == k
/-- may these be told, behind those? -/
def dictOk : List Pr → List Pr → Bool
  | _, [] => true
  | out, p :: D => rightB p.1 && !(hasB out p.1) && plainB p.2 && decide (out.length < 256) && dictOk (out ++ [p]) D
/-- the first ': '. -/
def cut2 : List UInt8 → Option (List UInt8 × List UInt8)
  | 58 :: 32 :: r => some ([], r)
  | x :: r => (cut2 r).map fun p => (x :: p.1, p.2)
  | [] => none
theorem cut2_some : ∀ {s a b : List UInt8}, cut2 s = some (a, b) → s = a ++ 58 :: 32 :: b := by
  intro s
  induction s with
  | nil => intro a b h; simp [cut2] at h
  | cons x r ih =>
    intro a b h
    unfold cut2 at h
    split at h
    · rename_i e
      cases h
      exact e
    · rename_i x' r' _ e
      cases e
      rw [Option.map_eq_some_iff] at h
      obtain ⟨⟨a', b'⟩, h1, h2⟩ := h
      cases h2
      rw [ih h1]; rfl
    · cases h
theorem cut2_of : ∀ {a b : List UInt8}, 58 ∉ a → cut2 (a ++ 58 :: 32 :: b) = some (a, b)
  | [], b, _ => by simp [cut2]
  | x :: a, b, h => by
    have h1 : x ≠ 58 := fun e => h (by simp [e])
    have h2 : 58 ∉ a := fun e => h (by simp [e])
    rw [List.cons_append]
    unfold cut2
    split
    · rename_i e
      exact absurd (List.cons.inj e).1 h1
    · rename_i x' r' _ e
      cases e
      rw [cut2_of h2]; rfl
    · rename_i e; cases e
def dictGo : Nat → List UInt8 → List Pr → Option (List Pr)
  | 0, rest, out => if rest = [] then some out else none
  | n + 1, rest, out => if rest = [] then some out else match cutAt 10 rest with
    | none => none
    | some (t, r) => match cut2 t with
      | none => none
      | some (k, v) => if rightB k = true ∧ plainB v = true ∧ hasB out k = false ∧ out.length < 256 then dictGo n r (out ++ [(k, v)]) else none
theorem dictGo_some : ∀ {n : Nat} {rest : List UInt8} {out D : List Pr}, dictGo n rest out = some D → ∃ E, D = out ++ E ∧ rest = E.flatMap lineD ∧ dictOk out E = true
  | 0, rest, out, D, h => by
    unfold dictGo at h
    split at h
    · rename_i hr; cases h; exact ⟨[], by simp, by simp [hr], rfl⟩
    · cases h
  | n + 1, rest, out, D, h => by
    unfold dictGo at h
    split at h
    · rename_i hr; cases h; exact ⟨[], by simp, by simp [hr], rfl⟩
    · split at h
      · cases h
      · rename_i t r hc
        split at h
        · cases h
        · rename_i k v hc2
          split at h
          · rename_i hp
            obtain ⟨E, h1, h2, h3⟩ := dictGo_some h
            obtain ⟨h4, _⟩ := cutAt_some hc
            have h5 := cut2_some hc2
            refine ⟨(k, v) :: E, by rw [h1]; simp, ?_, ?_⟩
            · rw [List.flatMap_cons, ← h2, h4, h5]
              simp [lineD]
            · unfold dictOk
              simp [hp.1, hp.2.1, hp.2.2.1, hp.2.2.2, h3]
          · cases h
theorem dictGo_of : ∀ {E : List Pr} {n : Nat} {out : List Pr}, dictOk out E = true → (E.flatMap lineD).length ≤ n → dictGo n (E.flatMap lineD) out = some (out ++ E)
  | [], n, out, _, _ => by cases n <;> simp [dictGo]
  | p :: E, 0, out, _, hn => by simp [lineD] at hn
  | p :: E, n + 1, out, h, hn => by
    unfold dictOk at h
    simp only [Bool.and_eq_true, Bool.not_eq_true', decide_eq_true_eq] at h
    obtain ⟨⟨⟨⟨h1, h2⟩, h3⟩, h4⟩, h5⟩ := h
    have e : (p :: E).flatMap lineD = (p.1 ++ 58 :: 32 :: p.2) ++ 10 :: E.flatMap lineD := by rw [List.flatMap_cons]; simp [lineD]
    rw [e] at hn ⊢
    have hc : cutAt 10 ((p.1 ++ 58 :: 32 :: p.2) ++ 10 :: E.flatMap lineD) = some (p.1 ++ 58 :: 32 :: p.2, E.flatMap lineD) := cutAt_of (by
      have := right_no h1 (c := 10) (by decide)
      have := plain_no h3 (c := 10) (by decide)
      simp_all)
    unfold dictGo
    rw [if_neg (by simp), hc]
    simp only
    rw [cut2_of (right_no h1 (by decide))]
    simp only
    rw [if_pos ⟨h1, h3, h2, h4⟩, dictGo_of h5 (by simp at hn ⊢; omega)]
    simp
/-- what ReadDict tells. -/
def readD (b : List UInt8) : Option (List Pr) := if b.take 4 = head9 then dictGo b.length (b.drop 4) [] else none
theorem readD_iff {b : List UInt8} {D : List Pr} : readD b = some D ↔ b = writeD D ∧ dictOk [] D = true := by
  unfold readD writeD
  constructor
  · intro h
    split at h
    · rename_i h0
      obtain ⟨E, h1, h2, h3⟩ := dictGo_some h
      rw [List.nil_append] at h1
      subst h1
      refine ⟨?_, h3⟩
      rw [← h2, ← h0, List.take_append_drop]
    · cases h
  · rintro ⟨rfl, h⟩
    rw [if_pos (by simp [head9])]
    exact dictGo_of (n := (head9 ++ D.flatMap lineD).length) h (by simp)
/-- where the first ':' stands. -/
def colon (s : List UInt8) : Nat := (s.takeWhile (· != 58)).length
def pairF (s : List UInt8) : Pr := (s.take (colon s), s.drop (colon s + 2))
theorem colon_of : ∀ {a b : List UInt8}, 58 ∉ a → colon (a ++ 58 :: b) = a.length
  | [], b, _ => by simp [colon]
  | x :: a, b, h => by
    have h1 : x ≠ 58 := fun e => h (by simp [e])
    have h2 : 58 ∉ a := fun e => h (by simp [e])
    have := colon_of (b := b) h2
    unfold colon at this ⊢
    rw [List.cons_append, List.takeWhile_cons, if_pos (by simpa using h1), List.length_cons, this, List.length_cons]
theorem pairF_of {p : Pr} (h : 58 ∉ p.1) : pairF (p.1 ++ 58 :: 32 :: p.2) = p := by
  unfold pairF
  rw [colon_of h]
  simp
/-- what the document's Dict may tell. -/
def dictB (D : List Pr) : Bool := decide (D.length ≤ 256) && dictOk [] D
/-- what the document's ReadDict tells. -/
def refD (b : List UInt8) : Option (List Pr) := match linesF b with
  | none => none
  | some ls => if ls.length ≤ 256 ∧ ls.all (fun s => decide (colon s + 2 ≤ s.length)) = true ∧ dictOk [] (ls.map pairF) = true ∧ writeD (ls.map pairF) = b then some (ls.map pairF) else none
theorem dictOk_len : ∀ {E out : List Pr}, dictOk out E = true → out.length ≤ 256 → out.length + E.length ≤ 256
  | [], out, _, h => by simpa using h
  | p :: E, out, h, hl => by
    unfold dictOk at h
    simp only [Bool.and_eq_true, Bool.not_eq_true', decide_eq_true_eq] at h
    have := dictOk_len h.2 (by simp; omega)
    simp at this ⊢; omega
theorem dictOk_mem : ∀ {E out : List Pr}, dictOk out E = true → ∀ p ∈ E, rightB p.1 = true ∧ plainB p.2 = true
  | [], out, _, p, hp => by cases hp
  | q :: E, out, h, p, hp => by
    unfold dictOk at h
    simp only [Bool.and_eq_true, Bool.not_eq_true', decide_eq_true_eq] at h
    rcases List.mem_cons.1 hp with rfl | hp
    · exact ⟨h.1.1.1.1, h.1.1.2⟩
    · exact dictOk_mem h.2 p hp
theorem refD_eq (b : List UInt8) : refD b = readD b := by
  have key : ∀ D, refD b = some D ↔ readD b = some D := by
    intro D
    rw [readD_iff]
    unfold refD
    constructor
    · intro h
      split at h
      · cases h
      · rename_i ls hls
        split at h
        · rename_i hc
          cases h
          exact ⟨hc.2.2.2.symm, hc.2.2.1⟩
        · cases h
    · rintro ⟨rfl, h⟩
      have hm := dictOk_mem h
      have hl : linesF (writeD D) = some (D.map fun p => p.1 ++ 58 :: 32 :: p.2) := linesF_iff.2 ⟨by
        unfold writeD; rw [List.flatMap_map]; congr 1; congr 1; funext p; simp [lineD], fun l hl => by
        obtain ⟨p, hp, rfl⟩ := List.mem_map.1 hl
        have h1 := right_no (hm p hp).1 (c := 10) (by decide)
        have h2 := plain_no (hm p hp).2 (c := 10) (by decide)
        simp [h1, h2]⟩
      rw [hl]
      simp only
      have e : (D.map fun p => p.1 ++ 58 :: 32 :: p.2).map pairF = D := by
        rw [List.map_map]
        conv => rhs; rw [← List.map_id D]
        apply List.map_congr_left
        intro p hp
        exact pairF_of (right_no (hm p hp).1 (by decide))
      have hlen := dictOk_len h (by simp)
      rw [e, if_pos ⟨by simpa using hlen, by
        rw [List.all_eq_true]
        intro l hl
        obtain ⟨p, hp, rfl⟩ := List.mem_map.1 hl
        rw [colon_of (right_no (hm p hp).1 (by decide))]
        simp, h, rfl⟩]
  cases h1 : readD b with
  | some D => exact (key D).2 h1
  | none =>
    cases h2 : refD b with
    | none => rfl
    | some D => rw [(key D).1 h2] at h1; cases h1

/-! ### where a text is cut -/
def cutS (sub : List UInt8) : List UInt8 → Option (List UInt8 × List UInt8)
  | [] => if sub.isEmpty = true then some ([], []) else none
  | c :: l => if sub.isPrefixOf (c :: l) = true then some ([], (c :: l).drop sub.length) else (cutS sub l).map fun p => (c :: p.1, p.2)
theorem cutS_none {sub : List UInt8} : ∀ {s : List UInt8}, cutS sub s = none → Lib.index s sub = -1
  | [], h => by
    unfold cutS at h
    split at h
    · cases h
    · rename_i h0
      unfold Lib.index
      rw [if_neg h0]
  | c :: l, h => by
    unfold cutS at h
    split at h
    · cases h
    · rename_i h0
      rw [Option.map_eq_none_iff] at h
      unfold Lib.index
      rw [if_neg h0, cutS_none h]; rfl
theorem cutS_some {sub : List UInt8} : ∀ {s a b : List UInt8}, cutS sub s = some (a, b) → Lib.index s sub = (a.length : Nat) ∧ s = a ++ sub ++ b
  | [], a, b, h => by
    unfold cutS at h
    split at h
    · rename_i h0
      cases h
      have : sub = [] := by simpa using h0
      subst this
      simp [Lib.index]
    · cases h
  | c :: l, a, b, h => by
    unfold cutS at h
    split at h
    · rename_i h0
      cases h
      obtain ⟨t, ht⟩ := List.isPrefixOf_iff_prefix.1 h0
      refine ⟨by unfold Lib.index; rw [if_pos h0]; rfl, ?_⟩
      rw [← ht]; simp
    · rename_i h0
      rw [Option.map_eq_some_iff] at h
      obtain ⟨⟨a', b'⟩, h1, h2⟩ := h
      cases h2
      obtain ⟨h3, h4⟩ := cutS_some h1
      refine ⟨?_, by rw [h4]; simp⟩
      unfold Lib.index
      rw [if_neg h0, h3, if_neg (by simp)]
      rfl
theorem cutS_one (c : UInt8) : ∀ s, cutS [c] s = cutAt c s
  | [] => by simp [cutS, cutAt]
  | x :: l => by
    unfold cutS cutAt
    rw [cutS_one c l]
    by_cases h : x = c
    · subst h; simp
    · have : ([c].isPrefixOf (x :: l)) = false := by simp [List.isPrefixOf]; exact fun e => h e.symm
      simp [this, h]
theorem cutS_two : ∀ s, cutS [58, 32] s = cut2 s
  | [] => by simp [cutS, cut2]
  | x :: l => by
    unfold cutS
    rw [cutS_two l]
    by_cases h : ([58, 32] : List UInt8).isPrefixOf (x :: l) = true
    · obtain ⟨t, ht⟩ := List.isPrefixOf_iff_prefix.1 h
      rw [if_pos h, ← ht]
      simp [cut2]
    · rw [if_neg h]
      conv => rhs; unfold cut2
      split
      · rename_i e
        exact absurd (by rw [e]; simp [List.isPrefixOf]) h
      · rename_i e; cases e; rfl
      · rename_i e; cases e
end Y
end Go.Proofs.YteedmbmgemiheaaDoor
namespace Go.Proofs.YteedmbmgemiheaaDoor
open Go Go.HL Go.Shelf Y
namespace A
set_option maxRecDepth 100000
set_option maxHeartbeats 40000000
set_option linter.unusedSimpArgs false
theorem ok14 : okF Tryd.prog 14 := ⟨_, Tryd.func14, by kernel_rfl, by kernel_rfl⟩
theorem ok15 : okF Tryd.prog 15 := ⟨_, Tryd.func15, by kernel_rfl, by kernel_rfl⟩
theorem ok16 : okF Tryd.prog 16 := ⟨_, Tryd.func16, by kernel_rfl, by kernel_rfl⟩
theorem ok20 : okF Tryd.prog 20 := ⟨_, Tryd.func20, by kernel_rfl, by kernel_rfl⟩
theorem ok21 : okF Tryd.prog 21 := ⟨_, Tryd.func21, by kernel_rfl, by kernel_rfl⟩
theorem ok22 : okF Tryd.prog 22 := ⟨_, Tryd.func22, by kernel_rfl, by kernel_rfl⟩
theorem ok23 : okF Tryd.prog 23 := ⟨_, Tryd.func23, by kernel_rfl, by kernel_rfl⟩
theorem ok24 : okF Tryd.prog 24 := ⟨_, Tryd.func24, by kernel_rfl, by kernel_rfl⟩
theorem ok25 : okF Tryd.prog 25 := ⟨_, Tryd.func25, by kernel_rfl, by kernel_rfl⟩
theorem ok26 : okF Tryd.prog 26 := ⟨_, Tryd.func26, by kernel_rfl, by kernel_rfl⟩
theorem ok33 : okF Tryd.prog 33 := ⟨_, Tryd.func33, by kernel_rfl, by kernel_rfl⟩
theorem ok34 : okF Tryd.prog 34 := ⟨_, Tryd.func34, by kernel_rfl, by kernel_rfl⟩
theorem ok35 : okF Tryd.prog 35 := ⟨_, Tryd.func35, by kernel_rfl, by kernel_rfl⟩
theorem ok36 : okF Tryd.prog 36 := ⟨_, Tryd.func36, by kernel_rfl, by kernel_rfl⟩
theorem ok37 : okF Tryd.prog 37 := ⟨_, Tryd.func37, by kernel_rfl, by kernel_rfl⟩
theorem ok39 : okF Tryd.prog 39 := ⟨_, Tryd.func39, by kernel_rfl, by kernel_rfl⟩
theorem ok40 : okF Tryd.prog 40 := ⟨_, Tryd.func40, by kernel_rfl, by kernel_rfl⟩
theorem ok41 : okF Tryd.prog 41 := ⟨_, Tryd.func41, by kernel_rfl, by kernel_rfl⟩
theorem ok42 : okF Tryd.prog 42 := ⟨_, Tryd.func42, by kernel_rfl, by kernel_rfl⟩
theorem ok43 : okF Tryd.prog 43 := ⟨_, Tryd.func43, by kernel_rfl, by kernel_rfl⟩
theorem ok44 : okF Tryd.prog 44 := ⟨_, Tryd.func44, by kernel_rfl, by kernel_rfl⟩
theorem ok45 : okF Tryd.prog 45 := ⟨_, Tryd.func45, by kernel_rfl, by kernel_rfl⟩
theorem ok49 : okF Tryd.prog 49 := ⟨_, Tryd.func49, by kernel_rfl, by kernel_rfl⟩
theorem ok50 : okF Tryd.prog 50 := ⟨_, Tryd.func50, by kernel_rfl, by kernel_rfl⟩
theorem ok51 : okF Tryd.prog 51 := ⟨_, Tryd.func51, by kernel_rfl, by kernel_rfl⟩
theorem mixed : Tryd.prog.follows .mixedOrders = true := by kernel_rfl
theorem vss_lo {b : List UInt8} {lo : Nat} {j : IntKind} (h : lo ≤ b.length) : hsliceStr (.str b) (some (.int j (lo : Nat))) none = some (.str (b.drop lo)) := by
  simp only [hsliceStr, bounds_of (vhi := none) (hi := b.length) (lo := lo) (len := b.length) (Lo.some (k := j)) Hi.none h (Nat.le_refl _) (Nat.le_refl _)]
  simp
theorem vss_hi {b : List UInt8} {hi : Nat} {j : IntKind} (h : hi ≤ b.length) : hsliceStr (.str b) none (some (.int j (hi : Nat))) = some (.str (b.take hi)) := by
  simp only [hsliceStr, bounds_of (vlo := none) (hi := hi) (lo := 0) (len := b.length) Lo.none (Hi.some (k := j)) (Nat.zero_le _) h (Nat.le_refl _)]
  simp
theorem pre50 {hs : HS} (s p : List UInt8) : HC Tryd.prog 50 [.str s, .str p] hs fun v hs' => v = .bool (s.take p.length == p) ∧ hs' = hs := by
  refine HC.wp mixed Tryd.func50 c50 ?_
  by_cases h : p.length ≤ s.length
  · have d0 : decide (((p.length : Nat) : Int) ≤ ((s.length : Nat) : Int)) = true := decide_eq_true (by omega)
    have e := vss_hi (j := .i64) h
    repeat' first
      | simp -implicitDefEqProofs (disch := first | omega | decide | exact rfl | assumption | exact Nat.le_of_ble_eq_true rfl | exact One.c | exact One.o) only [vsA, vsB, eq_self, if_true, if_false, implies_true, false_implies, evp, HX.ev, Nat.reduceAdd, HOp.looks, Nat.reduceEqDiff, overw, Nat.reduceBEq, h50, d0, e, ub50, frame0, List.replicate, Nat.sub]
      | (refine condK_cases (fun h => ?_) (fun h => ?_) <;> (try simp only [h]) <;> (try simp only [athA, ne_eq] at h) <;> (try (exfalso; omega)))
      | (refine guardK_cases (fun h => ?_) (fun h => ?_) <;> (try simp only [h]) <;> (try simp only [athA, ne_eq] at h) <;> (try (exfalso; omega)))

    all_goals first | exact ⟨rfl, rfl⟩ | exact ⟨_, rfl, rfl⟩ | exact ⟨_, rfl, rfl, rfl⟩
  · have d0 : decide (((p.length : Nat) : Int) ≤ ((s.length : Nat) : Int)) = false := decide_eq_false (by omega)
    have e : (s.take p.length == p) = false := by
      rw [beq_eq_false_iff_ne]
      intro e
      have := congrArg List.length e
      rw [List.length_take] at this; omega
    rw [e]
    repeat' first
      | simp -implicitDefEqProofs (disch := first | omega | decide | exact rfl | assumption | exact Nat.le_of_ble_eq_true rfl | exact One.c | exact One.o) only [vsA, vsB, eq_self, if_true, if_false, implies_true, false_implies, evp, HX.ev, Nat.reduceAdd, HOp.looks, Nat.reduceEqDiff, overw, Nat.reduceBEq, h50, d0, ub50, frame0, List.replicate, Nat.sub]
      | (refine condK_cases (fun h => ?_) (fun h => ?_) <;> (try simp only [h]) <;> (try simp only [athA, ne_eq] at h) <;> (try (exfalso; omega)))
      | (refine guardK_cases (fun h => ?_) (fun h => ?_) <;> (try simp only [h]) <;> (try simp only [athA, ne_eq] at h) <;> (try (exfalso; omega)))

    all_goals first | exact ⟨rfl, rfl⟩ | exact ⟨_, rfl, rfl⟩ | exact ⟨_, rfl, rfl, rfl⟩
theorem pre36 {hs : HS} (s p : List UInt8) : HC Tryd.prog 36 [.str s, .str p] hs fun v hs' => v = .bool (s.take p.length == p) ∧ hs' = hs := by
  refine HC.wp mixed Tryd.func36 c36 ?_
  repeat' first
    | simp -implicitDefEqProofs (disch := first | omega | decide | exact rfl | assumption | exact Nat.le_of_ble_eq_true rfl | exact One.c | exact One.o) only [vsA, vsB, eq_self, if_true, if_false, implies_true, false_implies, evp, HX.ev, Nat.reduceAdd, HOp.looks, Nat.reduceEqDiff, overw, Nat.reduceBEq, h36, frame0, List.replicate, Nat.sub]
    | (refine condK_cases (fun h => ?_) (fun h => ?_) <;> (try simp only [h]) <;> (try simp only [athA, ne_eq] at h) <;> (try (exfalso; omega)))
    | (refine guardK_cases (fun h => ?_) (fun h => ?_) <;> (try simp only [h]) <;> (try simp only [athA, ne_eq] at h) <;> (try (exfalso; omega)))
    | ((with_reducible show actK _ (HAct.call (HX.cst (HV.func (Fn.func 50) _ _)) _) _ _ _ _ _); refine vcall_of ok50 rfl (pre50 s p) ?_; rintro _ _ ⟨rfl, rfl⟩)

  all_goals first | exact ⟨rfl, rfl⟩ | exact ⟨_, rfl, rfl⟩ | exact ⟨_, rfl, rfl, rfl⟩
theorem cutPre49 {hs : HS} (s p : List UInt8) : HC Tryd.prog 49 [.str s, .str p] hs fun v hs' => v = .tup [.str (if s.take p.length = p then s.drop p.length else s), .bool (s.take p.length == p)] ∧ hs' = hs := by
  refine HC.wp mixed Tryd.func49 c49 ?_
  by_cases h : s.take p.length = p
  · have hl : p.length ≤ s.length := by have := congrArg List.length h; rw [List.length_take] at this; omega
    have e := vss_lo (j := .i64) hl
    have b : (s.take p.length == p) = true := by simpa using h
    rw [if_pos h, b]
    repeat' first
      | simp -implicitDefEqProofs (disch := first | omega | decide | exact rfl | assumption | exact Nat.le_of_ble_eq_true rfl | exact One.c | exact One.o) only [vsA, vsB, eq_self, if_true, if_false, implies_true, false_implies, evp, HX.ev, Nat.reduceAdd, HOp.looks, Nat.reduceEqDiff, overw, Nat.reduceBEq, h49, e, ub49, frame0, List.replicate, Nat.sub]
      | (refine condK_cases (fun h => ?_) (fun h => ?_) <;> (try simp only [h]) <;> (try simp only [athA, ne_eq] at h) <;> (try (exfalso; omega)))
      | (refine guardK_cases (fun h => ?_) (fun h => ?_) <;> (try simp only [h]) <;> (try simp only [athA, ne_eq] at h) <;> (try (exfalso; omega)))
      | ((with_reducible show actK _ (HAct.call (HX.cst (HV.func (Fn.func 50) _ _)) _) _ _ _ _ _); refine vcall_of ok50 rfl (pre50 s p) ?_;  (rw [b]; rintro _ _ ⟨rfl, rfl⟩))

    all_goals first | exact ⟨rfl, rfl⟩ | exact ⟨_, rfl, rfl⟩ | exact ⟨_, rfl, rfl, rfl⟩
  · have b : (s.take p.length == p) = false := by simpa using h
    rw [if_neg h, b]
    repeat' first
      | simp -implicitDefEqProofs (disch := first | omega | decide | exact rfl | assumption | exact Nat.le_of_ble_eq_true rfl | exact One.c | exact One.o) only [vsA, vsB, eq_self, if_true, if_false, implies_true, false_implies, evp, HX.ev, Nat.reduceAdd, HOp.looks, Nat.reduceEqDiff, overw, Nat.reduceBEq, h49, ub49, frame0, List.replicate, Nat.sub]
      | (refine condK_cases (fun h => ?_) (fun h => ?_) <;> (try simp only [h]) <;> (try simp only [athA, ne_eq] at h) <;> (try (exfalso; omega)))
      | (refine guardK_cases (fun h => ?_) (fun h => ?_) <;> (try simp only [h]) <;> (try simp only [athA, ne_eq] at h) <;> (try (exfalso; omega)))
      | ((with_reducible show actK _ (HAct.call (HX.cst (HV.func (Fn.func 50) _ _)) _) _ _ _ _ _); refine vcall_of ok50 rfl (pre50 s p) ?_;  (rw [b]; rintro _ _ ⟨rfl, rfl⟩))

    all_goals first | exact ⟨rfl, rfl⟩ | exact ⟨_, rfl, rfl⟩ | exact ⟨_, rfl, rfl, rfl⟩
theorem cutPre34 {hs : HS} (s p : List UInt8) : HC Tryd.prog 34 [.str s, .str p] hs fun v hs' => v = .tup [.str (if s.take p.length = p then s.drop p.length else s), .bool (s.take p.length == p)] ∧ hs' = hs := by
  refine HC.wp mixed Tryd.func34 c34 ?_
  repeat' first
    | simp -implicitDefEqProofs (disch := first | omega | decide | exact rfl | assumption | exact Nat.le_of_ble_eq_true rfl | exact One.c | exact One.o) only [vsA, vsB, eq_self, if_true, if_false, implies_true, false_implies, evp, HX.ev, Nat.reduceAdd, HOp.looks, Nat.reduceEqDiff, overw, Nat.reduceBEq, h34, frame0, List.replicate, Nat.sub]
    | (refine condK_cases (fun h => ?_) (fun h => ?_) <;> (try simp only [h]) <;> (try simp only [athA, ne_eq] at h) <;> (try (exfalso; omega)))
    | (refine guardK_cases (fun h => ?_) (fun h => ?_) <;> (try simp only [h]) <;> (try simp only [athA, ne_eq] at h) <;> (try (exfalso; omega)))
    | ((with_reducible show actK _ (HAct.call (HX.cst (HV.func (Fn.func 49) _ _)) _) _ _ _ _ _); refine vcall_of ok49 rfl (cutPre49 s p) ?_; rintro _ _ ⟨rfl, rfl⟩)

  all_goals first | exact ⟨rfl, rfl⟩ | exact ⟨_, rfl, rfl⟩ | exact ⟨_, rfl, rfl, rfl⟩
theorem index55 {hs : HS} (hg : hs[0]? = some (some (HB.gint 1))) (a b : List UInt8) (hl : a.length < 4294967281) : HC Tryd.prog 55 [.str a, .str b] hs fun v hs' => v = .int .i64 (Lib.index a b) ∧ hs' = hs := by
  intro β w us E R
  simp only [RelL, Rel] at R
  obtain ⟨_, _, rfl, rfl, _, _, rfl, rfl, rfl⟩ := R
  have he : ∃ e, β[0]? = some e := by
    have : 0 < β.length := by rw [E.len]; exact lt_of_get hg
    exact ⟨_, List.getElem?_eq_getElem this⟩
  obtain ⟨e, he⟩ := he
  obtain ⟨hblk, _, cur, t, fz, m, hgr, hc0⟩ := E.blk 0 e _ he hg
  rw [hblk] at hgr
  refine (Any.stringslite_Index { Tryd.laysM219 with } ⟨a.toArray⟩ ⟨b.toArray⟩ m w (by simpa [ByteArray.size] using hl) (by
    have : Tryd.laysM219_ren.g 1 = 1 := by kernel_rfl
    rw [this]
    simp [World.cell?, hgr, hc0])).mono ?_
  rintro e' w' ⟨rfl, rfl⟩
  exact ⟨β, _, _, _, rfl, ⟨rfl, rfl⟩, rfl, Step.refl E⟩
/-- what Cut tells. -/
def cutV (sub s : List UInt8) : HV := match cutS sub s with
  | some (a, b) => .tup [.str a, .str b, .bool true]
  | none => .tup [.str s, .str [], .bool false]
theorem cut51 {hs : HS} (hg : hs[0]? = some (some (HB.gint 1))) (s sub : List UInt8) (hl : s.length < 4294967281) : HC Tryd.prog 51 [.str s, .str sub] hs fun v hs' => v = cutV sub s ∧ hs' = hs := by
  refine HC.wp mixed Tryd.func51 c51 ?_
  unfold cutV
  cases h : cutS sub s with
  | none =>
    have e := cutS_none h
    repeat' first
      | simp -implicitDefEqProofs (disch := first | omega | decide | exact rfl | assumption | exact Nat.le_of_ble_eq_true rfl | exact One.c | exact One.o) only [vsA, vsB, eq_self, if_true, if_false, implies_true, false_implies, evp, HX.ev, Nat.reduceAdd, HOp.looks, Nat.reduceEqDiff, overw, Nat.reduceBEq, h51, ub51, frame0, List.replicate, Nat.sub]
      | (refine condK_cases (fun h => ?_) (fun h => ?_) <;> (try simp only [h]) <;> (try simp only [athA, ne_eq] at h) <;> (try (exfalso; omega)))
      | (refine guardK_cases (fun h => ?_) (fun h => ?_) <;> (try simp only [h]) <;> (try simp only [athA, ne_eq] at h) <;> (try (exfalso; omega)))
      | (refine dgK_cases (fun h => ?_) (fun h => ?_) <;> (try simp only [h]) <;> (try simp only [athA, ne_eq] at h) <;> (try (exfalso; omega)))
      | ((with_reducible show actK _ (HAct.call (HX.cst (HV.func (Fn.func 55) _ _)) _) _ _ _ _ _); refine vcall_of ok55 rfl (index55 hg s sub hl) ?_;  (rw [e]; rintro _ _ ⟨rfl, rfl⟩))
      | ((with_reducible show drK _ _ _ _ _ _ _ _ _ (some ⟨_, HAct.call (HX.cst (HV.func (Fn.func 55) _ _)) _, none⟩)); refine vdr_call ok55 rfl (index55 hg s sub hl) ?_;  (rw [e]; rintro _ _ ⟨rfl, rfl⟩))
      | refine hwp_draw mixed rfl ?_

    all_goals first | exact ⟨rfl, rfl⟩ | exact ⟨_, rfl, rfl⟩ | exact ⟨_, rfl, rfl, rfl⟩
  | some p =>
    obtain ⟨a, b⟩ := p
    obtain ⟨e, hs0⟩ := cutS_some h
    have hl2 := congrArg List.length hs0
    simp only [List.length_append] at hl2
    have e1 := vss_hi (j := .i64) (b := s) (hi := a.length) (by omega)
    have e2 := vss_lo (j := .i64) (b := s) (lo := a.length + sub.length) (by omega)
    have t1 : s.take a.length = a := by rw [hs0, List.append_assoc, List.take_left]
    have t2 : s.drop (a.length + sub.length) = b := by rw [hs0, ← List.length_append, List.drop_left]
    rw [t1] at e1
    rw [t2] at e2
    have va : hbin .add none (.int .i64 (a.length : Nat)) (.int .i64 (sub.length : Nat)) = some (.int .i64 ((a.length + sub.length : Nat) : Int)) := vaddn (by omega)
    have d0 : decide (0 ≤ ((a.length : Nat) : Int)) = true := decide_eq_true (by omega)
    repeat' first
      | simp -implicitDefEqProofs (disch := first | omega | decide | exact rfl | assumption | exact Nat.le_of_ble_eq_true rfl | exact One.c | exact One.o) only [vsA, vsB, eq_self, if_true, if_false, implies_true, false_implies, evp, HX.ev, Nat.reduceAdd, HOp.looks, Nat.reduceEqDiff, overw, Nat.reduceBEq, h51, e1, e2, va, d0, ub51, frame0, List.replicate, Nat.sub]
      | (refine condK_cases (fun h => ?_) (fun h => ?_) <;> (try simp only [h]) <;> (try simp only [athA, ne_eq] at h) <;> (try (exfalso; omega)))
      | (refine guardK_cases (fun h => ?_) (fun h => ?_) <;> (try simp only [h]) <;> (try simp only [athA, ne_eq] at h) <;> (try (exfalso; omega)))
      | (refine dgK_cases (fun h => ?_) (fun h => ?_) <;> (try simp only [h]) <;> (try simp only [athA, ne_eq] at h) <;> (try (exfalso; omega)))
      | ((with_reducible show actK _ (HAct.call (HX.cst (HV.func (Fn.func 55) _ _)) _) _ _ _ _ _); refine vcall_of ok55 rfl (index55 hg s sub hl) ?_;  (rw [e]; rintro _ _ ⟨rfl, rfl⟩))
      | ((with_reducible show drK _ _ _ _ _ _ _ _ _ (some ⟨_, HAct.call (HX.cst (HV.func (Fn.func 55) _ _)) _, none⟩)); refine vdr_call ok55 rfl (index55 hg s sub hl) ?_;  (rw [e]; rintro _ _ ⟨rfl, rfl⟩))
      | refine hwp_draw mixed rfl ?_

    all_goals first | exact ⟨rfl, rfl⟩ | exact ⟨_, rfl, rfl⟩ | exact ⟨_, rfl, rfl, rfl⟩
theorem cut40 {hs : HS} (hg : hs[0]? = some (some (HB.gint 1))) (s sub : List UInt8) (hl : s.length < 4294967281) : HC Tryd.prog 40 [.str s, .str sub] hs fun v hs' => v = cutV sub s ∧ hs' = hs := by
  refine HC.wp mixed Tryd.func40 c40 ?_
  unfold cutV
  have hc := cut51 hg s sub hl
  unfold cutV at hc
  cases h : cutS sub s with
  | none =>
    rw [h] at hc
    repeat' first
      | simp -implicitDefEqProofs (disch := first | omega | decide | exact rfl | assumption | exact Nat.le_of_ble_eq_true rfl | exact One.c | exact One.o) only [vsA, vsB, eq_self, if_true, if_false, implies_true, false_implies, evp, HX.ev, Nat.reduceAdd, HOp.looks, Nat.reduceEqDiff, overw, Nat.reduceBEq, h40, frame0, List.replicate, Nat.sub]
      | (refine condK_cases (fun h => ?_) (fun h => ?_) <;> (try simp only [h]) <;> (try simp only [athA, ne_eq] at h) <;> (try (exfalso; omega)))
      | (refine guardK_cases (fun h => ?_) (fun h => ?_) <;> (try simp only [h]) <;> (try simp only [athA, ne_eq] at h) <;> (try (exfalso; omega)))
      | ((with_reducible show actK _ (HAct.call (HX.cst (HV.func (Fn.func 51) _ _)) _) _ _ _ _ _); refine vcall_of ok51 rfl hc ?_; rintro _ _ ⟨rfl, rfl⟩)

    all_goals first | exact ⟨rfl, rfl⟩ | exact ⟨_, rfl, rfl⟩ | exact ⟨_, rfl, rfl, rfl⟩
  | some p =>
    rw [h] at hc
    repeat' first
      | simp -implicitDefEqProofs (disch := first | omega | decide | exact rfl | assumption | exact Nat.le_of_ble_eq_true rfl | exact One.c | exact One.o) only [vsA, vsB, eq_self, if_true, if_false, implies_true, false_implies, evp, HX.ev, Nat.reduceAdd, HOp.looks, Nat.reduceEqDiff, overw, Nat.reduceBEq, h40, frame0, List.replicate, Nat.sub]
      | (refine condK_cases (fun h => ?_) (fun h => ?_) <;> (try simp only [h]) <;> (try simp only [athA, ne_eq] at h) <;> (try (exfalso; omega)))
      | (refine guardK_cases (fun h => ?_) (fun h => ?_) <;> (try simp only [h]) <;> (try simp only [athA, ne_eq] at h) <;> (try (exfalso; omega)))
      | ((with_reducible show actK _ (HAct.call (HX.cst (HV.func (Fn.func 51) _ _)) _) _ _ _ _ _); refine vcall_of ok51 rfl hc ?_; rintro _ _ ⟨rfl, rfl⟩)

    all_goals first | exact ⟨rfl, rfl⟩ | exact ⟨_, rfl, rfl⟩ | exact ⟨_, rfl, rfl, rfl⟩
theorem cut35 {hs : HS} (hg : hs[0]? = some (some (HB.gint 1))) (s : List UInt8) (hl : s.length < 4294967281) : HC Tryd.prog 35 [.str s] hs fun v hs' => v = cutV [10] s ∧ hs' = hs := by
  refine HC.wp mixed Tryd.func35 c35 ?_
  unfold cutV
  have hc := cut40 hg s [10] hl
  unfold cutV at hc
  cases h : cutS [10] s with
  | none =>
    rw [h] at hc
    repeat' first
      | simp -implicitDefEqProofs (disch := first | omega | decide | exact rfl | assumption | exact Nat.le_of_ble_eq_true rfl | exact One.c | exact One.o) only [vsA, vsB, eq_self, if_true, if_false, implies_true, false_implies, evp, HX.ev, Nat.reduceAdd, HOp.looks, Nat.reduceEqDiff, overw, Nat.reduceBEq, h35, frame0, List.replicate, Nat.sub]
      | (refine condK_cases (fun h => ?_) (fun h => ?_) <;> (try simp only [h]) <;> (try simp only [athA, ne_eq] at h) <;> (try (exfalso; omega)))
      | (refine guardK_cases (fun h => ?_) (fun h => ?_) <;> (try simp only [h]) <;> (try simp only [athA, ne_eq] at h) <;> (try (exfalso; omega)))
      | ((with_reducible show actK _ (HAct.call (HX.cst (HV.func (Fn.func 40) _ _)) _) _ _ _ _ _); refine vcall_of ok40 rfl hc ?_; rintro _ _ ⟨rfl, rfl⟩)

    all_goals first | exact ⟨rfl, rfl⟩ | exact ⟨_, rfl, rfl⟩ | exact ⟨_, rfl, rfl, rfl⟩
  | some p =>
    rw [h] at hc
    repeat' first
      | simp -implicitDefEqProofs (disch := first | omega | decide | exact rfl | assumption | exact Nat.le_of_ble_eq_true rfl | exact One.c | exact One.o) only [vsA, vsB, eq_self, if_true, if_false, implies_true, false_implies, evp, HX.ev, Nat.reduceAdd, HOp.looks, Nat.reduceEqDiff, overw, Nat.reduceBEq, h35, frame0, List.replicate, Nat.sub]
      | (refine condK_cases (fun h => ?_) (fun h => ?_) <;> (try simp only [h]) <;> (try simp only [athA, ne_eq] at h) <;> (try (exfalso; omega)))
      | (refine guardK_cases (fun h => ?_) (fun h => ?_) <;> (try simp only [h]) <;> (try simp only [athA, ne_eq] at h) <;> (try (exfalso; omega)))
      | ((with_reducible show actK _ (HAct.call (HX.cst (HV.func (Fn.func 40) _ _)) _) _ _ _ _ _); refine vcall_of ok40 rfl hc ?_; rintro _ _ ⟨rfl, rfl⟩)

    all_goals first | exact ⟨rfl, rfl⟩ | exact ⟨_, rfl, rfl⟩ | exact ⟨_, rfl, rfl, rfl⟩
end A
end Go.Proofs.YteedmbmgemiheaaDoor
namespace Go.Proofs.YteedmbmgemiheaaDoor
open Go Go.HL Go.Shelf Y
namespace A
set_option maxRecDepth 100000
set_option maxHeartbeats 40000000
set_option linter.unusedSimpArgs false
attribute [local irreducible] pt My Ex Vw Gr GrK each grp exs Sat takeCells happend hbuildSlice hstore hbox hslice hmakeSlice hs2b hcopy HL.unit opC
theorem all_snoc {f : UInt8 → Bool} {s : List UInt8} {i : Nat} {c : UInt8} (h : s[i]? = some c) (hc : f c = true) (ha : (s.take i).all f = true) : (s.take (i + 1)).all f = true := by
  rw [List.take_add_one, h, List.all_append, ha]; simp [hc]
theorem all_false {f : UInt8 → Bool} {s : List UInt8} {i : Nat} {c : UInt8} (h : s[i]? = some c) (hc : f c = false) : s.all f = false := by
  cases e : s.all f with
  | false => rfl
  | true =>
    have := List.all_eq_true.1 e c (List.mem_of_getElem? h)
    rw [hc] at this; cases this
theorem plain_false {s : List UInt8} {i : Nat} {c : UInt8} (h : s[i]? = some c) (hc : plainC c = false) : plainB s = false := by
  unfold plainB; rw [all_false h hc]; rfl
theorem right_false {s : List UInt8} {i : Nat} {c : UInt8} (h : s[i]? = some c) (hc : keyC c = false) : rightB s = false := by
  unfold rightB; rw [all_false h hc]; rfl
theorem plain_false_r {s : List UInt8} {i : Nat} {c : UInt8} (h : s[i]? = some c) (hc : keyC c = false) : rightB s = false := right_false h hc
theorem keyC_iff (c : UInt8) : keyC c = true ↔ (c.toNat = 45 ∨ (48 ≤ c.toNat ∧ c.toNat ≤ 57) ∨ (97 ≤ c.toNat ∧ c.toNat ≤ 122)) := by
  unfold keyC
  simp only [Bool.or_eq_true, Bool.and_eq_true, decide_eq_true_eq, beq_iff_eq, or_assoc]
  constructor
  · rintro (rfl | h | h)
    · exact .inl rfl
    · exact .inr (.inl h)
    · exact .inr (.inr h)
  · rintro (h | h | h)
    · exact .inl (UInt8.toNat_inj.1 h)
    · exact .inr (.inl h)
    · exact .inr (.inr h)
theorem plainC_iff (c : UInt8) : plainC c = true ↔ (33 ≤ c.toNat ∧ c.toNat ≤ 126) := by
  unfold plainC
  simp only [Bool.and_eq_true, decide_eq_true_eq]
theorem bget {s : List UInt8} {i : Nat} {c : UInt8} (h : s[i]? = some c) : (bcells s)[i]? = some (.int .u8 c.toNat) := by
  unfold bcells; rw [List.getElem?_map, h]; rfl
theorem plain37 {hs : HS} {l : List SA} (H : Sat hs l) (s : List UInt8) (hs0 : s.length < 4294967281) : HC Tryd.prog 37 [.str s] hs fun v hs' => v = .bool (plainB s) ∧ Sat hs' l := by
  refine HC.wp mixed Tryd.func37 c37 ?_
  first | have f0 := Sat.pf (H) | have f0 := trivial
  first | have f1 := Sat.pf (H.t) | have f1 := trivial
  first | have f2 := Sat.pf (H.t.t) | have f2 := trivial
  first | have f3 := Sat.pf (H.t.t.t) | have f3 := trivial
  repeat' first
    | ((with_reducible show Need _); refine need_of ?_; (first | have f0 := Sat.pf (H) | have f0 := trivial); (first | have f1 := Sat.pf (H.t) | have f1 := trivial); (first | have f2 := Sat.pf (H.t.t) | have f2 := trivial); (first | have f3 := Sat.pf (H.t.t.t) | have f3 := trivial))
    | simp -implicitDefEqProofs (disch := first | omega | decide | exact rfl | assumption | exact Nat.le_of_ble_eq_true rfl | exact One.c | exact One.o) only [vsA, vsB, eq_self, if_true, if_false, implies_true, false_implies, evp, HX.ev, Nat.reduceAdd, HOp.looks, Nat.reduceEqDiff, overw, Nat.reduceBEq, h37, ub37, f0, f1, f2, f3, frame0, List.replicate, Nat.sub]
    | refine opC_K ?_
    | ((with_reducible show opC (hs2b _ _) _); refine sl_s2b H (by omega) ?_; clear H f0 f1 f2 f3; intro w hs H; refine need ?_)

  refine HW.loopA mixed (fun i : Nat => (.str s :: .undef :: .undef :: .undef :: .undef :: .undef :: w :: .int .i64 (s.length : Nat) :: .int .i64 (i : Nat) :: .undef :: .undef :: .undef :: .undef :: .undef :: .undef :: .undef :: .undef :: .undef :: .undef :: .undef :: .undef :: .undef :: .undef :: .undef :: .undef :: .undef :: [])) (fun _ => My 1 w s.length (bcells s) :: l) (fun i => s.length - i) (fun i => i ≤ s.length ∧ (s.take i).all plainC = true) 0 ⟨Nat.zero_le _, rfl⟩ (by (repeat first | exact Less.nil | refine Less.undef _ ?_ | refine Less.keep _ ?_)) H ?_
  clear H
  rintro i hs ⟨hi, ha⟩ H
  by_cases h : i < s.length
  · obtain ⟨c, hc⟩ : ∃ c, s[i]? = some c := ⟨_, List.getElem?_eq_getElem h⟩
    obtain ⟨q, hix, _⟩ := (H.rd).idx1 (bget hc) .i64
    have ld := H.rd.ld1 hix (bget hc)
    have d0 : decide (((i : Nat) : Int) < ((s.length : Nat) : Int)) = true := decide_eq_true (by omega)
    have hp := plainC_iff c
    cases e : plainC c with
    | true =>
      rw [e] at hp
      have hp := hp.1 rfl
      have d1 : decide (((c.toNat : Nat) : Int) < 33) = false := decide_eq_false (by omega)
      have d2 : decide ((126 : Int) < ((c.toNat : Nat) : Int)) = false := decide_eq_false (by omega)
      first | have f0 := Sat.pf (H) | have f0 := trivial
      first | have f1 := Sat.pf (H.t) | have f1 := trivial
      first | have f2 := Sat.pf (H.t.t) | have f2 := trivial
      first | have f3 := Sat.pf (H.t.t.t) | have f3 := trivial
      repeat' first
        | simp -implicitDefEqProofs (disch := first | omega | decide | exact rfl | assumption | exact Nat.le_of_ble_eq_true rfl | exact One.c | exact One.o) only [vsA, vsB, eq_self, if_true, if_false, implies_true, false_implies, evp, HX.ev, Nat.reduceAdd, HOp.looks, Nat.reduceEqDiff, overw, Nat.reduceBEq, d0, d1, d2, hix, ld, vadd1, ub37, f0, f1, f2, f3]

      exact ⟨i + 1, _, by omega, ⟨by omega, all_snoc hc e ha⟩, (by (repeat first | exact Less.nil | refine Less.undef _ ?_ | refine Less.keep _ ?_)), Weak.refl _, H⟩
    | false =>
      rw [plain_false hc e]
      by_cases h1 : c.toNat < 33
      · have d1 : decide (((c.toNat : Nat) : Int) < 33) = true := decide_eq_true (by omega)
        first | have f0 := Sat.pf (H) | have f0 := trivial
        first | have f1 := Sat.pf (H.t) | have f1 := trivial
        first | have f2 := Sat.pf (H.t.t) | have f2 := trivial
        first | have f3 := Sat.pf (H.t.t.t) | have f3 := trivial
        repeat' first
          | simp -implicitDefEqProofs (disch := first | omega | decide | exact rfl | assumption | exact Nat.le_of_ble_eq_true rfl | exact One.c | exact One.o) only [vsA, vsB, eq_self, if_true, if_false, implies_true, false_implies, evp, HX.ev, Nat.reduceAdd, HOp.looks, Nat.reduceEqDiff, overw, Nat.reduceBEq, d0, d1, hix, ld, vadd1, ub37, f0, f1, f2, f3]

        exact H.t
      · have d1 : decide (((c.toNat : Nat) : Int) < 33) = false := decide_eq_false (by omega)
        have d2 : decide ((126 : Int) < ((c.toNat : Nat) : Int)) = true := decide_eq_true (by
          have : ¬ (33 ≤ c.toNat ∧ c.toNat ≤ 126) := fun hh => by rw [hp.2 hh] at e; cases e
          omega)
        first | have f0 := Sat.pf (H) | have f0 := trivial
        first | have f1 := Sat.pf (H.t) | have f1 := trivial
        first | have f2 := Sat.pf (H.t.t) | have f2 := trivial
        first | have f3 := Sat.pf (H.t.t.t) | have f3 := trivial
        repeat' first
          | simp -implicitDefEqProofs (disch := first | omega | decide | exact rfl | assumption | exact Nat.le_of_ble_eq_true rfl | exact One.c | exact One.o) only [vsA, vsB, eq_self, if_true, if_false, implies_true, false_implies, evp, HX.ev, Nat.reduceAdd, HOp.looks, Nat.reduceEqDiff, overw, Nat.reduceBEq, d0, d1, d2, hix, ld, vadd1, ub37, f0, f1, f2, f3]

        exact H.t
  · obtain rfl : i = s.length := by omega
    rw [List.take_length] at ha
    have d0 : decide (((s.length : Nat) : Int) < ((s.length : Nat) : Int)) = false := decide_eq_false (by omega)
    unfold plainB
    rw [ha]
    have d1 : decide (((s.length : Nat) : Int) ≤ 4096) = decide (s.length ≤ 4096) := by simp; omega
    cases e : (s == []) with
    | true =>
      first | have f0 := Sat.pf (H) | have f0 := trivial
      first | have f1 := Sat.pf (H.t) | have f1 := trivial
      first | have f2 := Sat.pf (H.t.t) | have f2 := trivial
      first | have f3 := Sat.pf (H.t.t.t) | have f3 := trivial
      repeat' first
        | simp -implicitDefEqProofs (disch := first | omega | decide | exact rfl | assumption | exact Nat.le_of_ble_eq_true rfl | exact One.c | exact One.o) only [vsA, vsB, eq_self, if_true, if_false, implies_true, false_implies, evp, HX.ev, Nat.reduceAdd, HOp.looks, Nat.reduceEqDiff, overw, Nat.reduceBEq, d0, d1, e, Bool.not_true, Bool.not_false, Bool.false_and, Bool.true_and, Bool.and_false, ub37, f0, f1, f2, f3]

      exact H.t
    | false =>
      first | have f0 := Sat.pf (H) | have f0 := trivial
      first | have f1 := Sat.pf (H.t) | have f1 := trivial
      first | have f2 := Sat.pf (H.t.t) | have f2 := trivial
      first | have f3 := Sat.pf (H.t.t.t) | have f3 := trivial
      repeat' first
        | simp -implicitDefEqProofs (disch := first | omega | decide | exact rfl | assumption | exact Nat.le_of_ble_eq_true rfl | exact One.c | exact One.o) only [vsA, vsB, eq_self, if_true, if_false, implies_true, false_implies, evp, HX.ev, Nat.reduceAdd, HOp.looks, Nat.reduceEqDiff, overw, Nat.reduceBEq, d0, d1, e, Bool.not_true, Bool.not_false, Bool.false_and, Bool.true_and, Bool.and_false, ub37, f0, f1, f2, f3]

      exact H.t
theorem right41 {hs : HS} {l : List SA} (H : Sat hs l) (s : List UInt8) (hs0 : s.length < 4294967281) : HC Tryd.prog 41 [.str s] hs fun v hs' => v = .bool (rightB s) ∧ Sat hs' l := by
  refine HC.wp mixed Tryd.func41 c41 ?_
  first | have f0 := Sat.pf (H) | have f0 := trivial
  first | have f1 := Sat.pf (H.t) | have f1 := trivial
  first | have f2 := Sat.pf (H.t.t) | have f2 := trivial
  first | have f3 := Sat.pf (H.t.t.t) | have f3 := trivial
  repeat' first
    | ((with_reducible show Need _); refine need_of ?_; (first | have f0 := Sat.pf (H) | have f0 := trivial); (first | have f1 := Sat.pf (H.t) | have f1 := trivial); (first | have f2 := Sat.pf (H.t.t) | have f2 := trivial); (first | have f3 := Sat.pf (H.t.t.t) | have f3 := trivial))
    | simp -implicitDefEqProofs (disch := first | omega | decide | exact rfl | assumption | exact Nat.le_of_ble_eq_true rfl | exact One.c | exact One.o) only [vsA, vsB, eq_self, if_true, if_false, implies_true, false_implies, evp, HX.ev, Nat.reduceAdd, HOp.looks, Nat.reduceEqDiff, overw, Nat.reduceBEq, h41, ub41, f0, f1, f2, f3, frame0, List.replicate, Nat.sub]
    | refine opC_K ?_
    | ((with_reducible show opC (hs2b _ _) _); refine sl_s2b H (by omega) ?_; clear H f0 f1 f2 f3; intro w hs H; refine need ?_)

  refine HW.loopA mixed (fun i : Nat => (.str s :: .undef :: .undef :: .undef :: .undef :: .undef :: w :: .int .i64 (s.length : Nat) :: .int .i64 (i : Nat) :: .undef :: .undef :: .undef :: .undef :: .undef :: .undef :: .undef :: .undef :: .undef :: .undef :: .undef :: .undef :: .undef :: .undef :: .undef :: .undef :: .undef :: .undef :: .undef :: .undef :: .undef :: .undef :: .undef :: .undef :: .undef :: .undef :: .undef :: .undef :: .undef :: [])) (fun _ => My 1 w s.length (bcells s) :: l) (fun i => s.length - i) (fun i => i ≤ s.length ∧ (s.take i).all keyC = true) 0 ⟨Nat.zero_le _, rfl⟩ (by (repeat first | exact Less.nil | refine Less.undef _ ?_ | refine Less.keep _ ?_)) H ?_
  clear H
  rintro i hs ⟨hi, ha⟩ H
  by_cases h : i < s.length
  · obtain ⟨c, hc⟩ : ∃ c, s[i]? = some c := ⟨_, List.getElem?_eq_getElem h⟩
    obtain ⟨q, hix, _⟩ := (H.rd).idx1 (bget hc) .i64
    have ld := H.rd.ld1 hix (bget hc)
    have d0 : decide (((i : Nat) : Int) < ((s.length : Nat) : Int)) = true := decide_eq_true (by omega)
    have hp := keyC_iff c
    cases e : keyC c with
    | true =>
      rw [e] at hp
      have hp := hp.1 rfl
      first | have f0 := Sat.pf (H) | have f0 := trivial
      first | have f1 := Sat.pf (H.t) | have f1 := trivial
      first | have f2 := Sat.pf (H.t.t) | have f2 := trivial
      first | have f3 := Sat.pf (H.t.t.t) | have f3 := trivial
      repeat' first
        | simp -implicitDefEqProofs (disch := first | omega | decide | exact rfl | assumption | exact Nat.le_of_ble_eq_true rfl | exact One.c | exact One.o) only [vsA, vsB, eq_self, if_true, if_false, implies_true, false_implies, evp, HX.ev, Nat.reduceAdd, HOp.looks, Nat.reduceEqDiff, overw, Nat.reduceBEq, d0, hix, ld, vadd1, ub41, f0, f1, f2, f3]
        | (refine condK_cases (fun h => ?_) (fun h => ?_) <;> (try simp only [h]) <;> (try simp only [athA, ne_eq] at h) <;> (try (exfalso; omega)))
        | (refine guardK_cases (fun h => ?_) (fun h => ?_) <;> (try simp only [h]) <;> (try simp only [athA, ne_eq] at h) <;> (try (exfalso; omega)))

      all_goals exact ⟨i + 1, _, by omega, ⟨by omega, all_snoc hc e ha⟩, (by (repeat first | exact Less.nil | refine Less.undef _ ?_ | refine Less.keep _ ?_)), Weak.refl _, H⟩
    | false =>
      rw [plain_false_r hc e]
      have hp : ¬ (c.toNat = 45 ∨ (48 ≤ c.toNat ∧ c.toNat ≤ 57) ∨ (97 ≤ c.toNat ∧ c.toNat ≤ 122)) := fun hh => by rw [hp.2 hh] at e; cases e
      first | have f0 := Sat.pf (H) | have f0 := trivial
      first | have f1 := Sat.pf (H.t) | have f1 := trivial
      first | have f2 := Sat.pf (H.t.t) | have f2 := trivial
      first | have f3 := Sat.pf (H.t.t.t) | have f3 := trivial
      repeat' first
        | simp -implicitDefEqProofs (disch := first | omega | decide | exact rfl | assumption | exact Nat.le_of_ble_eq_true rfl | exact One.c | exact One.o) only [vsA, vsB, eq_self, if_true, if_false, implies_true, false_implies, evp, HX.ev, Nat.reduceAdd, HOp.looks, Nat.reduceEqDiff, overw, Nat.reduceBEq, d0, hix, ld, vadd1, ub41, f0, f1, f2, f3]
        | (refine condK_cases (fun h => ?_) (fun h => ?_) <;> (try simp only [h]) <;> (try simp only [athA, ne_eq] at h) <;> (try (exfalso; omega)))
        | (refine guardK_cases (fun h => ?_) (fun h => ?_) <;> (try simp only [h]) <;> (try simp only [athA, ne_eq] at h) <;> (try (exfalso; omega)))

      all_goals exact H.t
  · obtain rfl : i = s.length := by omega
    rw [List.take_length] at ha
    have d0 : decide (((s.length : Nat) : Int) < ((s.length : Nat) : Int)) = false := decide_eq_false (by omega)
    unfold rightB
    rw [ha]
    have d1 : decide (((s.length : Nat) : Int) ≤ 64) = decide (s.length ≤ 64) := by simp; omega
    cases e : (s == []) with
    | true =>
      first | have f0 := Sat.pf (H) | have f0 := trivial
      first | have f1 := Sat.pf (H.t) | have f1 := trivial
      first | have f2 := Sat.pf (H.t.t) | have f2 := trivial
      first | have f3 := Sat.pf (H.t.t.t) | have f3 := trivial
      repeat' first
        | simp -implicitDefEqProofs (disch := first | omega | decide | exact rfl | assumption | exact Nat.le_of_ble_eq_true rfl | exact One.c | exact One.o) only [vsA, vsB, eq_self, if_true, if_false, implies_true, false_implies, evp, HX.ev, Nat.reduceAdd, HOp.looks, Nat.reduceEqDiff, overw, Nat.reduceBEq, d0, d1, e, Bool.not_true, Bool.not_false, Bool.false_and, Bool.true_and, Bool.and_false, ub41, f0, f1, f2, f3]

      exact H.t
    | false =>
      first | have f0 := Sat.pf (H) | have f0 := trivial
      first | have f1 := Sat.pf (H.t) | have f1 := trivial
      first | have f2 := Sat.pf (H.t.t) | have f2 := trivial
      first | have f3 := Sat.pf (H.t.t.t) | have f3 := trivial
      repeat' first
        | simp -implicitDefEqProofs (disch := first | omega | decide | exact rfl | assumption | exact Nat.le_of_ble_eq_true rfl | exact One.c | exact One.o) only [vsA, vsB, eq_self, if_true, if_false, implies_true, false_implies, evp, HX.ev, Nat.reduceAdd, HOp.looks, Nat.reduceEqDiff, overw, Nat.reduceBEq, d0, d1, e, Bool.not_true, Bool.not_false, Bool.false_and, Bool.true_and, Bool.and_false, ub41, f0, f1, f2, f3]

      exact H.t
theorem len1 {s : List UInt8} : decide (1 ≤ ((s.length : Nat) : Int)) = !(s == []) := by
  cases s <;> simp; omega
theorem plain33 {hs : HS} (s : List UInt8) (hs0 : s.length < 9223372036854775808) : HC Tryd.prog 33 [.str s] hs fun v hs' => v = .bool (plainB s) ∧ hs' = hs := by
  refine HC.wp mixed Tryd.func33 c33 ?_
  repeat' first
    | simp -implicitDefEqProofs (disch := first | omega | decide | exact rfl | assumption | exact Nat.le_of_ble_eq_true rfl | exact One.c | exact One.o) only [vsA, vsB, eq_self, if_true, if_false, implies_true, false_implies, evp, HX.ev, Nat.reduceAdd, HOp.looks, Nat.reduceEqDiff, overw, Nat.reduceBEq, h33, ub33, frame0, List.replicate, Nat.sub]

  refine HW.loopR mixed (fun i : Nat => (.str s :: .undef :: .undef :: .int .i64 (i : Nat) :: .undef :: .undef :: .undef :: .undef :: .undef :: .undef :: .undef :: .undef :: .undef :: .undef :: .undef :: .undef :: .undef :: .undef :: .undef :: .undef :: .undef :: .undef :: .undef :: .undef :: .undef :: .undef :: .undef :: .undef :: [])) (fun i => s.length - i) (fun i => i ≤ s.length ∧ (s.take i).all plainC = true) 0 ⟨Nat.zero_le _, rfl⟩ (by (repeat first | exact Less.nil | refine Less.undef _ ?_ | refine Less.keep _ ?_)) ?_
  rintro i ⟨hi, ha⟩
  by_cases h : i < s.length
  · obtain ⟨c, hc⟩ : ∃ c, s[i]? = some c := ⟨_, List.getElem?_eq_getElem h⟩
    have ix := vidxStr_some (k := .i64) hc
    have d0 : decide (((i : Nat) : Int) < ((s.length : Nat) : Int)) = true := decide_eq_true (by omega)
    have hp := plainC_iff c
    cases e : plainC c with
    | true =>
      rw [e] at hp
      have hp := hp.1 rfl
      repeat' first
        | simp -implicitDefEqProofs (disch := first | omega | decide | exact rfl | assumption | exact Nat.le_of_ble_eq_true rfl | exact One.c | exact One.o) only [vsA, vsB, eq_self, if_true, if_false, implies_true, false_implies, evp, HX.ev, Nat.reduceAdd, HOp.looks, Nat.reduceEqDiff, overw, Nat.reduceBEq, d0, ix, vadd1, ub33]
        | (refine condK_cases (fun h => ?_) (fun h => ?_) <;> (try simp only [h]) <;> (try simp only [athA, ne_eq] at h) <;> (try (exfalso; omega)))
        | (refine guardK_cases (fun h => ?_) (fun h => ?_) <;> (try simp only [h]) <;> (try simp only [athA, ne_eq] at h) <;> (try (exfalso; omega)))

      all_goals exact ⟨i + 1, by omega, ⟨by omega, all_snoc hc e ha⟩, (by (repeat first | exact Less.nil | refine Less.undef _ ?_ | refine Less.keep _ ?_))⟩
    | false =>
      rw [plain_false hc e]
      have hp : ¬ (33 ≤ c.toNat ∧ c.toNat ≤ 126) := fun hh => by rw [hp.2 hh] at e; cases e
      repeat' first
        | simp -implicitDefEqProofs (disch := first | omega | decide | exact rfl | assumption | exact Nat.le_of_ble_eq_true rfl | exact One.c | exact One.o) only [vsA, vsB, eq_self, if_true, if_false, implies_true, false_implies, evp, HX.ev, Nat.reduceAdd, HOp.looks, Nat.reduceEqDiff, overw, Nat.reduceBEq, d0, ix, vadd1, ub33]
        | (refine condK_cases (fun h => ?_) (fun h => ?_) <;> (try simp only [h]) <;> (try simp only [athA, ne_eq] at h) <;> (try (exfalso; omega)))
        | (refine guardK_cases (fun h => ?_) (fun h => ?_) <;> (try simp only [h]) <;> (try simp only [athA, ne_eq] at h) <;> (try (exfalso; omega)))

      all_goals exact ⟨rfl, rfl⟩
  · obtain rfl : i = s.length := by omega
    rw [List.take_length] at ha
    have d0 : decide (((s.length : Nat) : Int) < ((s.length : Nat) : Int)) = false := decide_eq_false (by omega)
    unfold plainB
    rw [ha]
    have d1 : decide (((s.length : Nat) : Int) ≤ 4096) = decide (s.length ≤ 4096) := by simp; omega
    have d2 := len1 (s := s)
    cases e : (s == []) with
    | true =>
      rw [e] at d2
      repeat' first
        | simp -implicitDefEqProofs (disch := first | omega | decide | exact rfl | assumption | exact Nat.le_of_ble_eq_true rfl | exact One.c | exact One.o) only [vsA, vsB, eq_self, if_true, if_false, implies_true, false_implies, evp, HX.ev, Nat.reduceAdd, HOp.looks, Nat.reduceEqDiff, overw, Nat.reduceBEq, d0, d1, d2, Bool.not_true, Bool.not_false, Bool.false_and, Bool.true_and, Bool.and_false, ub33]

      all_goals exact ⟨rfl, rfl⟩
    | false =>
      rw [e] at d2
      repeat' first
        | simp -implicitDefEqProofs (disch := first | omega | decide | exact rfl | assumption | exact Nat.le_of_ble_eq_true rfl | exact One.c | exact One.o) only [vsA, vsB, eq_self, if_true, if_false, implies_true, false_implies, evp, HX.ev, Nat.reduceAdd, HOp.looks, Nat.reduceEqDiff, overw, Nat.reduceBEq, d0, d1, d2, Bool.not_true, Bool.not_false, Bool.false_and, Bool.true_and, Bool.and_false, ub33]

      all_goals exact ⟨rfl, rfl⟩
theorem key39 {hs : HS} (s : List UInt8) (hs0 : s.length < 9223372036854775808) : HC Tryd.prog 39 [.str s] hs fun v hs' => v = .bool (rightB s) ∧ hs' = hs := by
  refine HC.wp mixed Tryd.func39 c39 ?_
  repeat' first
    | simp -implicitDefEqProofs (disch := first | omega | decide | exact rfl | assumption | exact Nat.le_of_ble_eq_true rfl | exact One.c | exact One.o) only [vsA, vsB, eq_self, if_true, if_false, implies_true, false_implies, evp, HX.ev, Nat.reduceAdd, HOp.looks, Nat.reduceEqDiff, overw, Nat.reduceBEq, h39, ub39, frame0, List.replicate, Nat.sub]

  refine HW.loopR mixed (fun i : Nat => (.str s :: .undef :: .undef :: .int .i64 (i : Nat) :: .undef :: .undef :: .undef :: .undef :: .undef :: .undef :: .undef :: .undef :: .undef :: .undef :: .undef :: .undef :: .undef :: .undef :: .undef :: .undef :: .undef :: .undef :: .undef :: .undef :: .undef :: .undef :: .undef :: .undef :: .undef :: .undef :: .undef :: .undef :: .undef :: .undef :: .undef :: .undef :: .undef :: .undef :: .undef :: .undef :: .undef :: [])) (fun i => s.length - i) (fun i => i ≤ s.length ∧ (s.take i).all keyC = true) 0 ⟨Nat.zero_le _, rfl⟩ (by (repeat first | exact Less.nil | refine Less.undef _ ?_ | refine Less.keep _ ?_)) ?_
  rintro i ⟨hi, ha⟩
  by_cases h : i < s.length
  · obtain ⟨c, hc⟩ : ∃ c, s[i]? = some c := ⟨_, List.getElem?_eq_getElem h⟩
    have ix := vidxStr_some (k := .i64) hc
    have d0 : decide (((i : Nat) : Int) < ((s.length : Nat) : Int)) = true := decide_eq_true (by omega)
    have hp := keyC_iff c
    cases e : keyC c with
    | true =>
      rw [e] at hp
      have hp := hp.1 rfl
      repeat' first
        | simp -implicitDefEqProofs (disch := first | omega | decide | exact rfl | assumption | exact Nat.le_of_ble_eq_true rfl | exact One.c | exact One.o) only [vsA, vsB, eq_self, if_true, if_false, implies_true, false_implies, evp, HX.ev, Nat.reduceAdd, HOp.looks, Nat.reduceEqDiff, overw, Nat.reduceBEq, d0, ix, vadd1, ub39]
        | (refine condK_cases (fun h => ?_) (fun h => ?_) <;> (try simp only [h]) <;> (try simp only [athA, ne_eq] at h) <;> (try (exfalso; omega)))
        | (refine guardK_cases (fun h => ?_) (fun h => ?_) <;> (try simp only [h]) <;> (try simp only [athA, ne_eq] at h) <;> (try (exfalso; omega)))

      all_goals exact ⟨i + 1, by omega, ⟨by omega, all_snoc hc e ha⟩, (by (repeat first | exact Less.nil | refine Less.undef _ ?_ | refine Less.keep _ ?_))⟩
    | false =>
      rw [plain_false_r hc e]
      have hp : ¬ (c.toNat = 45 ∨ (48 ≤ c.toNat ∧ c.toNat ≤ 57) ∨ (97 ≤ c.toNat ∧ c.toNat ≤ 122)) := fun hh => by rw [hp.2 hh] at e; cases e
      repeat' first
        | simp -implicitDefEqProofs (disch := first | omega | decide | exact rfl | assumption | exact Nat.le_of_ble_eq_true rfl | exact One.c | exact One.o) only [vsA, vsB, eq_self, if_true, if_false, implies_true, false_implies, evp, HX.ev, Nat.reduceAdd, HOp.looks, Nat.reduceEqDiff, overw, Nat.reduceBEq, d0, ix, vadd1, ub39]
        | (refine condK_cases (fun h => ?_) (fun h => ?_) <;> (try simp only [h]) <;> (try simp only [athA, ne_eq] at h) <;> (try (exfalso; omega)))
        | (refine guardK_cases (fun h => ?_) (fun h => ?_) <;> (try simp only [h]) <;> (try simp only [athA, ne_eq] at h) <;> (try (exfalso; omega)))

      all_goals exact ⟨rfl, rfl⟩
  · obtain rfl : i = s.length := by omega
    rw [List.take_length] at ha
    have d0 : decide (((s.length : Nat) : Int) < ((s.length : Nat) : Int)) = false := decide_eq_false (by omega)
    unfold rightB
    rw [ha]
    have d1 : decide (((s.length : Nat) : Int) ≤ 64) = decide (s.length ≤ 64) := by simp; omega
    have d2 := len1 (s := s)
    cases e : (s == []) with
    | true =>
      rw [e] at d2
      repeat' first
        | simp -implicitDefEqProofs (disch := first | omega | decide | exact rfl | assumption | exact Nat.le_of_ble_eq_true rfl | exact One.c | exact One.o) only [vsA, vsB, eq_self, if_true, if_false, implies_true, false_implies, evp, HX.ev, Nat.reduceAdd, HOp.looks, Nat.reduceEqDiff, overw, Nat.reduceBEq, d0, d1, d2, Bool.not_true, Bool.not_false, Bool.false_and, Bool.true_and, Bool.and_false, ub39]

      all_goals exact ⟨rfl, rfl⟩
    | false =>
      rw [e] at d2
      repeat' first
        | simp -implicitDefEqProofs (disch := first | omega | decide | exact rfl | assumption | exact Nat.le_of_ble_eq_true rfl | exact One.c | exact One.o) only [vsA, vsB, eq_self, if_true, if_false, implies_true, false_implies, evp, HX.ev, Nat.reduceAdd, HOp.looks, Nat.reduceEqDiff, overw, Nat.reduceBEq, d0, d1, d2, Bool.not_true, Bool.not_false, Bool.false_and, Bool.true_and, Bool.and_false, ub39]

      all_goals exact ⟨rfl, rfl⟩
/-- a pair's cells. -/
def prC (p : Pr) : List HV := [.str p.1, .str p.2]
theorem hasB_snoc {D : List Pr} {i : Nat} {p : Pr} {k : List UInt8} (h : D[i]? = some p) (hp : (p.1 == k) = false) (ha : hasB (D.take i) k = false) : hasB (D.take (i + 1)) k = false := by
  unfold hasB at ha ⊢
  rw [List.take_add_one, h, List.any_append, ha]; simp [hp]
theorem hasB_true {D : List Pr} {i : Nat} {p : Pr} {k : List UInt8} (h : D[i]? = some p) (hp : (p.1 == k) = true) : hasB D k = true := by
  unfold hasB
  rw [List.any_eq_true]
  exact ⟨p, List.mem_of_getElem? h, hp⟩
theorem has42 {hs : HS} {l : List SA} {v : HV} {D : List Pr} (H : Sat hs l) (R : ∀ hs, Sat hs l → Rd hs 2 v D.length (D.flatMap prC)) (k : List UInt8) (hD : D.length < 1099511627776) : HC Tryd.prog 42 [v, .str k] hs fun r hs' => r = .bool (hasB D k) ∧ Sat hs' l := by
  have one := (R _ H).one
  have cel := (R _ H).cells
  have len := (R _ H).len
  refine HC.wp mixed Tryd.func42 c42 ?_
  first | have f0 := Sat.pf (H) | have f0 := trivial
  first | have f1 := Sat.pf (H.t) | have f1 := trivial
  first | have f2 := Sat.pf (H.t.t) | have f2 := trivial
  first | have f3 := Sat.pf (H.t.t.t) | have f3 := trivial
  repeat' first
    | simp -implicitDefEqProofs (disch := first | omega | decide | exact rfl | assumption | exact Nat.le_of_ble_eq_true rfl | exact One.c | exact One.o) only [vsA, vsB, eq_self, if_true, if_false, implies_true, false_implies, evp, HX.ev, Nat.reduceAdd, HOp.looks, Nat.reduceEqDiff, overw, Nat.reduceBEq, h42, one, cel, len, ub42, f0, f1, f2, f3, frame0, List.replicate, Nat.sub]

  refine HW.loopA mixed (fun i : Nat => (.undef :: .str k :: .undef :: .undef :: .undef :: .undef :: .undef :: v :: .int .i64 (D.length : Nat) :: .int .i64 (i : Nat) :: .undef :: .undef :: .undef :: .undef :: .undef :: .undef :: .undef :: .undef :: [])) (fun _ => l) (fun i => D.length - i) (fun i => i ≤ D.length ∧ hasB (D.take i) k = false) 0 ⟨Nat.zero_le _, rfl⟩ (by (repeat first | exact Less.nil | refine Less.undef _ ?_ | refine Less.keep _ ?_)) H ?_
  clear H
  rintro i hs ⟨hi, ha⟩ H
  by_cases h : i < D.length
  · obtain ⟨p, hp⟩ : ∃ p, D[i]? = some p := ⟨_, List.getElem?_eq_getElem h⟩
    obtain ⟨hh, oo, hix, _, hld⟩ := (R _ H).idxF (s := 2) (fun _ => rfl) rfl hp .i64
    have so := (R _ H).sOk
    unfold prC at hld
    have d0 : decide (((i : Nat) : Int) < ((D.length : Nat) : Int)) = true := decide_eq_true (by omega)
    cases e : (p.1 == k) with
    | true =>
      rw [hasB_true hp e]
      first | have f0 := Sat.pf (H) | have f0 := trivial
      first | have f1 := Sat.pf (H.t) | have f1 := trivial
      first | have f2 := Sat.pf (H.t.t) | have f2 := trivial
      first | have f3 := Sat.pf (H.t.t.t) | have f3 := trivial
      repeat' first
        | ((with_reducible show Need _); refine need_of ?_; (first | have f0 := Sat.pf (H) | have f0 := trivial); (first | have f1 := Sat.pf (H.t) | have f1 := trivial); (first | have f2 := Sat.pf (H.t.t) | have f2 := trivial); (first | have f3 := Sat.pf (H.t.t.t) | have f3 := trivial))
        | simp -implicitDefEqProofs (disch := first | omega | decide | exact rfl | assumption | exact Nat.le_of_ble_eq_true rfl | exact One.c | exact One.o) only [vsA, vsB, eq_self, if_true, if_false, implies_true, false_implies, evp, HX.ev, Nat.reduceAdd, HOp.looks, Nat.reduceEqDiff, overw, Nat.reduceBEq, one, cel, len, hix, hld, so, d0, e, vadd1, va_ldA, va_loadA, ub42, f0, f1, f2, f3]
        | (clear H f0 f1 f2 f3; (with_reducible intro v2 hs H); (try simp only [setA, overw, Nat.reduceAdd] at H); refine need ?_)
        | refine opC_K ?_
        | ((with_reducible show opC (unit (hstore _ _ _ _)) _); refine sl_storeN (by with_reducible first | exact H | exact H.p1 | exact H.p2 | exact H.p3) rfl (Nat.le_of_ble_eq_true rfl) (by first | exact rfl | (simp only [f0, f1, f2, f3]; done) | (simp only [onA, *]; done)) ?_)
        | ((with_reducible show opC (hbox _ _) _); refine sl_boxA H (by first | exact rfl | (simp only [f0, f1, f2, f3]; done) | (simp only [onA, *]; done)) ?_)

      exact H.t
    | false =>
      first | have f0 := Sat.pf (H) | have f0 := trivial
      first | have f1 := Sat.pf (H.t) | have f1 := trivial
      first | have f2 := Sat.pf (H.t.t) | have f2 := trivial
      first | have f3 := Sat.pf (H.t.t.t) | have f3 := trivial
      repeat' first
        | ((with_reducible show Need _); refine need_of ?_; (first | have f0 := Sat.pf (H) | have f0 := trivial); (first | have f1 := Sat.pf (H.t) | have f1 := trivial); (first | have f2 := Sat.pf (H.t.t) | have f2 := trivial); (first | have f3 := Sat.pf (H.t.t.t) | have f3 := trivial))
        | simp -implicitDefEqProofs (disch := first | omega | decide | exact rfl | assumption | exact Nat.le_of_ble_eq_true rfl | exact One.c | exact One.o) only [vsA, vsB, eq_self, if_true, if_false, implies_true, false_implies, evp, HX.ev, Nat.reduceAdd, HOp.looks, Nat.reduceEqDiff, overw, Nat.reduceBEq, one, cel, len, hix, hld, so, d0, e, vadd1, va_ldA, va_loadA, ub42, f0, f1, f2, f3]
        | (clear H f0 f1 f2 f3; (with_reducible intro v2 hs H); (try simp only [setA, overw, Nat.reduceAdd] at H); refine need ?_)
        | refine opC_K ?_
        | ((with_reducible show opC (unit (hstore _ _ _ _)) _); refine sl_storeN (by with_reducible first | exact H | exact H.p1 | exact H.p2 | exact H.p3) rfl (Nat.le_of_ble_eq_true rfl) (by first | exact rfl | (simp only [f0, f1, f2, f3]; done) | (simp only [onA, *]; done)) ?_)
        | ((with_reducible show opC (hbox _ _) _); refine sl_boxA H (by first | exact rfl | (simp only [f0, f1, f2, f3]; done) | (simp only [onA, *]; done)) ?_)

      exact ⟨i + 1, _, by omega, ⟨by omega, hasB_snoc hp e ha⟩, (by (repeat first | exact Less.nil | refine Less.undef _ ?_ | refine Less.keep _ ?_)), Weak.refl _, H.t⟩
  · obtain rfl : i = D.length := by omega
    rw [List.take_length] at ha
    rw [ha]
    have d0 : decide (((D.length : Nat) : Int) < ((D.length : Nat) : Int)) = false := decide_eq_false (by omega)
    first | have f0 := Sat.pf (H) | have f0 := trivial
    first | have f1 := Sat.pf (H.t) | have f1 := trivial
    first | have f2 := Sat.pf (H.t.t) | have f2 := trivial
    first | have f3 := Sat.pf (H.t.t.t) | have f3 := trivial
    repeat' first
      | simp -implicitDefEqProofs (disch := first | omega | decide | exact rfl | assumption | exact Nat.le_of_ble_eq_true rfl | exact One.c | exact One.o) only [vsA, vsB, eq_self, if_true, if_false, implies_true, false_implies, evp, HX.ev, Nat.reduceAdd, HOp.looks, Nat.reduceEqDiff, overw, Nat.reduceBEq, one, cel, len, d0, ub42, f0, f1, f2, f3]

    exact H
end A
end Go.Proofs.YteedmbmgemiheaaDoor
namespace Go.Proofs.YteedmbmgemiheaaDoor
open Go Go.HL Go.Shelf Y
namespace A
set_option maxRecDepth 100000
set_option maxHeartbeats 40000000
set_option linter.unusedSimpArgs false
attribute [local irreducible] pt My Ex Vw Gr GrK each grp exs Sat takeCells happend hbuildSlice hstore hbox hslice hmakeSlice hs2b hcopy HL.unit opC
theorem rd_b2sK {hs : HS} {v : HV} {n : Nat} {b : List UInt8} (R : Rd hs 1 v n (bcells b)) : b2sK hs v = some (.str b, hs) := by
  have h := rd_b2s (fr := []) (x := .cst v) rfl R
  rw [vo_b2s] at h; exact h
theorem listGo_nil {n : Nat} : listGo n [] = some [] := by cases n <;> simp [listGo]
theorem rd_two {hs : HS} {v a b : HV} (R : Rd hs 1 v 2 [a, b]) : ∃ q0 q1, hindexAddr 1 v (.int .i64 0) = some q0 ∧ hload none hs q0 = some a ∧ hindexAddr 1 v (.int .i64 1) = some q1 ∧ hload none hs q1 = some b := by
  obtain ⟨q0, h0, h1⟩ := R.idx1 (i := 0) rfl .i64
  obtain ⟨q1, h2, h3⟩ := R.idx1 (i := 1) rfl .i64
  exact ⟨q0, q1, h0, h1, h2, h3⟩
theorem z01 : hbin .add none (.int .i64 0) (.int .i64 1) = some (.int .i64 1) := rfl
theorem z12 : hbin .add none (.int .i64 1) (.int .i64 1) = some (.int .i64 2) := rfl
def okI (b : Bool) : Int := if b = true then 0 else 92
theorem readList15 {hs : HS} {l : List SA} {bv : HV} {b : List UInt8} (H : Sat hs l) (R : Rdl l bv b.length (bcells b)) (G : ∀ hs, Sat hs l → hs[0]? = some (some (HB.gint 1))) (hb : b.length < 1073741824) :
    HC Tryd.prog 15 [bv] hs fun v hs' => ∃ w, v = .tup [w, .int .i64 (okI (readL b).isSome)] ∧ Sat hs' (Ex 1 w ((readL b).getD []).length (((readL b).getD []).map HV.str) :: l) := by
  have hmax : maxLen = 9223372036854775807 := rfl
  have one := (R _ H).one
  have cel := (R _ H).cells
  have rs := rd_b2sK (R _ H)
  obtain ⟨tot, htot⟩ : ∃ tot, tot = readL b := ⟨_, rfl⟩
  rw [← htot]
  refine HC.wp mixed Tryd.func15 c15 ?_
  first | have f0 := Sat.pf (H) | have f0 := trivial
  first | have f1 := Sat.pf (H.t) | have f1 := trivial
  first | have f2 := Sat.pf (H.t.t) | have f2 := trivial
  first | have f3 := Sat.pf (H.t.t.t) | have f3 := trivial
  first | have f4 := Sat.pf (H.t.t.t.t) | have f4 := trivial
  first | have f5 := Sat.pf (H.t.t.t.t.t) | have f5 := trivial
  repeat' first
    | ((with_reducible show Need _); refine need_of ?_; (first | have f0 := Sat.pf (H) | have f0 := trivial); (first | have f1 := Sat.pf (H.t) | have f1 := trivial); (first | have f2 := Sat.pf (H.t.t) | have f2 := trivial); (first | have f3 := Sat.pf (H.t.t.t) | have f3 := trivial); (first | have f4 := Sat.pf (H.t.t.t.t) | have f4 := trivial); (first | have f5 := Sat.pf (H.t.t.t.t.t) | have f5 := trivial))
    | simp -implicitDefEqProofs (disch := first | omega | decide | exact rfl | assumption | exact Nat.le_of_ble_eq_true rfl | exact One.c | exact One.o) only [vsA, vsB, eq_self, if_true, if_false, implies_true, false_implies, evp, HX.ev, Nat.reduceAdd, HOp.looks, Nat.reduceEqDiff, overw, Nat.reduceBEq, h15, one, cel, rs, ub15, f0, f1, f2, f3, f4, f5, frame0, List.replicate, Nat.sub]
    | (refine condK_cases (fun h => ?_) (fun h => ?_) <;> (try simp only [h]) <;> (try simp only [athA, ne_eq] at h) <;> (try (exfalso; omega)))
    | (refine guardK_cases (fun h => ?_) (fun h => ?_) <;> (try simp only [h]) <;> (try simp only [athA, ne_eq] at h) <;> (try (exfalso; omega)))
    | (clear H f0 f1 f2 f3 f4 f5; (with_reducible intro v2 hs H); (try simp only [setA, overw, Nat.reduceAdd] at H); refine need ?_)
    | ((with_reducible show actK _ (HAct.call (HX.cst (HV.func (Fn.func 34) _ _)) _) _ _ _ _ _); refine vcall_of ok34 rfl (cutPre34 b head9) ?_; rintro _ _ ⟨rfl, rfl⟩)
    | refine opC_K ?_
    | ((with_reducible show opC (happend _ _ _ _ _) _); refine sl_append (by with_reducible first | exact H | exact H.p1 | exact H.p2 | exact H.p3 | exact H.p4 | exact H.p5) (by first | assumption | with_reducible first | exact f0.2.1 | exact f1.2.1 | exact f2.2.1 | exact f3.2.1 | exact f4.2.1 | exact f5.2.1 | exact va_takeS) (by first | exact roomFor_of (by omega) | exact roomFor_wide (by omega)) (by omega) ?_)
    | ((with_reducible show opC (happend _ _ _ _ _) _); refine sl_append0X H (by first | assumption | with_reducible first | exact f0.2.1 | exact f1.2.1 | exact f2.2.1 | exact f3.2.1 | exact f4.2.1 | exact f5.2.1 | exact va_takeS) (by first | exact roomFor_of (by omega) | exact roomFor_wide (by omega)) (by omega) ?_)
    | ((with_reducible show opC (happend _ _ _ _ _) _); refine sl_appendX (by with_reducible first | exact H | exact H.p1 | exact H.p2 | exact H.p3 | exact H.p4 | exact H.p5) (by first | assumption | with_reducible first | exact f0.2.1 | exact f1.2.1 | exact f2.2.1 | exact f3.2.1 | exact f4.2.1 | exact f5.2.1 | exact va_takeS) (by first | exact roomFor_of (by omega) | exact roomFor_wide (by omega)) (by omega) ?_)
    | ((with_reducible show opC (hbuildSlice _ _ _ _ _) _); refine sl_bslice1 H rfl (by first | exact rfl | (simp only [f0, f1, f2, f3, f4, f5]; done) | (simp only [onA, *]; done)) (by first | exact rfl | (simp only [f0, f1, f2, f3, f4, f5]; done) | (simp only [onA, *]; done)) ?_)
    | with_reducible intro hy

  refine HW.loopA mixed (fun t : List UInt8 × Bool × HV × List (List UInt8) => (.undef :: .undef :: .undef :: .undef :: .str t.1 :: .bool t.2.1 :: t.2.2.1 :: .undef :: .undef :: .undef :: .undef :: .undef :: .undef :: .undef :: .undef :: .undef :: .undef :: .undef :: .undef :: .undef :: .undef :: .undef :: .undef :: .undef :: .undef :: .undef :: .undef :: .undef :: .undef :: .undef :: .undef :: .undef :: .undef :: .undef :: .undef :: .undef :: .undef :: .undef :: .undef :: .undef :: .undef :: .undef :: .undef :: .undef :: .undef :: .undef :: .undef :: .undef :: .undef :: .undef :: .undef :: .undef :: .undef :: .undef :: .undef :: [])) (fun t => Ex 1 t.2.2.1 t.2.2.2.length (t.2.2.2.map HV.str) :: l) (fun t => t.1.length)
    (fun t => t.2.2.2.length + t.1.length ≤ b.length ∧ ((t.2.1 = false ∧ tot = none) ∨ (t.2.1 = true ∧ ∃ n, t.1.length ≤ n ∧ (listGo n t.1).map (t.2.2.2 ++ ·) = tot)))
    ((if b.take 4 = head9 then b.drop 4 else b), (b.take 4 == head9), .nilSlice, []) ?_ (by (repeat first | exact Less.nil | refine Less.undef _ ?_ | refine Less.keep _ ?_)) H.ex0 ?_
  · refine ⟨by simp only; split <;> simp, ?_⟩
    by_cases h : b.take 4 = head9
    · refine .inr ⟨by simpa using h, b.length, by simp only [if_pos h]; simp, ?_⟩
      rw [htot]; unfold readL
      simp only [if_pos h]
      cases listGo b.length (b.drop 4) <;> simp
    · refine .inl ⟨by simpa using h, ?_⟩
      rw [htot]; unfold readL
      rw [if_neg h]
  clear H
  rintro ⟨rest, ok, w, out⟩ hs ⟨hlen, hinv⟩ H
  simp only at hlen hinv H
  have ow := H.rdX.one
  have owc := H.rdX.cells
  rcases hinv with ⟨rfl, rfl⟩ | ⟨rfl, n, hn, hgo⟩
  · skip
    first | have f0 := Sat.pf (H) | have f0 := trivial
    first | have f1 := Sat.pf (H.t) | have f1 := trivial
    first | have f2 := Sat.pf (H.t.t) | have f2 := trivial
    first | have f3 := Sat.pf (H.t.t.t) | have f3 := trivial
    first | have f4 := Sat.pf (H.t.t.t.t) | have f4 := trivial
    first | have f5 := Sat.pf (H.t.t.t.t.t) | have f5 := trivial
    repeat' first
      | ((with_reducible show Need _); refine need_of ?_; (first | have f0 := Sat.pf (H) | have f0 := trivial); (first | have f1 := Sat.pf (H.t) | have f1 := trivial); (first | have f2 := Sat.pf (H.t.t) | have f2 := trivial); (first | have f3 := Sat.pf (H.t.t.t) | have f3 := trivial); (first | have f4 := Sat.pf (H.t.t.t.t) | have f4 := trivial); (first | have f5 := Sat.pf (H.t.t.t.t.t) | have f5 := trivial))
      | simp -implicitDefEqProofs (disch := first | omega | decide | exact rfl | assumption | exact Nat.le_of_ble_eq_true rfl | exact One.c | exact One.o) only [vsA, vsB, eq_self, if_true, if_false, implies_true, false_implies, evp, HX.ev, Nat.reduceAdd, HOp.looks, Nat.reduceEqDiff, overw, Nat.reduceBEq, ow, owc, ub15, f0, f1, f2, f3, f4, f5]
      | (refine condK_cases (fun h => ?_) (fun h => ?_) <;> (try simp only [h]) <;> (try simp only [athA, ne_eq] at h) <;> (try (exfalso; omega)))
      | (refine guardK_cases (fun h => ?_) (fun h => ?_) <;> (try simp only [h]) <;> (try simp only [athA, ne_eq] at h) <;> (try (exfalso; omega)))
      | (clear H f0 f1 f2 f3 f4 f5; (with_reducible intro v2 hs H); (try simp only [setA, overw, Nat.reduceAdd] at H); refine need ?_)
      | refine opC_K ?_
      | ((with_reducible show opC (happend _ _ _ _ _) _); refine sl_append (by with_reducible first | exact H | exact H.p1 | exact H.p2 | exact H.p3 | exact H.p4 | exact H.p5) (by first | assumption | with_reducible first | exact f0.2.1 | exact f1.2.1 | exact f2.2.1 | exact f3.2.1 | exact f4.2.1 | exact f5.2.1 | exact va_takeS) (by first | exact roomFor_of (by omega) | exact roomFor_wide (by omega)) (by omega) ?_)
      | ((with_reducible show opC (happend _ _ _ _ _) _); refine sl_append0X H (by first | assumption | with_reducible first | exact f0.2.1 | exact f1.2.1 | exact f2.2.1 | exact f3.2.1 | exact f4.2.1 | exact f5.2.1 | exact va_takeS) (by first | exact roomFor_of (by omega) | exact roomFor_wide (by omega)) (by omega) ?_)
      | ((with_reducible show opC (happend _ _ _ _ _) _); refine sl_appendX (by with_reducible first | exact H | exact H.p1 | exact H.p2 | exact H.p3 | exact H.p4 | exact H.p5) (by first | assumption | with_reducible first | exact f0.2.1 | exact f1.2.1 | exact f2.2.1 | exact f3.2.1 | exact f4.2.1 | exact f5.2.1 | exact va_takeS) (by first | exact roomFor_of (by omega) | exact roomFor_wide (by omega)) (by omega) ?_)
      | ((with_reducible show opC (hbuildSlice _ _ _ _ _) _); refine sl_bslice1 H rfl (by first | exact rfl | (simp only [f0, f1, f2, f3, f4, f5]; done) | (simp only [onA, *]; done)) (by first | exact rfl | (simp only [f0, f1, f2, f3, f4, f5]; done) | (simp only [onA, *]; done)) ?_)
      | with_reducible intro hy

    exact ⟨.nilSlice, rfl, H.t.ex0⟩
  · cases e : (rest == []) with
    | true =>
      have e0 : rest = [] := by simpa using e
      subst e0
      rw [listGo_nil] at hgo
      simp only [Option.map_some, List.append_nil] at hgo
      subst hgo
      first | have f0 := Sat.pf (H) | have f0 := trivial
      first | have f1 := Sat.pf (H.t) | have f1 := trivial
      first | have f2 := Sat.pf (H.t.t) | have f2 := trivial
      first | have f3 := Sat.pf (H.t.t.t) | have f3 := trivial
      first | have f4 := Sat.pf (H.t.t.t.t) | have f4 := trivial
      first | have f5 := Sat.pf (H.t.t.t.t.t) | have f5 := trivial
      repeat' first
        | ((with_reducible show Need _); refine need_of ?_; (first | have f0 := Sat.pf (H) | have f0 := trivial); (first | have f1 := Sat.pf (H.t) | have f1 := trivial); (first | have f2 := Sat.pf (H.t.t) | have f2 := trivial); (first | have f3 := Sat.pf (H.t.t.t) | have f3 := trivial); (first | have f4 := Sat.pf (H.t.t.t.t) | have f4 := trivial); (first | have f5 := Sat.pf (H.t.t.t.t.t) | have f5 := trivial))
        | simp -implicitDefEqProofs (disch := first | omega | decide | exact rfl | assumption | exact Nat.le_of_ble_eq_true rfl | exact One.c | exact One.o) only [vsA, vsB, eq_self, if_true, if_false, implies_true, false_implies, evp, HX.ev, Nat.reduceAdd, HOp.looks, Nat.reduceEqDiff, overw, Nat.reduceBEq, ow, owc, e, Bool.not_true, Bool.not_false, ub15, f0, f1, f2, f3, f4, f5]
        | (refine condK_cases (fun h => ?_) (fun h => ?_) <;> (try simp only [h]) <;> (try simp only [athA, ne_eq] at h) <;> (try (exfalso; omega)))
        | (refine guardK_cases (fun h => ?_) (fun h => ?_) <;> (try simp only [h]) <;> (try simp only [athA, ne_eq] at h) <;> (try (exfalso; omega)))
        | (clear H f0 f1 f2 f3 f4 f5; (with_reducible intro v2 hs H); (try simp only [setA, overw, Nat.reduceAdd] at H); refine need ?_)
        | refine opC_K ?_
        | ((with_reducible show opC (happend _ _ _ _ _) _); refine sl_append (by with_reducible first | exact H | exact H.p1 | exact H.p2 | exact H.p3 | exact H.p4 | exact H.p5) (by first | assumption | with_reducible first | exact f0.2.1 | exact f1.2.1 | exact f2.2.1 | exact f3.2.1 | exact f4.2.1 | exact f5.2.1 | exact va_takeS) (by first | exact roomFor_of (by omega) | exact roomFor_wide (by omega)) (by omega) ?_)
        | ((with_reducible show opC (happend _ _ _ _ _) _); refine sl_append0X H (by first | assumption | with_reducible first | exact f0.2.1 | exact f1.2.1 | exact f2.2.1 | exact f3.2.1 | exact f4.2.1 | exact f5.2.1 | exact va_takeS) (by first | exact roomFor_of (by omega) | exact roomFor_wide (by omega)) (by omega) ?_)
        | ((with_reducible show opC (happend _ _ _ _ _) _); refine sl_appendX (by with_reducible first | exact H | exact H.p1 | exact H.p2 | exact H.p3 | exact H.p4 | exact H.p5) (by first | assumption | with_reducible first | exact f0.2.1 | exact f1.2.1 | exact f2.2.1 | exact f3.2.1 | exact f4.2.1 | exact f5.2.1 | exact va_takeS) (by first | exact roomFor_of (by omega) | exact roomFor_wide (by omega)) (by omega) ?_)
        | ((with_reducible show opC (hbuildSlice _ _ _ _ _) _); refine sl_bslice1 H rfl (by first | exact rfl | (simp only [f0, f1, f2, f3, f4, f5]; done) | (simp only [onA, *]; done)) (by first | exact rfl | (simp only [f0, f1, f2, f3, f4, f5]; done) | (simp only [onA, *]; done)) ?_)
        | with_reducible intro hy

      exact ⟨w, rfl, H⟩
    | false =>
      have e0 : rest ≠ [] := by simpa using e
      have hcs : cutS [10] rest = cutAt 10 rest := cutS_one 10 rest
      have hl : rest.length < 4294967281 := by omega
      obtain ⟨m, rfl⟩ : ∃ m, n = m + 1 := ⟨n - 1, by have := List.length_pos_iff.2 e0; omega⟩
      unfold listGo at hgo
      rw [if_neg e0] at hgo
      cases hc : cutAt 10 rest with
      | none =>
        rw [hc] at hgo hcs
        simp only [Option.map_none] at hgo
        subst hgo
        have hcv : cutV [10] rest = .tup [.str rest, .str [], .bool false] := by unfold cutV; rw [hcs]
        have q1 := True.intro
        have q2 := True.intro
        have q3 := True.intro
        have q4 := True.intro
        first | have f0 := Sat.pf (H) | have f0 := trivial
        first | have f1 := Sat.pf (H.t) | have f1 := trivial
        first | have f2 := Sat.pf (H.t.t) | have f2 := trivial
        first | have f3 := Sat.pf (H.t.t.t) | have f3 := trivial
        first | have f4 := Sat.pf (H.t.t.t.t) | have f4 := trivial
        first | have f5 := Sat.pf (H.t.t.t.t.t) | have f5 := trivial
        repeat' first
          | ((with_reducible show Need _); refine need_of ?_; (first | have f0 := Sat.pf (H) | have f0 := trivial); (first | have f1 := Sat.pf (H.t) | have f1 := trivial); (first | have f2 := Sat.pf (H.t.t) | have f2 := trivial); (first | have f3 := Sat.pf (H.t.t.t) | have f3 := trivial); (first | have f4 := Sat.pf (H.t.t.t.t) | have f4 := trivial); (first | have f5 := Sat.pf (H.t.t.t.t.t) | have f5 := trivial))
          | simp -implicitDefEqProofs (disch := first | omega | decide | exact rfl | assumption | exact Nat.le_of_ble_eq_true rfl | exact One.c | exact One.o) only [vsA, vsB, eq_self, if_true, if_false, implies_true, false_implies, evp, HX.ev, Nat.reduceAdd, HOp.looks, Nat.reduceEqDiff, overw, Nat.reduceBEq, ow, owc, e, q1, q2, q3, q4, z01, z12, lr_succ, Bool.not_true, Bool.not_false, ub15, f0, f1, f2, f3, f4, f5]
          | (refine condK_cases (fun h => ?_) (fun h => ?_) <;> (try simp only [h]) <;> (try simp only [athA, ne_eq] at h) <;> (try (exfalso; omega)))
          | (refine guardK_cases (fun h => ?_) (fun h => ?_) <;> (try simp only [h]) <;> (try simp only [athA, ne_eq] at h) <;> (try (exfalso; omega)))
          | (clear H f0 f1 f2 f3 f4 f5; (with_reducible intro v2 hs H); (try simp only [setA, overw, Nat.reduceAdd] at H); refine need ?_)
          | ((with_reducible show actK _ (HAct.call (HX.cst (HV.func (Fn.func 35) _ _)) _) _ _ _ _ _); refine vcall_of ok35 rfl (cut35 (G _ (by with_reducible first | exact H.t | exact H.t.t | exact H.t.t.t | exact H.t.t.t.t | exact H.t.t.t.t.t | exact H.t.t.t.t.t.t | exact H.t.t.t.t.t.t.t | exact H.t.t.t.t.t.t.t.t)) rest hl) ?_;  (rw [hcv]; rintro _ _ ⟨rfl, rfl⟩))
          | ((with_reducible show actK _ (HAct.call (HX.cst (HV.func (Fn.func 36) _ _)) _) _ _ _ _ _); refine vcall_of ok36 rfl (pre36 rest [45, 32]) ?_; rintro _ _ ⟨rfl, rfl⟩)
          | refine opC_K ?_
          | ((with_reducible show opC (hbuildSlice _ _ _ _ _) _); refine sl_bsliceK H rfl rfl (by omega) rfl rfl ?_; clear H f0 f1 f2 f3 f4 f5; intro y hs H; obtain ⟨a0, a1, q1, q2, q3, q4⟩ := rd_two H.rd; refine need ?_)
          | (refine HW.rounds mixed 3 ?_)
          | ((with_reducible show opC (happend _ _ _ _ _) _); refine sl_append (by with_reducible first | exact H | exact H.p1 | exact H.p2 | exact H.p3 | exact H.p4 | exact H.p5) (by first | assumption | with_reducible first | exact f0.2.1 | exact f1.2.1 | exact f2.2.1 | exact f3.2.1 | exact f4.2.1 | exact f5.2.1 | exact va_takeS) (by first | exact roomFor_of (by omega) | exact roomFor_wide (by omega)) (by omega) ?_)
          | ((with_reducible show opC (happend _ _ _ _ _) _); refine sl_append0X H (by first | assumption | with_reducible first | exact f0.2.1 | exact f1.2.1 | exact f2.2.1 | exact f3.2.1 | exact f4.2.1 | exact f5.2.1 | exact va_takeS) (by first | exact roomFor_of (by omega) | exact roomFor_wide (by omega)) (by omega) ?_)
          | ((with_reducible show opC (happend _ _ _ _ _) _); refine sl_appendX (by with_reducible first | exact H | exact H.p1 | exact H.p2 | exact H.p3 | exact H.p4 | exact H.p5) (by first | assumption | with_reducible first | exact f0.2.1 | exact f1.2.1 | exact f2.2.1 | exact f3.2.1 | exact f4.2.1 | exact f5.2.1 | exact va_takeS) (by first | exact roomFor_of (by omega) | exact roomFor_wide (by omega)) (by omega) ?_)
          | ((with_reducible show opC (hbuildSlice _ _ _ _ _) _); refine sl_bslice1 H rfl (by first | exact rfl | (simp only [f0, f1, f2, f3, f4, f5]; done) | (simp only [onA, *]; done)) (by first | exact rfl | (simp only [f0, f1, f2, f3, f4, f5]; done) | (simp only [onA, *]; done)) ?_)
          | with_reducible intro hy

        exact ⟨.nilSlice, rfl, H.t.t.ex0⟩
      | some p =>
        obtain ⟨t, r⟩ := p
        rw [hc] at hgo hcs
        simp only at hgo
        obtain ⟨hsplit, _⟩ := cutAt_some hc
        have hlt := congrArg List.length hsplit
        simp only [List.length_append, List.length_cons] at hlt
        have hcv : cutV [10] rest = .tup [.str t, .str r, .bool true] := by unfold cutV; rw [hcs]
        have q1 := True.intro
        have q2 := True.intro
        have q3 := True.intro
        have q4 := True.intro
        cases et : (t.take 2 == [45, 32]) with
        | false =>
          have et0 : ¬ t.take 2 = [45, 32] := by simpa using et
          rw [if_neg (fun h => et0 h.1)] at hgo
          simp only [Option.map_none] at hgo
          subst hgo
          first | have f0 := Sat.pf (H) | have f0 := trivial
          first | have f1 := Sat.pf (H.t) | have f1 := trivial
          first | have f2 := Sat.pf (H.t.t) | have f2 := trivial
          first | have f3 := Sat.pf (H.t.t.t) | have f3 := trivial
          first | have f4 := Sat.pf (H.t.t.t.t) | have f4 := trivial
          first | have f5 := Sat.pf (H.t.t.t.t.t) | have f5 := trivial
          repeat' first
            | ((with_reducible show Need _); refine need_of ?_; (first | have f0 := Sat.pf (H) | have f0 := trivial); (first | have f1 := Sat.pf (H.t) | have f1 := trivial); (first | have f2 := Sat.pf (H.t.t) | have f2 := trivial); (first | have f3 := Sat.pf (H.t.t.t) | have f3 := trivial); (first | have f4 := Sat.pf (H.t.t.t.t) | have f4 := trivial); (first | have f5 := Sat.pf (H.t.t.t.t.t) | have f5 := trivial))
            | simp -implicitDefEqProofs (disch := first | omega | decide | exact rfl | assumption | exact Nat.le_of_ble_eq_true rfl | exact One.c | exact One.o) only [vsA, vsB, eq_self, if_true, if_false, implies_true, false_implies, evp, HX.ev, Nat.reduceAdd, HOp.looks, Nat.reduceEqDiff, overw, Nat.reduceBEq, ow, owc, e, et, q1, q2, q3, q4, z01, z12, lr_succ, Bool.not_true, Bool.not_false, ub15, f0, f1, f2, f3, f4, f5]
            | (refine condK_cases (fun h => ?_) (fun h => ?_) <;> (try simp only [h]) <;> (try simp only [athA, ne_eq] at h) <;> (try (exfalso; omega)))
            | (refine guardK_cases (fun h => ?_) (fun h => ?_) <;> (try simp only [h]) <;> (try simp only [athA, ne_eq] at h) <;> (try (exfalso; omega)))
            | (clear H f0 f1 f2 f3 f4 f5; (with_reducible intro v2 hs H); (try simp only [setA, overw, Nat.reduceAdd] at H); refine need ?_)
            | ((with_reducible show actK _ (HAct.call (HX.cst (HV.func (Fn.func 35) _ _)) _) _ _ _ _ _); refine vcall_of ok35 rfl (cut35 (G _ (by with_reducible first | exact H.t | exact H.t.t | exact H.t.t.t | exact H.t.t.t.t | exact H.t.t.t.t.t | exact H.t.t.t.t.t.t | exact H.t.t.t.t.t.t.t | exact H.t.t.t.t.t.t.t.t)) rest hl) ?_;  (rw [hcv]; rintro _ _ ⟨rfl, rfl⟩))
            | ((with_reducible show actK _ (HAct.call (HX.cst (HV.func (Fn.func 36) _ _)) _) _ _ _ _ _); refine vcall_of ok36 rfl (pre36 t [45, 32]) ?_;  (rw [show ([45, 32] : List UInt8).length = 2 from rfl, et]; rintro _ _ ⟨rfl, rfl⟩))
            | refine opC_K ?_
            | ((with_reducible show opC (hbuildSlice _ _ _ _ _) _); refine sl_bsliceK H rfl rfl (by omega) rfl rfl ?_; clear H f0 f1 f2 f3 f4 f5; intro y hs H; obtain ⟨a0, a1, q1, q2, q3, q4⟩ := rd_two H.rd; refine need ?_)
            | (refine HW.rounds mixed 3 ?_)
            | ((with_reducible show opC (happend _ _ _ _ _) _); refine sl_append (by with_reducible first | exact H | exact H.p1 | exact H.p2 | exact H.p3 | exact H.p4 | exact H.p5) (by first | assumption | with_reducible first | exact f0.2.1 | exact f1.2.1 | exact f2.2.1 | exact f3.2.1 | exact f4.2.1 | exact f5.2.1 | exact va_takeS) (by first | exact roomFor_of (by omega) | exact roomFor_wide (by omega)) (by omega) ?_)
            | ((with_reducible show opC (happend _ _ _ _ _) _); refine sl_append0X H (by first | assumption | with_reducible first | exact f0.2.1 | exact f1.2.1 | exact f2.2.1 | exact f3.2.1 | exact f4.2.1 | exact f5.2.1 | exact va_takeS) (by first | exact roomFor_of (by omega) | exact roomFor_wide (by omega)) (by omega) ?_)
            | ((with_reducible show opC (happend _ _ _ _ _) _); refine sl_appendX (by with_reducible first | exact H | exact H.p1 | exact H.p2 | exact H.p3 | exact H.p4 | exact H.p5) (by first | assumption | with_reducible first | exact f0.2.1 | exact f1.2.1 | exact f2.2.1 | exact f3.2.1 | exact f4.2.1 | exact f5.2.1 | exact va_takeS) (by first | exact roomFor_of (by omega) | exact roomFor_wide (by omega)) (by omega) ?_)
            | ((with_reducible show opC (hbuildSlice _ _ _ _ _) _); refine sl_bslice1 H rfl (by first | exact rfl | (simp only [f0, f1, f2, f3, f4, f5]; done) | (simp only [onA, *]; done)) (by first | exact rfl | (simp only [f0, f1, f2, f3, f4, f5]; done) | (simp only [onA, *]; done)) ?_)
            | with_reducible intro hy

          exact ⟨.nilSlice, rfl, H.t.t.ex0⟩
        | true =>
          have et0 : t.take 2 = [45, 32] := by simpa using et
          have h2t : 2 ≤ t.length := by have := congrArg List.length et0; simp at this; omega
          have ess := vss_lo (b := t) (lo := 2) (j := .i64) h2t
          have ess : hsliceStr (.str t) (some (.int .i64 2)) none = some (.str (t.drop 2)) := ess
          first | have f0 := Sat.pf (H) | have f0 := trivial
          first | have f1 := Sat.pf (H.t) | have f1 := trivial
          first | have f2 := Sat.pf (H.t.t) | have f2 := trivial
          first | have f3 := Sat.pf (H.t.t.t) | have f3 := trivial
          first | have f4 := Sat.pf (H.t.t.t.t) | have f4 := trivial
          first | have f5 := Sat.pf (H.t.t.t.t.t) | have f5 := trivial
          repeat' first
            | ((with_reducible show Need _); refine need_of ?_; (first | have f0 := Sat.pf (H) | have f0 := trivial); (first | have f1 := Sat.pf (H.t) | have f1 := trivial); (first | have f2 := Sat.pf (H.t.t) | have f2 := trivial); (first | have f3 := Sat.pf (H.t.t.t) | have f3 := trivial); (first | have f4 := Sat.pf (H.t.t.t.t) | have f4 := trivial); (first | have f5 := Sat.pf (H.t.t.t.t.t) | have f5 := trivial))
            | simp -implicitDefEqProofs (disch := first | omega | decide | exact rfl | assumption | exact Nat.le_of_ble_eq_true rfl | exact One.c | exact One.o) only [vsA, vsB, eq_self, if_true, if_false, implies_true, false_implies, evp, HX.ev, Nat.reduceAdd, HOp.looks, Nat.reduceEqDiff, overw, Nat.reduceBEq, ow, owc, e, et, ess, q1, q2, q3, q4, z01, z12, lr_succ, Bool.not_true, Bool.not_false, ub15, f0, f1, f2, f3, f4, f5]
            | (refine condK_cases (fun h => ?_) (fun h => ?_) <;> (try simp only [h]) <;> (try simp only [athA, ne_eq] at h) <;> (try (exfalso; omega)))
            | (refine guardK_cases (fun h => ?_) (fun h => ?_) <;> (try simp only [h]) <;> (try simp only [athA, ne_eq] at h) <;> (try (exfalso; omega)))
            | (clear H f0 f1 f2 f3 f4 f5; (with_reducible intro v2 hs H); (try simp only [setA, overw, Nat.reduceAdd] at H); refine need ?_)
            | ((with_reducible show actK _ (HAct.call (HX.cst (HV.func (Fn.func 35) _ _)) _) _ _ _ _ _); refine vcall_of ok35 rfl (cut35 (G _ (by with_reducible first | exact H.t | exact H.t.t | exact H.t.t.t | exact H.t.t.t.t | exact H.t.t.t.t.t | exact H.t.t.t.t.t.t | exact H.t.t.t.t.t.t.t | exact H.t.t.t.t.t.t.t.t)) rest hl) ?_;  (rw [hcv]; rintro _ _ ⟨rfl, rfl⟩))
            | ((with_reducible show actK _ (HAct.call (HX.cst (HV.func (Fn.func 36) _ _)) _) _ _ _ _ _); refine vcall_of ok36 rfl (pre36 t [45, 32]) ?_;  (rw [show ([45, 32] : List UInt8).length = 2 from rfl, et]; rintro _ _ ⟨rfl, rfl⟩))
            | ((with_reducible show actK _ (HAct.call (HX.cst (HV.func (Fn.func 37) _ _)) _) _ _ _ _ _); refine vcall_of ok37 rfl (plain37 H (t.drop 2) (by rw [List.length_drop]; omega)) ?_;  clear H f0 f1 f2 f3 f4 f5; rintro v hs ⟨rfl, H⟩; refine need ?_)
            | refine opC_K ?_
            | ((with_reducible show opC (hbuildSlice _ _ _ _ _) _); refine sl_bsliceK H rfl rfl (by omega) rfl rfl ?_; clear H f0 f1 f2 f3 f4 f5; intro y hs H; obtain ⟨a0, a1, q1, q2, q3, q4⟩ := rd_two H.rd; refine need ?_)
            | (refine HW.rounds mixed 3 ?_)
            | ((with_reducible show opC (happend _ _ _ _ _) _); refine sl_append (by with_reducible first | exact H | exact H.p1 | exact H.p2 | exact H.p3 | exact H.p4 | exact H.p5) (by first | assumption | with_reducible first | exact f0.2.1 | exact f1.2.1 | exact f2.2.1 | exact f3.2.1 | exact f4.2.1 | exact f5.2.1 | exact va_takeS) (by first | exact roomFor_of (by omega) | exact roomFor_wide (by omega)) (by omega) ?_)
            | ((with_reducible show opC (happend _ _ _ _ _) _); refine sl_append0X H (by first | assumption | with_reducible first | exact f0.2.1 | exact f1.2.1 | exact f2.2.1 | exact f3.2.1 | exact f4.2.1 | exact f5.2.1 | exact va_takeS) (by first | exact roomFor_of (by omega) | exact roomFor_wide (by omega)) (by omega) ?_)
            | ((with_reducible show opC (happend _ _ _ _ _) _); refine sl_appendX (by with_reducible first | exact H | exact H.p1 | exact H.p2 | exact H.p3 | exact H.p4 | exact H.p5) (by first | assumption | with_reducible first | exact f0.2.1 | exact f1.2.1 | exact f2.2.1 | exact f3.2.1 | exact f4.2.1 | exact f5.2.1 | exact va_takeS) (by first | exact roomFor_of (by omega) | exact roomFor_wide (by omega)) (by omega) ?_)
            | ((with_reducible show opC (hbuildSlice _ _ _ _ _) _); refine sl_bslice1 H rfl (by first | exact rfl | (simp only [f0, f1, f2, f3, f4, f5]; done) | (simp only [onA, *]; done)) (by first | exact rfl | (simp only [f0, f1, f2, f3, f4, f5]; done) | (simp only [onA, *]; done)) ?_)
            | with_reducible intro hy

          refine ⟨(r, plainB (t.drop 2), v2, out ++ [t.drop 2]), _, by simp only; omega, ⟨by simp only [List.length_append, List.length_singleton]; omega, ?_⟩, (by (repeat first | exact Less.nil | refine Less.undef _ ?_ | refine Less.keep _ ?_)), Weak.refl _, ?_⟩
          · cases hp : plainB (t.drop 2) with
            | false =>
              rw [hp, if_neg (fun h => by cases h.2)] at hgo
              exact .inl ⟨rfl, by rw [← hgo]; rfl⟩
            | true =>
              rw [hp, if_pos ⟨et0, rfl⟩] at hgo
              refine .inr ⟨rfl, m, by simp only; omega, ?_⟩
              rw [← hgo, Option.map_map]
              congr 1
              funext x
              simp
          · simp only [List.length_append, List.length_singleton, List.map_append, List.map_cons, List.map_nil]
            exact H.d1
def cutA (sub s : List UInt8) : List UInt8 := match cutS sub s with
  | some (a, _) => a
  | none => s
def cutB (sub s : List UInt8) : List UInt8 := match cutS sub s with
  | some (_, b) => b
  | none => []
def cutF (sub s : List UInt8) : Bool := (cutS sub s).isSome
theorem cutV_eq (sub s : List UInt8) : cutV sub s = .tup [.str (cutA sub s), .str (cutB sub s), .bool (cutF sub s)] := by
  unfold cutV cutA cutB cutF
  cases cutS sub s <;> rfl
theorem cut_len (sub s : List UInt8) : (cutA sub s).length + (cutB sub s).length ≤ s.length := by
  unfold cutA cutB
  cases h : cutS sub s with
  | none => simp
  | some p =>
    obtain ⟨a, b⟩ := p
    have := congrArg List.length (cutS_some h).2
    simp only [List.length_append] at this
    simp only; omega
theorem cut_lt {s : List UInt8} (h : s ≠ []) : (cutB [10] s).length < s.length := by
  have hp := List.length_pos_iff.2 h
  unfold cutB
  cases h : cutS [10] s with
  | none => simpa using hp
  | some p =>
    obtain ⟨a, b⟩ := p
    have := congrArg List.length (cutS_some h).2
    simp only [List.length_append, List.length_cons, List.length_nil] at this
    simp only; omega
theorem dict_step {m : Nat} {rest : List UInt8} {out : List Pr} (h : rest ≠ []) : dictGo (m + 1) rest out =
    if (cutF [10] rest && cutF [58, 32] (cutA [10] rest) && rightB (cutA [58, 32] (cutA [10] rest)) && plainB (cutB [58, 32] (cutA [10] rest)) && !(hasB out (cutA [58, 32] (cutA [10] rest))) && decide (out.length < 256)) = true
    then dictGo m (cutB [10] rest) (out ++ [(cutA [58, 32] (cutA [10] rest), cutB [58, 32] (cutA [10] rest))]) else none := by
  conv => lhs; unfold dictGo
  rw [if_neg h]
  have e1 := cutS_one 10 rest
  cases hc : cutAt 10 rest with
  | none =>
    rw [hc] at e1
    simp [cutF, e1]
  | some p =>
    obtain ⟨t, r⟩ := p
    rw [hc] at e1
    have ea : cutA [10] rest = t := by unfold cutA; rw [e1]
    have eb : cutB [10] rest = r := by unfold cutB; rw [e1]
    have ef : cutF [10] rest = true := by unfold cutF; rw [e1]; rfl
    rw [ea, eb, ef]
    have e2 := cutS_two t
    simp only
    cases hc2 : cut2 t with
    | none =>
      rw [hc2] at e2
      simp [cutF, e2]
    | some q =>
      obtain ⟨k, v⟩ := q
      rw [hc2] at e2
      have fa : cutA [58, 32] t = k := by unfold cutA; rw [e2]
      have fb : cutB [58, 32] t = v := by unfold cutB; rw [e2]
      have ff : cutF [58, 32] t = true := by unfold cutF; rw [e2]; rfl
      rw [fa, fb, ff]
      simp only
      by_cases hh : rightB k = true ∧ plainB v = true ∧ hasB out k = false ∧ out.length < 256
      · rw [if_pos hh, if_pos (by simp [hh.1, hh.2.1, hh.2.2.1, hh.2.2.2])]
      · rw [if_neg hh, if_neg]
        intro hn
        simp only [Bool.and_eq_true, Bool.not_eq_true', decide_eq_true_eq, true_and] at hn
        exact hh ⟨hn.1.1.1, hn.1.1.2, hn.1.2, hn.2⟩
theorem dictGo_nil {n : Nat} {out : List Pr} : dictGo n [] out = some out := by cases n <;> simp [dictGo]
theorem read_end {hs : HS} {l : List SA} {vn : HV} {out : List Pr} {k x : List UInt8} (H : Sat hs (Ex 2 vn (out.length + 1) (out.flatMap prC ++ [.str k, .str x]) :: l)) : Sat hs (Ex 2 vn (out ++ [(k, x)]).length ((out ++ [(k, x)]).flatMap prC) :: l) := by
  rw [List.length_append, List.length_singleton, List.flatMap_append, List.flatMap_singleton]
  exact H
theorem readDict21 {hs : HS} {l : List SA} {bv : HV} {b : List UInt8} (H : Sat hs l) (R : Rdl l bv b.length (bcells b)) (G : ∀ hs, Sat hs l → hs[0]? = some (some (HB.gint 1))) (hb : b.length < 1073741824) :
    HC Tryd.prog 21 [bv] hs fun v hs' => ∃ w, v = .tup [w, .int .i64 (okI (readD b).isSome)] ∧ Sat hs' (Ex 2 w ((readD b).getD []).length (((readD b).getD []).flatMap prC) :: l) := by
  have hmax : maxLen = 9223372036854775807 := rfl
  have one := (R _ H).one
  have cel := (R _ H).cells
  have rs := rd_b2sK (R _ H)
  obtain ⟨tot, htot⟩ : ∃ tot, tot = readD b := ⟨_, rfl⟩
  rw [← htot]
  refine HC.wp mixed Tryd.func21 c21 ?_
  first | have f0 := Sat.pf (H) | have f0 := trivial
  first | have f1 := Sat.pf (H.t) | have f1 := trivial
  first | have f2 := Sat.pf (H.t.t) | have f2 := trivial
  first | have f3 := Sat.pf (H.t.t.t) | have f3 := trivial
  first | have f4 := Sat.pf (H.t.t.t.t) | have f4 := trivial
  first | have f5 := Sat.pf (H.t.t.t.t.t) | have f5 := trivial
  repeat' first
    | ((with_reducible show Need _); refine need_of ?_; (first | have f0 := Sat.pf (H) | have f0 := trivial); (first | have f1 := Sat.pf (H.t) | have f1 := trivial); (first | have f2 := Sat.pf (H.t.t) | have f2 := trivial); (first | have f3 := Sat.pf (H.t.t.t) | have f3 := trivial); (first | have f4 := Sat.pf (H.t.t.t.t) | have f4 := trivial); (first | have f5 := Sat.pf (H.t.t.t.t.t) | have f5 := trivial))
    | simp -implicitDefEqProofs (disch := first | omega | decide | exact rfl | assumption | exact Nat.le_of_ble_eq_true rfl | exact One.c | exact One.o) only [vsA, vsB, eq_self, if_true, if_false, implies_true, false_implies, evp, HX.ev, Nat.reduceAdd, HOp.looks, Nat.reduceEqDiff, overw, Nat.reduceBEq, h21, one, cel, rs, ub21, f0, f1, f2, f3, f4, f5, frame0, List.replicate, Nat.sub]
    | (refine condK_cases (fun h => ?_) (fun h => ?_) <;> (try simp only [h]) <;> (try simp only [athA, ne_eq] at h) <;> (try (exfalso; omega)))
    | (refine guardK_cases (fun h => ?_) (fun h => ?_) <;> (try simp only [h]) <;> (try simp only [athA, ne_eq] at h) <;> (try (exfalso; omega)))
    | (clear H f0 f1 f2 f3 f4 f5; (with_reducible intro v2 hs H); (try simp only [setA, overw, Nat.reduceAdd] at H); refine need ?_)
    | ((with_reducible show actK _ (HAct.call (HX.cst (HV.func (Fn.func 34) _ _)) _) _ _ _ _ _); refine vcall_of ok34 rfl (cutPre34 b head9) ?_; rintro _ _ ⟨rfl, rfl⟩)
    | refine opC_K ?_
    | ((with_reducible show opC (happend _ _ _ _ _) _); refine sl_append (by with_reducible first | exact H | exact H.p1 | exact H.p2 | exact H.p3 | exact H.p4 | exact H.p5) (by first | assumption | with_reducible first | exact f0.2.1 | exact f1.2.1 | exact f2.2.1 | exact f3.2.1 | exact f4.2.1 | exact f5.2.1 | exact va_takeS) (by first | exact roomFor_of (by omega) | exact roomFor_wide (by omega)) (by omega) ?_)
    | ((with_reducible show opC (happend _ _ _ _ _) _); refine sl_append0X H (by first | assumption | with_reducible first | exact f0.2.1 | exact f1.2.1 | exact f2.2.1 | exact f3.2.1 | exact f4.2.1 | exact f5.2.1 | exact va_takeS) (by first | exact roomFor_of (by omega) | exact roomFor_wide (by omega)) (by omega) ?_)
    | ((with_reducible show opC (happend _ _ _ _ _) _); refine sl_appendX (by with_reducible first | exact H | exact H.p1 | exact H.p2 | exact H.p3 | exact H.p4 | exact H.p5) (by first | assumption | with_reducible first | exact f0.2.1 | exact f1.2.1 | exact f2.2.1 | exact f3.2.1 | exact f4.2.1 | exact f5.2.1 | exact va_takeS) (by first | exact roomFor_of (by omega) | exact roomFor_wide (by omega)) (by omega) ?_)
    | ((with_reducible show opC (hbuildSlice _ _ _ _ _) _); refine sl_bslice1 H rfl (by first | exact rfl | (simp only [f0, f1, f2, f3, f4, f5]; done) | (simp only [onA, *]; done)) (by first | exact rfl | (simp only [f0, f1, f2, f3, f4, f5]; done) | (simp only [onA, *]; done)) ?_)
    | with_reducible intro hy

  refine HW.loopA mixed (fun t : List UInt8 × Bool × HV × List Pr => (.undef :: .undef :: .undef :: .undef :: .str t.1 :: .bool t.2.1 :: t.2.2.1 :: .undef :: .undef :: .undef :: .undef :: .undef :: .undef :: .undef :: .undef :: .undef :: .undef :: .undef :: .undef :: .undef :: .undef :: .undef :: .undef :: .undef :: .undef :: .undef :: .undef :: .undef :: .undef :: .undef :: .undef :: .undef :: .undef :: .undef :: .undef :: .undef :: .undef :: .undef :: .undef :: .undef :: .undef :: .undef :: .undef :: .undef :: .undef :: .undef :: .undef :: .undef :: .undef :: .undef :: .undef :: .undef :: .undef :: .undef :: .undef :: .undef :: .undef :: .undef :: .undef :: .undef :: .undef :: .undef :: .undef :: .undef :: .undef :: .undef :: .undef :: .undef :: .undef :: [])) (fun t => Ex 2 t.2.2.1 t.2.2.2.length (t.2.2.2.flatMap prC) :: l) (fun t => t.1.length)
    (fun t => t.2.2.2.length + t.1.length ≤ b.length ∧ ((t.2.1 = false ∧ tot = none) ∨ (t.2.1 = true ∧ ∃ n, t.1.length ≤ n ∧ dictGo n t.1 t.2.2.2 = tot)))
    ((if b.take 4 = head9 then b.drop 4 else b), (b.take 4 == head9), .nilSlice, []) ?_ (by (repeat first | exact Less.nil | refine Less.undef _ ?_ | refine Less.keep _ ?_)) H.ex0 ?_
  · refine ⟨by simp only; split <;> simp, ?_⟩
    by_cases h : b.take 4 = head9
    · refine .inr ⟨by simpa using h, b.length, by simp only [if_pos h]; simp, ?_⟩
      rw [htot]; unfold readD
      simp only [if_pos h]
    · refine .inl ⟨by simpa using h, ?_⟩
      rw [htot]; unfold readD
      rw [if_neg h]
  clear H
  rintro ⟨rest, ok, w, out⟩ hs ⟨hlen, hinv⟩ H
  simp only at hlen hinv H
  have ow := H.rdX.one
  have owc := H.rdX.cells
  rcases hinv with ⟨rfl, rfl⟩ | ⟨rfl, n, hn, hgo⟩
  · skip
    first | have f0 := Sat.pf (H) | have f0 := trivial
    first | have f1 := Sat.pf (H.t) | have f1 := trivial
    first | have f2 := Sat.pf (H.t.t) | have f2 := trivial
    first | have f3 := Sat.pf (H.t.t.t) | have f3 := trivial
    first | have f4 := Sat.pf (H.t.t.t.t) | have f4 := trivial
    first | have f5 := Sat.pf (H.t.t.t.t.t) | have f5 := trivial
    repeat' first
      | ((with_reducible show Need _); refine need_of ?_; (first | have f0 := Sat.pf (H) | have f0 := trivial); (first | have f1 := Sat.pf (H.t) | have f1 := trivial); (first | have f2 := Sat.pf (H.t.t) | have f2 := trivial); (first | have f3 := Sat.pf (H.t.t.t) | have f3 := trivial); (first | have f4 := Sat.pf (H.t.t.t.t) | have f4 := trivial); (first | have f5 := Sat.pf (H.t.t.t.t.t) | have f5 := trivial))
      | simp -implicitDefEqProofs (disch := first | omega | decide | exact rfl | assumption | exact Nat.le_of_ble_eq_true rfl | exact One.c | exact One.o) only [vsA, vsB, eq_self, if_true, if_false, implies_true, false_implies, evp, HX.ev, Nat.reduceAdd, HOp.looks, Nat.reduceEqDiff, overw, Nat.reduceBEq, ow, owc, ub21, f0, f1, f2, f3, f4, f5]
      | (refine condK_cases (fun h => ?_) (fun h => ?_) <;> (try simp only [h]) <;> (try simp only [athA, ne_eq] at h) <;> (try (exfalso; omega)))
      | (refine guardK_cases (fun h => ?_) (fun h => ?_) <;> (try simp only [h]) <;> (try simp only [athA, ne_eq] at h) <;> (try (exfalso; omega)))
      | (clear H f0 f1 f2 f3 f4 f5; (with_reducible intro v2 hs H); (try simp only [setA, overw, Nat.reduceAdd] at H); refine need ?_)
      | refine opC_K ?_
      | ((with_reducible show opC (happend _ _ _ _ _) _); refine sl_append (by with_reducible first | exact H | exact H.p1 | exact H.p2 | exact H.p3 | exact H.p4 | exact H.p5) (by first | assumption | with_reducible first | exact f0.2.1 | exact f1.2.1 | exact f2.2.1 | exact f3.2.1 | exact f4.2.1 | exact f5.2.1 | exact va_takeS) (by first | exact roomFor_of (by omega) | exact roomFor_wide (by omega)) (by omega) ?_)
      | ((with_reducible show opC (happend _ _ _ _ _) _); refine sl_append0X H (by first | assumption | with_reducible first | exact f0.2.1 | exact f1.2.1 | exact f2.2.1 | exact f3.2.1 | exact f4.2.1 | exact f5.2.1 | exact va_takeS) (by first | exact roomFor_of (by omega) | exact roomFor_wide (by omega)) (by omega) ?_)
      | ((with_reducible show opC (happend _ _ _ _ _) _); refine sl_appendX (by with_reducible first | exact H | exact H.p1 | exact H.p2 | exact H.p3 | exact H.p4 | exact H.p5) (by first | assumption | with_reducible first | exact f0.2.1 | exact f1.2.1 | exact f2.2.1 | exact f3.2.1 | exact f4.2.1 | exact f5.2.1 | exact va_takeS) (by first | exact roomFor_of (by omega) | exact roomFor_wide (by omega)) (by omega) ?_)
      | ((with_reducible show opC (hbuildSlice _ _ _ _ _) _); refine sl_bslice1 H rfl (by first | exact rfl | (simp only [f0, f1, f2, f3, f4, f5]; done) | (simp only [onA, *]; done)) (by first | exact rfl | (simp only [f0, f1, f2, f3, f4, f5]; done) | (simp only [onA, *]; done)) ?_)
      | with_reducible intro hy

    exact ⟨.nilSlice, rfl, H.t.ex0⟩
  · cases e : (rest == []) with
    | true =>
      have e0 : rest = [] := by simpa using e
      subst e0
      rw [dictGo_nil] at hgo
      subst hgo
      first | have f0 := Sat.pf (H) | have f0 := trivial
      first | have f1 := Sat.pf (H.t) | have f1 := trivial
      first | have f2 := Sat.pf (H.t.t) | have f2 := trivial
      first | have f3 := Sat.pf (H.t.t.t) | have f3 := trivial
      first | have f4 := Sat.pf (H.t.t.t.t) | have f4 := trivial
      first | have f5 := Sat.pf (H.t.t.t.t.t) | have f5 := trivial
      repeat' first
        | ((with_reducible show Need _); refine need_of ?_; (first | have f0 := Sat.pf (H) | have f0 := trivial); (first | have f1 := Sat.pf (H.t) | have f1 := trivial); (first | have f2 := Sat.pf (H.t.t) | have f2 := trivial); (first | have f3 := Sat.pf (H.t.t.t) | have f3 := trivial); (first | have f4 := Sat.pf (H.t.t.t.t) | have f4 := trivial); (first | have f5 := Sat.pf (H.t.t.t.t.t) | have f5 := trivial))
        | simp -implicitDefEqProofs (disch := first | omega | decide | exact rfl | assumption | exact Nat.le_of_ble_eq_true rfl | exact One.c | exact One.o) only [vsA, vsB, eq_self, if_true, if_false, implies_true, false_implies, evp, HX.ev, Nat.reduceAdd, HOp.looks, Nat.reduceEqDiff, overw, Nat.reduceBEq, ow, owc, e, Bool.not_true, Bool.not_false, ub21, f0, f1, f2, f3, f4, f5]
        | (refine condK_cases (fun h => ?_) (fun h => ?_) <;> (try simp only [h]) <;> (try simp only [athA, ne_eq] at h) <;> (try (exfalso; omega)))
        | (refine guardK_cases (fun h => ?_) (fun h => ?_) <;> (try simp only [h]) <;> (try simp only [athA, ne_eq] at h) <;> (try (exfalso; omega)))
        | (clear H f0 f1 f2 f3 f4 f5; (with_reducible intro v2 hs H); (try simp only [setA, overw, Nat.reduceAdd] at H); refine need ?_)
        | refine opC_K ?_
        | ((with_reducible show opC (happend _ _ _ _ _) _); refine sl_append (by with_reducible first | exact H | exact H.p1 | exact H.p2 | exact H.p3 | exact H.p4 | exact H.p5) (by first | assumption | with_reducible first | exact f0.2.1 | exact f1.2.1 | exact f2.2.1 | exact f3.2.1 | exact f4.2.1 | exact f5.2.1 | exact va_takeS) (by first | exact roomFor_of (by omega) | exact roomFor_wide (by omega)) (by omega) ?_)
        | ((with_reducible show opC (happend _ _ _ _ _) _); refine sl_append0X H (by first | assumption | with_reducible first | exact f0.2.1 | exact f1.2.1 | exact f2.2.1 | exact f3.2.1 | exact f4.2.1 | exact f5.2.1 | exact va_takeS) (by first | exact roomFor_of (by omega) | exact roomFor_wide (by omega)) (by omega) ?_)
        | ((with_reducible show opC (happend _ _ _ _ _) _); refine sl_appendX (by with_reducible first | exact H | exact H.p1 | exact H.p2 | exact H.p3 | exact H.p4 | exact H.p5) (by first | assumption | with_reducible first | exact f0.2.1 | exact f1.2.1 | exact f2.2.1 | exact f3.2.1 | exact f4.2.1 | exact f5.2.1 | exact va_takeS) (by first | exact roomFor_of (by omega) | exact roomFor_wide (by omega)) (by omega) ?_)
        | ((with_reducible show opC (hbuildSlice _ _ _ _ _) _); refine sl_bslice1 H rfl (by first | exact rfl | (simp only [f0, f1, f2, f3, f4, f5]; done) | (simp only [onA, *]; done)) (by first | exact rfl | (simp only [f0, f1, f2, f3, f4, f5]; done) | (simp only [onA, *]; done)) ?_)
        | with_reducible intro hy

      exact ⟨w, rfl, H⟩
    | false =>
      have e0 : rest ≠ [] := by simpa using e
      obtain ⟨m, rfl⟩ : ∃ m, n = m + 1 := ⟨n - 1, by have := List.length_pos_iff.2 e0; omega⟩
      rw [dict_step e0] at hgo
      have hcv := cutV_eq [10] rest
      have hl1 := cut_len [10] rest
      have hl2 := cut_lt e0
      obtain ⟨t, ht⟩ : ∃ t, t = cutA [10] rest := ⟨_, rfl⟩
      obtain ⟨r, hr⟩ : ∃ r, r = cutB [10] rest := ⟨_, rfl⟩
      obtain ⟨f1, hf1⟩ : ∃ f1, f1 = cutF [10] rest := ⟨_, rfl⟩
      rw [← ht, ← hr, ← hf1] at hcv hgo
      rw [← ht, ← hr] at hl1
      rw [← hr] at hl2
      have hcv2 := cutV_eq [58, 32] t
      have hl3 := cut_len [58, 32] t
      obtain ⟨k, hk⟩ : ∃ k, k = cutA [58, 32] t := ⟨_, rfl⟩
      obtain ⟨x, hx⟩ : ∃ x, x = cutB [58, 32] t := ⟨_, rfl⟩
      obtain ⟨f2, hf2⟩ : ∃ f2, f2 = cutF [58, 32] t := ⟨_, rfl⟩
      rw [← hk, ← hx, ← hf2] at hcv2 hgo
      rw [← hk, ← hx] at hl3
      clear ht hr hf1 hk hx hf2
      have lt6 : decide (((out.length : Nat) : Int) < 256) = decide (out.length < 256) := by simp; omega
      have fill2 : hfill [.str [], .str []] [(0, 2, .agg [.str k, .str x])] = some [.str k, .str x] := rfl
      first | have f0 := Sat.pf (H) | have f0 := trivial
      first | have f1 := Sat.pf (H.t) | have f1 := trivial
      first | have f2 := Sat.pf (H.t.t) | have f2 := trivial
      first | have f3 := Sat.pf (H.t.t.t) | have f3 := trivial
      first | have f4 := Sat.pf (H.t.t.t.t) | have f4 := trivial
      first | have f5 := Sat.pf (H.t.t.t.t.t) | have f5 := trivial
      repeat' first
        | ((with_reducible show Need _); refine need_of ?_; (first | have f0 := Sat.pf (H) | have f0 := trivial); (first | have f1 := Sat.pf (H.t) | have f1 := trivial); (first | have f2 := Sat.pf (H.t.t) | have f2 := trivial); (first | have f3 := Sat.pf (H.t.t.t) | have f3 := trivial); (first | have f4 := Sat.pf (H.t.t.t.t) | have f4 := trivial); (first | have f5 := Sat.pf (H.t.t.t.t.t) | have f5 := trivial))
        | simp -implicitDefEqProofs (disch := first | omega | decide | exact rfl | assumption | exact Nat.le_of_ble_eq_true rfl | exact One.c | exact One.o) only [vsA, vsB, eq_self, if_true, if_false, implies_true, false_implies, evp, HX.ev, Nat.reduceAdd, HOp.looks, Nat.reduceEqDiff, overw, Nat.reduceBEq, ow, owc, e, lt6, fill2, Bool.not_true, Bool.not_false, ub21, f0, f1, f2, f3, f4, f5]
        | (refine condK_cases (fun h => ?_) (fun h => ?_) <;> (try simp only [h]) <;> (try simp only [athA, ne_eq] at h) <;> (try (exfalso; omega)))
        | (refine guardK_cases (fun h => ?_) (fun h => ?_) <;> (try simp only [h]) <;> (try simp only [athA, ne_eq] at h) <;> (try (exfalso; omega)))
        | (clear H f0 f1 f2 f3 f4 f5; (with_reducible intro v2 hs H); (try simp only [setA, overw, Nat.reduceAdd] at H); refine need ?_)
        | ((with_reducible show actK _ (HAct.call (HX.cst (HV.func (Fn.func 35) _ _)) _) _ _ _ _ _); refine vcall_of ok35 rfl (cut35 (G _ (by with_reducible first | exact H.t | exact H.t.t | exact H.t.t.t | exact H.t.t.t.t | exact H.t.t.t.t.t | exact H.t.t.t.t.t.t | exact H.t.t.t.t.t.t.t | exact H.t.t.t.t.t.t.t.t)) rest (by omega)) ?_;  (rw [hcv]; rintro _ _ ⟨rfl, rfl⟩))
        | ((with_reducible show actK _ (HAct.call (HX.cst (HV.func (Fn.func 40) _ _)) _) _ _ _ _ _); refine vcall_of ok40 rfl (cut40 (G _ (by with_reducible first | exact H.t | exact H.t.t | exact H.t.t.t | exact H.t.t.t.t | exact H.t.t.t.t.t | exact H.t.t.t.t.t.t | exact H.t.t.t.t.t.t.t | exact H.t.t.t.t.t.t.t.t)) t [58, 32] (by omega)) ?_;  (rw [hcv2]; rintro _ _ ⟨rfl, rfl⟩))
        | ((with_reducible show actK _ (HAct.call (HX.cst (HV.func (Fn.func 41) _ _)) _) _ _ _ _ _); refine vcall_of ok41 rfl (right41 H k (by omega)) ?_;  clear H f0 f1 f2 f3 f4 f5; rintro v hs ⟨rfl, H⟩; refine need ?_)
        | ((with_reducible show actK _ (HAct.call (HX.cst (HV.func (Fn.func 37) _ _)) _) _ _ _ _ _); refine vcall_of ok37 rfl (plain37 H x (by omega)) ?_;  clear H f0 f1 f2 f3 f4 f5; rintro v hs ⟨rfl, H⟩; refine need ?_)
        | ((with_reducible show actK _ (HAct.call (HX.cst (HV.func (Fn.func 42) _ _)) _) _ _ _ _ _); refine vcall_of ok42 rfl (has42 (D := out) H (fun _ h => h.rdX) k (by omega)) ?_;  clear H f0 f1 f2 f3 f4 f5; rintro v hs ⟨rfl, H⟩; refine need ?_)
        | refine opC_K ?_
        | ((with_reducible show opC (hbuildSlice _ _ _ _ _) _); refine sl_bslice H rfl rfl (by omega) fill2 rfl ?_; clear H f0 f1 f2 f3 f4 f5; intro y hs H hy; have T := hy.take; refine need ?_)
        | ((with_reducible show opC (happend _ _ _ _ _) _); refine sl_appendX (n := out.length) (xs := out.flatMap prC) (by with_reducible first | exact H | exact H.p1 | exact H.p2 | exact H.p3 | exact H.p4 | exact H.p5) T (by first | exact roomFor_of (by omega) | exact roomFor_wide (by omega)) (by omega) ?_; clear H f0 f1 f2 f3 f4 f5; intro vn hs H; refine need ?_)
        | ((with_reducible show opC (happend _ _ _ _ _) _); refine sl_append (by with_reducible first | exact H | exact H.p1 | exact H.p2 | exact H.p3 | exact H.p4 | exact H.p5) (by first | assumption | with_reducible first | exact f0.2.1 | exact f1.2.1 | exact f2.2.1 | exact f3.2.1 | exact f4.2.1 | exact f5.2.1 | exact va_takeS) (by first | exact roomFor_of (by omega) | exact roomFor_wide (by omega)) (by omega) ?_)
        | ((with_reducible show opC (happend _ _ _ _ _) _); refine sl_append0X H (by first | assumption | with_reducible first | exact f0.2.1 | exact f1.2.1 | exact f2.2.1 | exact f3.2.1 | exact f4.2.1 | exact f5.2.1 | exact va_takeS) (by first | exact roomFor_of (by omega) | exact roomFor_wide (by omega)) (by omega) ?_)
        | ((with_reducible show opC (happend _ _ _ _ _) _); refine sl_appendX (by with_reducible first | exact H | exact H.p1 | exact H.p2 | exact H.p3 | exact H.p4 | exact H.p5) (by first | assumption | with_reducible first | exact f0.2.1 | exact f1.2.1 | exact f2.2.1 | exact f3.2.1 | exact f4.2.1 | exact f5.2.1 | exact va_takeS) (by first | exact roomFor_of (by omega) | exact roomFor_wide (by omega)) (by omega) ?_)
        | ((with_reducible show opC (hbuildSlice _ _ _ _ _) _); refine sl_bslice1 H rfl (by first | exact rfl | (simp only [f0, f1, f2, f3, f4, f5]; done) | (simp only [onA, *]; done)) (by first | exact rfl | (simp only [f0, f1, f2, f3, f4, f5]; done) | (simp only [onA, *]; done)) ?_)
        | with_reducible intro hy

      all_goals try simp only [Bool.not_eq_true] at *
      · have fin := read_end (k := k) (x := x) H
        cases hd : decide (out.length < 256) with
        | false => exact ⟨(r, false, vn, out ++ [(k, x)]), _, by simp only; omega, ⟨by simp only [List.length_append, List.length_singleton]; omega, .inl ⟨rfl, by rw [← hgo, if_neg (by simp [hd])]⟩⟩, (by (repeat first | exact Less.nil | refine Less.undef _ ?_ | refine Less.keep _ ?_)), Weak.refl _, fin⟩
        | true => exact ⟨(r, true, vn, out ++ [(k, x)]), _, by simp only; omega, ⟨by simp only [List.length_append, List.length_singleton]; omega, .inr ⟨rfl, m, by simp only; omega, by rw [← hgo, if_pos (by simp_all)]⟩⟩, (by (repeat first | exact Less.nil | refine Less.undef _ ?_ | refine Less.keep _ ?_)), Weak.refl _, fin⟩
      all_goals exact ⟨(r, false, vn, out ++ [(k, x)]), _, by simp only; omega, ⟨by simp only [List.length_append, List.length_singleton]; omega, .inl ⟨rfl, by rw [← hgo, if_neg (by simp_all)]⟩⟩, (by (repeat first | exact Less.nil | refine Less.undef _ ?_ | refine Less.keep _ ?_)), Weak.refl _, read_end H⟩
end A
end Go.Proofs.YteedmbmgemiheaaDoor
namespace Go.Proofs.YteedmbmgemiheaaDoor
open Go Go.HL Go.Shelf Y
namespace A
set_option maxRecDepth 100000
set_option maxHeartbeats 40000000
set_option linter.unusedSimpArgs false
theorem beq_len {α : Type} [BEq α] [LawfulBEq α] {x y : List α} (h : x.length ≠ y.length) : (x == y) = false := by
  cases hq : x == y with
  | false => rfl
  | true => exact absurd (by rw [eq_of_beq hq]) h
theorem beq_at {α : Type} [BEq α] [LawfulBEq α] {x y : List α} {i : Nat} {a b : α} (h1 : x[i]? = some a) (h2 : y[i]? = some b) (h : (a == b) = false) : (x == y) = false := by
  cases hq : x == y with
  | false => rfl
  | true =>
    have e := eq_of_beq hq
    subst e
    rw [h1] at h2
    cases h2
    simp at h
theorem sget {X : List (List UInt8)} {i : Nat} {c : List UInt8} (h : X[i]? = some c) : (X.map HV.str)[i]? = some (.str c) := by
  rw [List.getElem?_map, h]; rfl
theorem pr_neq {a b c d : List UInt8} : hbin .neq (some (.struct [(0, none, .str), (1, none, .str)])) (.agg [.str a, .str b]) (.agg [.str c, .str d]) = some (.bool !((a, b) == (c, d))) := by
  have e : ((a, b) == (c, d)) = (a == c && b == d) := rfl
  rw [e]
  show Option.map (fun b => HV.bool !b) (eqv (.struct [(0, none, .str), (1, none, .str)]) (.agg [.str a, .str b]) (.agg [.str c, .str d])) = _
  cases h1 : (a == c) <;> cases h2 : (b == d) <;> simp only [eqv, eqvL, hpart, List.getElem?_cons_zero, List.getElem?_cons_succ, h1, h2] <;> rfl
theorem u8_dec {a b : UInt8} {r : Bool} (h : (a == b) = r) : decide (((a.toNat : Nat) : Int) = (b.toNat : Nat)) = r := by
  rw [← h]
  by_cases e : a = b
  · subst e; simp
  · have : ¬ ((a.toNat : Nat) : Int) = (b.toNat : Nat) := fun h => e (UInt8.toNat_inj.1 (by omega))
    rw [decide_eq_false this]; symm; simpa using e
theorem same44 {hs : HS} {a b : HV} {x y : List UInt8} (ha : Rd hs 1 a x.length (bcells x)) (hb : Rd hs 1 b y.length (bcells y)) (hx : x.length < 9223372036854775807) (hy : y.length < 9223372036854775807) : HC Tryd.prog 44 [a, b] hs fun v hs' => v = .bool (x == y) ∧ hs' = hs := by
  have la := ha.len
  have lb := hb.len
  have oa := ha.sOk
  have ob := hb.sOk
  refine HC.wp mixed Tryd.func44 c44 ?_
  by_cases hxy : x.length = y.length
  · have d0 : decide (((x.length : Nat) : Int) = ((y.length : Nat) : Int)) = true := decide_eq_true (by omega)
    repeat' first
      | simp -implicitDefEqProofs (disch := first | omega | decide | exact rfl | assumption | exact Nat.le_of_ble_eq_true rfl | exact One.c | exact One.o) only [vsA, vsB, eq_self, if_true, if_false, implies_true, false_implies, evp, HX.ev, Nat.reduceAdd, HOp.looks, Nat.reduceEqDiff, overw, Nat.reduceBEq, h44, la, lb, d0, ub44, frame0, List.replicate, Nat.sub]
      | (refine condK_cases (fun h => ?_) (fun h => ?_) <;> (try simp only [h]) <;> (try simp only [athA, ne_eq] at h) <;> (try (exfalso; omega)))
      | (refine guardK_cases (fun h => ?_) (fun h => ?_) <;> (try simp only [h]) <;> (try simp only [athA, ne_eq] at h) <;> (try (exfalso; omega)))
      | (refine dgK_cases (fun h => ?_) (fun h => ?_) <;> (try simp only [h]) <;> (try simp only [athA, ne_eq] at h) <;> (try (exfalso; omega)))
      | refine hwp_draw mixed rfl ?_

    refine HW.loopR mixed (fun i : Nat => (a :: b :: .undef :: .undef :: .undef :: .undef :: .undef :: .undef :: .undef :: .undef :: .undef :: .undef :: .int .i64 (x.length : Nat) :: .int .i64 (i : Nat) :: .undef :: .undef :: .undef :: .undef :: .undef :: .undef :: .undef :: .undef :: .undef :: .undef :: .undef :: .undef :: [])) (fun i => x.length - i) (fun i => i ≤ x.length ∧ x.take i = y.take i) 0 ⟨Nat.zero_le _, rfl⟩ (by (repeat first | exact Less.nil | refine Less.undef _ ?_ | refine Less.keep _ ?_)) ?_
    rintro i ⟨hi, he⟩
    by_cases h : i < x.length
    · have dl : decide (((i : Nat) : Int) < ((x.length : Nat) : Int)) = true := decide_eq_true (by omega)
      obtain ⟨cx, gx⟩ : ∃ c, x[i]? = some c := ⟨_, List.getElem?_eq_getElem h⟩
      obtain ⟨cy, gy⟩ : ∃ c, y[i]? = some c := ⟨_, List.getElem?_eq_getElem (by omega)⟩
      obtain ⟨p, hp1, hp2⟩ := ha.idx1 (bget gx) .i64
      obtain ⟨q, hq1, hq2⟩ := hb.idx1 (bget gy) .i64
      cases hd : (cx == cy) with
      | false =>
        rw [beq_at gx gy hd]
        have du := u8_dec hd
        repeat' first
          | simp -implicitDefEqProofs (disch := first | omega | decide | exact rfl | assumption | exact Nat.le_of_ble_eq_true rfl | exact One.c | exact One.o) only [vsA, vsB, eq_self, if_true, if_false, implies_true, false_implies, evp, HX.ev, Nat.reduceAdd, HOp.looks, Nat.reduceEqDiff, overw, Nat.reduceBEq, dl, hp1, hp2, hq1, hq2, oa, ob, du, hd, vadd1, Bool.not_true, Bool.not_false, ub44]
          | (refine condK_cases (fun h => ?_) (fun h => ?_) <;> (try simp only [h]) <;> (try simp only [athA, ne_eq] at h) <;> (try (exfalso; omega)))
          | (refine guardK_cases (fun h => ?_) (fun h => ?_) <;> (try simp only [h]) <;> (try simp only [athA, ne_eq] at h) <;> (try (exfalso; omega)))
          | (refine dgK_cases (fun h => ?_) (fun h => ?_) <;> (try simp only [h]) <;> (try simp only [athA, ne_eq] at h) <;> (try (exfalso; omega)))
          | refine hwp_draw mixed rfl ?_

        all_goals exact ⟨rfl, rfl⟩
      | true =>
        have heq : cx = cy := by simpa using hd
        have du := u8_dec hd
        repeat' first
          | simp -implicitDefEqProofs (disch := first | omega | decide | exact rfl | assumption | exact Nat.le_of_ble_eq_true rfl | exact One.c | exact One.o) only [vsA, vsB, eq_self, if_true, if_false, implies_true, false_implies, evp, HX.ev, Nat.reduceAdd, HOp.looks, Nat.reduceEqDiff, overw, Nat.reduceBEq, dl, hp1, hp2, hq1, hq2, oa, ob, du, hd, vadd1, Bool.not_true, Bool.not_false, ub44]
          | (refine condK_cases (fun h => ?_) (fun h => ?_) <;> (try simp only [h]) <;> (try simp only [athA, ne_eq] at h) <;> (try (exfalso; omega)))
          | (refine guardK_cases (fun h => ?_) (fun h => ?_) <;> (try simp only [h]) <;> (try simp only [athA, ne_eq] at h) <;> (try (exfalso; omega)))
          | (refine dgK_cases (fun h => ?_) (fun h => ?_) <;> (try simp only [h]) <;> (try simp only [athA, ne_eq] at h) <;> (try (exfalso; omega)))
          | refine hwp_draw mixed rfl ?_

        exact ⟨i + 1, by omega, ⟨by omega, by rw [List.take_add_one, List.take_add_one, he, gx, gy, heq]⟩, (by (repeat first | exact Less.nil | refine Less.undef _ ?_ | refine Less.keep _ ?_))⟩
    · obtain rfl : i = x.length := by omega
      have dl : decide (((x.length : Nat) : Int) < ((x.length : Nat) : Int)) = false := decide_eq_false (by omega)
      have e : (x == y) = true := by
        rw [List.take_of_length_le (Nat.le_refl _), List.take_of_length_le (by omega)] at he
        rw [he]; simp
      rw [e]
      repeat' first
        | simp -implicitDefEqProofs (disch := first | omega | decide | exact rfl | assumption | exact Nat.le_of_ble_eq_true rfl | exact One.c | exact One.o) only [vsA, vsB, eq_self, if_true, if_false, implies_true, false_implies, evp, HX.ev, Nat.reduceAdd, HOp.looks, Nat.reduceEqDiff, overw, Nat.reduceBEq, dl, ub44]
        | (refine condK_cases (fun h => ?_) (fun h => ?_) <;> (try simp only [h]) <;> (try simp only [athA, ne_eq] at h) <;> (try (exfalso; omega)))
        | (refine guardK_cases (fun h => ?_) (fun h => ?_) <;> (try simp only [h]) <;> (try simp only [athA, ne_eq] at h) <;> (try (exfalso; omega)))
        | (refine dgK_cases (fun h => ?_) (fun h => ?_) <;> (try simp only [h]) <;> (try simp only [athA, ne_eq] at h) <;> (try (exfalso; omega)))
        | refine hwp_draw mixed rfl ?_

      all_goals exact ⟨rfl, rfl⟩
  · have d0 : decide (((x.length : Nat) : Int) = ((y.length : Nat) : Int)) = false := decide_eq_false (by omega)
    rw [beq_len hxy]
    repeat' first
      | simp -implicitDefEqProofs (disch := first | omega | decide | exact rfl | assumption | exact Nat.le_of_ble_eq_true rfl | exact One.c | exact One.o) only [vsA, vsB, eq_self, if_true, if_false, implies_true, false_implies, evp, HX.ev, Nat.reduceAdd, HOp.looks, Nat.reduceEqDiff, overw, Nat.reduceBEq, h44, la, lb, d0, ub44, frame0, List.replicate, Nat.sub]
      | (refine condK_cases (fun h => ?_) (fun h => ?_) <;> (try simp only [h]) <;> (try simp only [athA, ne_eq] at h) <;> (try (exfalso; omega)))
      | (refine guardK_cases (fun h => ?_) (fun h => ?_) <;> (try simp only [h]) <;> (try simp only [athA, ne_eq] at h) <;> (try (exfalso; omega)))
      | (refine dgK_cases (fun h => ?_) (fun h => ?_) <;> (try simp only [h]) <;> (try simp only [athA, ne_eq] at h) <;> (try (exfalso; omega)))
      | refine hwp_draw mixed rfl ?_

    all_goals exact ⟨rfl, rfl⟩
theorem texts16 {hs : HS} {a b : HV} {x y : List (List UInt8)} (ha : Rd hs 1 a x.length (x.map HV.str)) (hb : Rd hs 1 b y.length (y.map HV.str)) (hx : x.length < 9223372036854775807) (hy : y.length < 9223372036854775807) : HC Tryd.prog 16 [a, b] hs fun v hs' => v = .bool (x == y) ∧ hs' = hs := by
  have la := ha.len
  have lb := hb.len
  have oa := ha.sOk
  have ob := hb.sOk
  refine HC.wp mixed Tryd.func16 c16 ?_
  by_cases hxy : x.length = y.length
  · have d0 : decide (((x.length : Nat) : Int) = ((y.length : Nat) : Int)) = true := decide_eq_true (by omega)
    repeat' first
      | simp -implicitDefEqProofs (disch := first | omega | decide | exact rfl | assumption | exact Nat.le_of_ble_eq_true rfl | exact One.c | exact One.o) only [vsA, vsB, eq_self, if_true, if_false, implies_true, false_implies, evp, HX.ev, Nat.reduceAdd, HOp.looks, Nat.reduceEqDiff, overw, Nat.reduceBEq, h16, la, lb, d0, ub16, frame0, List.replicate, Nat.sub]
      | (refine condK_cases (fun h => ?_) (fun h => ?_) <;> (try simp only [h]) <;> (try simp only [athA, ne_eq] at h) <;> (try (exfalso; omega)))
      | (refine guardK_cases (fun h => ?_) (fun h => ?_) <;> (try simp only [h]) <;> (try simp only [athA, ne_eq] at h) <;> (try (exfalso; omega)))
      | (refine dgK_cases (fun h => ?_) (fun h => ?_) <;> (try simp only [h]) <;> (try simp only [athA, ne_eq] at h) <;> (try (exfalso; omega)))
      | refine hwp_draw mixed rfl ?_

    refine HW.loopR mixed (fun i : Nat => (a :: b :: .undef :: .undef :: .undef :: .undef :: .undef :: .undef :: .undef :: .undef :: .undef :: .undef :: .int .i64 (x.length : Nat) :: .int .i64 (i : Nat) :: .undef :: .undef :: .undef :: .undef :: .undef :: .undef :: .undef :: .undef :: .undef :: .undef :: .undef :: .undef :: [])) (fun i => x.length - i) (fun i => i ≤ x.length ∧ x.take i = y.take i) 0 ⟨Nat.zero_le _, rfl⟩ (by (repeat first | exact Less.nil | refine Less.undef _ ?_ | refine Less.keep _ ?_)) ?_
    rintro i ⟨hi, he⟩
    by_cases h : i < x.length
    · have dl : decide (((i : Nat) : Int) < ((x.length : Nat) : Int)) = true := decide_eq_true (by omega)
      obtain ⟨cx, gx⟩ : ∃ c, x[i]? = some c := ⟨_, List.getElem?_eq_getElem h⟩
      obtain ⟨cy, gy⟩ : ∃ c, y[i]? = some c := ⟨_, List.getElem?_eq_getElem (by omega)⟩
      obtain ⟨p, hp1, hp2⟩ := ha.idx1 (sget gx) .i64
      obtain ⟨q, hq1, hq2⟩ := hb.idx1 (sget gy) .i64
      cases hd : (cx == cy) with
      | false =>
        rw [beq_at gx gy hd]
        have du := True.intro
        repeat' first
          | simp -implicitDefEqProofs (disch := first | omega | decide | exact rfl | assumption | exact Nat.le_of_ble_eq_true rfl | exact One.c | exact One.o) only [vsA, vsB, eq_self, if_true, if_false, implies_true, false_implies, evp, HX.ev, Nat.reduceAdd, HOp.looks, Nat.reduceEqDiff, overw, Nat.reduceBEq, dl, hp1, hp2, hq1, hq2, oa, ob, vb_sneq, hd, vadd1, Bool.not_true, Bool.not_false, ub16]
          | (refine condK_cases (fun h => ?_) (fun h => ?_) <;> (try simp only [h]) <;> (try simp only [athA, ne_eq] at h) <;> (try (exfalso; omega)))
          | (refine guardK_cases (fun h => ?_) (fun h => ?_) <;> (try simp only [h]) <;> (try simp only [athA, ne_eq] at h) <;> (try (exfalso; omega)))
          | (refine dgK_cases (fun h => ?_) (fun h => ?_) <;> (try simp only [h]) <;> (try simp only [athA, ne_eq] at h) <;> (try (exfalso; omega)))
          | refine hwp_draw mixed rfl ?_

        all_goals exact ⟨rfl, rfl⟩
      | true =>
        have heq : cx = cy := by simpa using hd
        have du := True.intro
        repeat' first
          | simp -implicitDefEqProofs (disch := first | omega | decide | exact rfl | assumption | exact Nat.le_of_ble_eq_true rfl | exact One.c | exact One.o) only [vsA, vsB, eq_self, if_true, if_false, implies_true, false_implies, evp, HX.ev, Nat.reduceAdd, HOp.looks, Nat.reduceEqDiff, overw, Nat.reduceBEq, dl, hp1, hp2, hq1, hq2, oa, ob, vb_sneq, hd, vadd1, Bool.not_true, Bool.not_false, ub16]
          | (refine condK_cases (fun h => ?_) (fun h => ?_) <;> (try simp only [h]) <;> (try simp only [athA, ne_eq] at h) <;> (try (exfalso; omega)))
          | (refine guardK_cases (fun h => ?_) (fun h => ?_) <;> (try simp only [h]) <;> (try simp only [athA, ne_eq] at h) <;> (try (exfalso; omega)))
          | (refine dgK_cases (fun h => ?_) (fun h => ?_) <;> (try simp only [h]) <;> (try simp only [athA, ne_eq] at h) <;> (try (exfalso; omega)))
          | refine hwp_draw mixed rfl ?_

        exact ⟨i + 1, by omega, ⟨by omega, by rw [List.take_add_one, List.take_add_one, he, gx, gy, heq]⟩, (by (repeat first | exact Less.nil | refine Less.undef _ ?_ | refine Less.keep _ ?_))⟩
    · obtain rfl : i = x.length := by omega
      have dl : decide (((x.length : Nat) : Int) < ((x.length : Nat) : Int)) = false := decide_eq_false (by omega)
      have e : (x == y) = true := by
        rw [List.take_of_length_le (Nat.le_refl _), List.take_of_length_le (by omega)] at he
        rw [he]; simp
      rw [e]
      repeat' first
        | simp -implicitDefEqProofs (disch := first | omega | decide | exact rfl | assumption | exact Nat.le_of_ble_eq_true rfl | exact One.c | exact One.o) only [vsA, vsB, eq_self, if_true, if_false, implies_true, false_implies, evp, HX.ev, Nat.reduceAdd, HOp.looks, Nat.reduceEqDiff, overw, Nat.reduceBEq, dl, ub16]
        | (refine condK_cases (fun h => ?_) (fun h => ?_) <;> (try simp only [h]) <;> (try simp only [athA, ne_eq] at h) <;> (try (exfalso; omega)))
        | (refine guardK_cases (fun h => ?_) (fun h => ?_) <;> (try simp only [h]) <;> (try simp only [athA, ne_eq] at h) <;> (try (exfalso; omega)))
        | (refine dgK_cases (fun h => ?_) (fun h => ?_) <;> (try simp only [h]) <;> (try simp only [athA, ne_eq] at h) <;> (try (exfalso; omega)))
        | refine hwp_draw mixed rfl ?_

      all_goals exact ⟨rfl, rfl⟩
  · have d0 : decide (((x.length : Nat) : Int) = ((y.length : Nat) : Int)) = false := decide_eq_false (by omega)
    rw [beq_len hxy]
    repeat' first
      | simp -implicitDefEqProofs (disch := first | omega | decide | exact rfl | assumption | exact Nat.le_of_ble_eq_true rfl | exact One.c | exact One.o) only [vsA, vsB, eq_self, if_true, if_false, implies_true, false_implies, evp, HX.ev, Nat.reduceAdd, HOp.looks, Nat.reduceEqDiff, overw, Nat.reduceBEq, h16, la, lb, d0, ub16, frame0, List.replicate, Nat.sub]
      | (refine condK_cases (fun h => ?_) (fun h => ?_) <;> (try simp only [h]) <;> (try simp only [athA, ne_eq] at h) <;> (try (exfalso; omega)))
      | (refine guardK_cases (fun h => ?_) (fun h => ?_) <;> (try simp only [h]) <;> (try simp only [athA, ne_eq] at h) <;> (try (exfalso; omega)))
      | (refine dgK_cases (fun h => ?_) (fun h => ?_) <;> (try simp only [h]) <;> (try simp only [athA, ne_eq] at h) <;> (try (exfalso; omega)))
      | refine hwp_draw mixed rfl ?_

    all_goals exact ⟨rfl, rfl⟩
theorem pairs22 {hs : HS} {a b : HV} {x y : List Pr} (ha : Rd hs 2 a x.length (x.flatMap prC)) (hb : Rd hs 2 b y.length (y.flatMap prC)) (hx : x.length < 9223372036854775807) (hy : y.length < 9223372036854775807) : HC Tryd.prog 22 [a, b] hs fun v hs' => v = .bool (x == y) ∧ hs' = hs := by
  have la := ha.len
  have lb := hb.len
  have oa := ha.sOk
  have ob := hb.sOk
  refine HC.wp mixed Tryd.func22 c22 ?_
  by_cases hxy : x.length = y.length
  · have d0 : decide (((x.length : Nat) : Int) = ((y.length : Nat) : Int)) = true := decide_eq_true (by omega)
    repeat' first
      | simp -implicitDefEqProofs (disch := first | omega | decide | exact rfl | assumption | exact Nat.le_of_ble_eq_true rfl | exact One.c | exact One.o) only [vsA, vsB, eq_self, if_true, if_false, implies_true, false_implies, evp, HX.ev, Nat.reduceAdd, HOp.looks, Nat.reduceEqDiff, overw, Nat.reduceBEq, h22, la, lb, d0, ub22, frame0, List.replicate, Nat.sub]
      | (refine condK_cases (fun h => ?_) (fun h => ?_) <;> (try simp only [h]) <;> (try simp only [athA, ne_eq] at h) <;> (try (exfalso; omega)))
      | (refine guardK_cases (fun h => ?_) (fun h => ?_) <;> (try simp only [h]) <;> (try simp only [athA, ne_eq] at h) <;> (try (exfalso; omega)))
      | (refine dgK_cases (fun h => ?_) (fun h => ?_) <;> (try simp only [h]) <;> (try simp only [athA, ne_eq] at h) <;> (try (exfalso; omega)))
      | refine hwp_draw mixed rfl ?_

    refine HW.loopR mixed (fun i : Nat => (a :: b :: .undef :: .undef :: .undef :: .undef :: .undef :: .undef :: .undef :: .undef :: .undef :: .undef :: .int .i64 (x.length : Nat) :: .int .i64 (i : Nat) :: .undef :: .undef :: .undef :: .undef :: .undef :: .undef :: .undef :: .undef :: .undef :: .undef :: .undef :: .undef :: [])) (fun i => x.length - i) (fun i => i ≤ x.length ∧ x.take i = y.take i) 0 ⟨Nat.zero_le _, rfl⟩ (by (repeat first | exact Less.nil | refine Less.undef _ ?_ | refine Less.keep _ ?_)) ?_
    rintro i ⟨hi, he⟩
    by_cases h : i < x.length
    · have dl : decide (((i : Nat) : Int) < ((x.length : Nat) : Int)) = true := decide_eq_true (by omega)
      obtain ⟨cx, gx⟩ : ∃ c, x[i]? = some c := ⟨_, List.getElem?_eq_getElem h⟩
      obtain ⟨cy, gy⟩ : ∃ c, y[i]? = some c := ⟨_, List.getElem?_eq_getElem (by omega)⟩
      obtain ⟨p1, p2, hp1, _, hp2⟩ := ha.idxF (s := 2) (fun _ => rfl) rfl gx .i64
      obtain ⟨q1, q2, hq1, _, hq2⟩ := hb.idxF (s := 2) (fun _ => rfl) rfl gy .i64
      unfold prC at hp2 hq2
      cases hd : (cx == cy) with
      | false =>
        rw [beq_at gx gy hd]
        have du := True.intro
        repeat' first
          | simp -implicitDefEqProofs (disch := first | omega | decide | exact rfl | assumption | exact Nat.le_of_ble_eq_true rfl | exact One.c | exact One.o) only [vsA, vsB, eq_self, if_true, if_false, implies_true, false_implies, evp, HX.ev, Nat.reduceAdd, HOp.looks, Nat.reduceEqDiff, overw, Nat.reduceBEq, dl, hp1, hp2, hq1, hq2, oa, ob, pr_neq, hd, vadd1, Bool.not_true, Bool.not_false, ub22]
          | (refine condK_cases (fun h => ?_) (fun h => ?_) <;> (try simp only [h]) <;> (try simp only [athA, ne_eq] at h) <;> (try (exfalso; omega)))
          | (refine guardK_cases (fun h => ?_) (fun h => ?_) <;> (try simp only [h]) <;> (try simp only [athA, ne_eq] at h) <;> (try (exfalso; omega)))
          | (refine dgK_cases (fun h => ?_) (fun h => ?_) <;> (try simp only [h]) <;> (try simp only [athA, ne_eq] at h) <;> (try (exfalso; omega)))
          | refine hwp_draw mixed rfl ?_

        all_goals exact ⟨rfl, rfl⟩
      | true =>
        have heq : cx = cy := by simpa using hd
        have du := True.intro
        repeat' first
          | simp -implicitDefEqProofs (disch := first | omega | decide | exact rfl | assumption | exact Nat.le_of_ble_eq_true rfl | exact One.c | exact One.o) only [vsA, vsB, eq_self, if_true, if_false, implies_true, false_implies, evp, HX.ev, Nat.reduceAdd, HOp.looks, Nat.reduceEqDiff, overw, Nat.reduceBEq, dl, hp1, hp2, hq1, hq2, oa, ob, pr_neq, hd, vadd1, Bool.not_true, Bool.not_false, ub22]
          | (refine condK_cases (fun h => ?_) (fun h => ?_) <;> (try simp only [h]) <;> (try simp only [athA, ne_eq] at h) <;> (try (exfalso; omega)))
          | (refine guardK_cases (fun h => ?_) (fun h => ?_) <;> (try simp only [h]) <;> (try simp only [athA, ne_eq] at h) <;> (try (exfalso; omega)))
          | (refine dgK_cases (fun h => ?_) (fun h => ?_) <;> (try simp only [h]) <;> (try simp only [athA, ne_eq] at h) <;> (try (exfalso; omega)))
          | refine hwp_draw mixed rfl ?_

        exact ⟨i + 1, by omega, ⟨by omega, by rw [List.take_add_one, List.take_add_one, he, gx, gy, heq]⟩, (by (repeat first | exact Less.nil | refine Less.undef _ ?_ | refine Less.keep _ ?_))⟩
    · obtain rfl : i = x.length := by omega
      have dl : decide (((x.length : Nat) : Int) < ((x.length : Nat) : Int)) = false := decide_eq_false (by omega)
      have e : (x == y) = true := by
        rw [List.take_of_length_le (Nat.le_refl _), List.take_of_length_le (by omega)] at he
        rw [he]; simp
      rw [e]
      repeat' first
        | simp -implicitDefEqProofs (disch := first | omega | decide | exact rfl | assumption | exact Nat.le_of_ble_eq_true rfl | exact One.c | exact One.o) only [vsA, vsB, eq_self, if_true, if_false, implies_true, false_implies, evp, HX.ev, Nat.reduceAdd, HOp.looks, Nat.reduceEqDiff, overw, Nat.reduceBEq, dl, ub22]
        | (refine condK_cases (fun h => ?_) (fun h => ?_) <;> (try simp only [h]) <;> (try simp only [athA, ne_eq] at h) <;> (try (exfalso; omega)))
        | (refine guardK_cases (fun h => ?_) (fun h => ?_) <;> (try simp only [h]) <;> (try simp only [athA, ne_eq] at h) <;> (try (exfalso; omega)))
        | (refine dgK_cases (fun h => ?_) (fun h => ?_) <;> (try simp only [h]) <;> (try simp only [athA, ne_eq] at h) <;> (try (exfalso; omega)))
        | refine hwp_draw mixed rfl ?_

      all_goals exact ⟨rfl, rfl⟩
  · have d0 : decide (((x.length : Nat) : Int) = ((y.length : Nat) : Int)) = false := decide_eq_false (by omega)
    rw [beq_len hxy]
    repeat' first
      | simp -implicitDefEqProofs (disch := first | omega | decide | exact rfl | assumption | exact Nat.le_of_ble_eq_true rfl | exact One.c | exact One.o) only [vsA, vsB, eq_self, if_true, if_false, implies_true, false_implies, evp, HX.ev, Nat.reduceAdd, HOp.looks, Nat.reduceEqDiff, overw, Nat.reduceBEq, h22, la, lb, d0, ub22, frame0, List.replicate, Nat.sub]
      | (refine condK_cases (fun h => ?_) (fun h => ?_) <;> (try simp only [h]) <;> (try simp only [athA, ne_eq] at h) <;> (try (exfalso; omega)))
      | (refine guardK_cases (fun h => ?_) (fun h => ?_) <;> (try simp only [h]) <;> (try simp only [athA, ne_eq] at h) <;> (try (exfalso; omega)))
      | (refine dgK_cases (fun h => ?_) (fun h => ?_) <;> (try simp only [h]) <;> (try simp only [athA, ne_eq] at h) <;> (try (exfalso; omega)))
      | refine hwp_draw mixed rfl ?_

    all_goals exact ⟨rfl, rfl⟩
end A
end Go.Proofs.YteedmbmgemiheaaDoor
