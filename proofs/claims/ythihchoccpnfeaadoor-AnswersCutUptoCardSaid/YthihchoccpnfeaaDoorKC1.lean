/-
  What a memory is at the beginning (the tables of this program), for the rows of this seat.
  names.Valid and stintref05.Valid: what they answer at any text.
  answers: a kind's word, the bound of its body, a number printed: what these answer.
  answers.Check: what it answers of any reply.
  answers.Put: what it answers of any reply.
  The plain law of AnswersUnlike: of two replies that may be, the bytes of one begin those of the other just where they are alike.
  answers, plainly: how bytes are read as a reply.
  answers, plainly: a kind's form, over bytes.
  answers, plainly: replies that bytes begin with.
  answers, plainly: what is read is what was written.
  answers, plainly: what was written is read; how bytes are cut is not seen.
  answers, plainly: all that is read of bytes, however they come.
  answers: the cursor.
-/
import Derived.Test.YthihchoccpnfeaaDoorRows
import Derived.Test.YthihchoccpnfeaaDoorKCHLShape
import Derived.Test.YthihchoccpnfeaaDoorKCHLRow
import Derived.Test.YthihchoccpnfeaaDoorKCHLArg
import Derived.Test.YthihchoccpnfeaaDoorKCHLItoa
import Derived.Test.YthihchoccpnfeaaDoorCards
import Derived.Test.YthihchoccpnfeaaDoorTie
import Derived.ProofKit
import Derived.Lib.LaidTab
import Derived.Stop.LaidErr
import Derived.MakeChecks
import Derived.LaidMore
import Derived.OpenShut
import Derived.Stop.Joined
import Derived.SevenTiedAt
import Derived.SizedLaws
import Derived.HandedShaped
import Derived.Carry
import Derived.OpenVars
import Derived.Lay
import Derived.Test.YthihchoccpnfeaaDoorKCHLRound
import Derived.Test.YthihchoccpnfeaaDoorKCHLVs
import Derived.Test.YthihchoccpnfeaaDoorProg
import Derived.KernelRfl
import Derived.Test.YthihchoccpnfeaaDoorKCHLExt
import Derived.Test.YthihchoccpnfeaaDoorKCHLSym
import Derived.Test.YthihchoccpnfeaaDoorKCHLTail
import Derived.Shelf.LaysM
import Derived.Shelf.Strconv.Itoa3
import Derived.Test.YthihchoccpnfeaaDoorKCHLOwn
import Derived.Test.YthihchoccpnfeaaDoorKCHLByte
import Derived.Lib.ItoaLen
import Derived.Test.YthihchoccpnfeaaDoorKCHLHand
import Derived.Test.YthihchoccpnfeaaDoorKCHLKeep
namespace Go.Proofs.YthihchoccpnfeaaDoor
open Go Go.HL Go.ChangeShapes Go.WideShapes Go.ChangeAt Go.ChangeMaps Go.RowKit
namespace W0
set_option maxRecDepth 100000
set_option linter.unusedSimpArgs false
theorem hasTab_of : ∀ {h : HS} {i g : Nat} {k : IntKind} {zs : List Int}, h[i]? = some (some (HB.gtab g k zs)) → hasTab h g k zs = true
  | [], i, g, k, zs, e => by simp at e
  | b :: r, 0, g, k, zs, e => by
    simp at e; subst e
    simp [hasTab]
  | b :: r, i + 1, g, k, zs, e => by
    have ih := hasTab_of (h := r) (i := i) (by simpa using e)
    unfold hasTab
    split <;> simp_all
theorem own : ownKnob Tryd.prog.godebug = none := by kernel_rfl
theorem laidOut : laidOutB Tryd.prog = true := by kernel_rfl
def hs1 : HS := [some (.cells 1 (Lib.pow10Tab.map (HV.int .u64)) true false []), some (.gpin 1 0), some (.gtab 1 .u64 Lib.pow10Tab)]
theorem emb_tab3 {P : Program} {w : World} {name : String} {k : IntKind} {zs : List Int} {g : Nat} (hg : P.globalNamed name = some g) (h : Lib.TabIs P w name k zs) :
    Emb [⟨g, 0, zs.length, 1⟩, ⟨g, 0, 1, 1⟩, ⟨g, 0, 1, 1⟩] [some (.cells 1 (zs.map (HV.int k)) true false []), some (.gpin g 0), some (.gtab g k zs)] w := by
  have hb : ∃ t fz, w.heap[g]? = some (.cells (zs.map fun z => Value.int k z).toArray t fz) := by
    unfold Lib.TabIs at h
    simp only [World.var?, hg, Option.bind_some] at h
    split at h
    · rename_i cs t fz hc
      simp at h; subst h
      exact ⟨t, fz, by simpa using hc⟩
    · simp at h
  obtain ⟨t, fz, hb⟩ := hb
  refine ⟨rfl, fun i e b h1 h2 => ?_, fun i j e e' b b' _ _ _ _ h4 _ hro => ?_⟩
  · have hi : i = 0 ∨ i = 1 ∨ i = 2 := by have := lt_of_get h1; simp at this; omega
    rcases hi with rfl | rfl | rfl
    · simp at h1 h2; subst h1 h2
      refine ⟨rfl, _, t, fz, hb, fun h => by simp at h, by simp, by simp, fun i x hx => ?_⟩
      rw [List.getElem?_map, Option.map_eq_some_iff] at hx
      obtain ⟨z, hz, rfl⟩ := hx
      exact ⟨.int k z, by simp [hz], rfl, rfl⟩
    · simp at h1 h2; subst h1 h2
      exact ⟨rfl, rfl, ⟨_, hb⟩, _, rfl, rfl, rfl⟩
    · simp at h1 h2; subst h1 h2
      exact ⟨rfl, rfl, t, fz, hb⟩
  · have hj : j = 0 ∨ j = 1 ∨ j = 2 := by have := lt_of_get h4; simp at this; omega
    rcases hj with rfl | rfl | rfl
    · simp at h4; subst h4; simp [HB.ro] at hro
    · simp at h4; subst h4; simp [HB.ro] at hro
    · simp at h4; subst h4; simp [HB.ro] at hro
theorem ro1 : AllRo hs1 := by
  intro i b h
  have hi : i = 0 ∨ i = 1 ∨ i = 2 := by have := lt_of_get h; simp [hs1] at this; omega
  rcases hi with rfl | rfl | rfl <;> (simp [hs1] at h; subst h; rfl)
def laid3 : List (String × DataW Unit) := [("math/bits.deBruijn32tab", Rows.laid_math_bits_deBruijn32tab), ("math/bits.deBruijn64tab", Rows.laid_math_bits_deBruijn64tab), ("internal/strconv.uint64pow10", Rows.laid_internal_strconv_uint64pow10)]
theorem pow_of_laidR {W : World} (h : laidMetH Tryd.prog laid3 W) : Lib.TabIs Tryd.prog W "internal/strconv.uint64pow10" .u64 Lib.pow10Tab := by
  rw [MakeChecks.laidMetH_plain _ _ _ (by kernel_rfl)] at h
  have h2 : laidMet Tryd.prog [("internal/strconv.uint64pow10", Lib.tabData .u64 Lib.pow10Tab)] W := h.tail.tail
  exact Lib.tabIs_of_head (g := 1) (by kernel_rfl) (by kernel_rfl) Tryd.underlying113 Tryd.underlying106 (by kernel_rfl) (by kernel_rfl) h2

theorem bulk_one {H : Type} (d : DataW H) : 1 ≤ Rows.uptoBulk d := by
  cases d with
  | lit l => cases l <;> simp [Rows.uptoBulk]
  | _ => simp [Rows.uptoBulk]
theorem bulk_len {H : Type} : ∀ ds : List (DataW H), ds.length ≤ Rows.uptoBulkAll ds
  | [] => by simp
  | d :: ds => by
    have h1 := bulk_one d
    have := bulk_len ds
    simp only [List.length_cons, Rows.uptoBulkAll]; omega
theorem bulk_mem {H : Type} : ∀ {ds : List (DataW H)} {i : Nat} {d : DataW H}, ds[i]? = some d → Rows.uptoBulk d ≤ Rows.uptoBulkAll ds
  | d :: ds, 0, _, h => by simp only [List.getElem?_cons_zero, Option.some.injEq] at h; subst h; simp only [Rows.uptoBulkAll]; omega
  | d :: ds, i + 1, _, h => by
    have := bulk_mem (ds := ds) (i := i) (by simpa using h)
    simp only [Rows.uptoBulkAll]; omega
def bulkS {H : Type} : DataW H ⊕ List (DataW H) → Nat
  | .inl d => Rows.uptoBulk d
  | .inr ds => Rows.uptoBulkAll ds
/-- what is of small bulk has short lists. -/
theorem small_of {H : Type} {n : Nat} : ∀ (s : Sh) {d : DataW H ⊕ List (DataW H)} {a : s.D} (_ : s.Of d a) (_ : bulkS d ≤ n), s.Small n a
  | .int, _, _, _, _ => trivial
  | .bool, _, _, _, _ => trivial
  | .str, .inl d, t, h, hb => by
    have h : d = .lit (.string t) := h
    subst h
    have : t.length + 1 ≤ n := hb
    show t.length ≤ n
    omega
  | .bytes, .inl d, a, h, hb => by
    show a.2.length ≤ n
    rcases h with h | ⟨el, sp, rfl, h5⟩
    · rw [h]; simp
    · have := bulk_len el
      simp only [bulkS, Rows.uptoBulk] at hb; omega
  | .sl e, .inl d, a, h, hb => by
    rcases h with h | ⟨el, sp, rfl, h6, h7⟩
    · exact ⟨by rw [h]; simp, fun y hy => by rw [h] at hy; cases hy⟩
    · simp only [bulkS, Rows.uptoBulk] at hb
      have := bulk_len el
      refine ⟨by omega, fun y hy => ?_⟩
      obtain ⟨i, hi⟩ := List.getElem?_of_mem hy
      have hil : i < el.length := by have := lt_of_get hi; omega
      have hd := List.getElem?_eq_getElem hil
      have hm := bulk_mem hd
      exact small_of e (d := .inl el[i]) (h7 i _ y hd hi) (by simp only [bulkS]; omega)
  | .st f, .inl d, a, h, hb => by
    obtain ⟨ds, rfl, h4⟩ := h
    exact small_of f (d := .inr ds) h4 (by simp only [bulkS, Rows.uptoBulk] at hb ⊢; omega)
  | .nil, _, _, _, _ => trivial
  | .cons a r, .inr ds, x, h, hb => by
    obtain ⟨d, ds', rfl, h1, h2⟩ := h
    simp only [bulkS, Rows.uptoBulkAll] at hb
    exact ⟨small_of a (d := .inl d) h1 (by simp only [bulkS]; omega), small_of r (d := .inr ds') h2 (by simp only [bulkS]; omega)⟩

theorem tab_base {g h : HS} {l : List SA} (H : Sat h (HL.base (hs1 ++ g) :: l)) : hasTab h 1 .u64 Lib.pow10Tab = true := hasTab_of (i := 2) (H.base_get rfl)
end W0
end Go.Proofs.YthihchoccpnfeaaDoor
/- The functions, turned (written by program, each checked by the kernel). -/
namespace Go.Proofs.YthihchoccpnfeaaDoor
open Go Go.HL
/-- stint/stintlaw08.AnswersCut -/
def b5_1 : HCode :=
  (.region [
          ⟨(some 40), (.op (.mv (.tmp 11))), none⟩,
          ⟨(some 41), (.op (.mv (.tmp 1))), none⟩,
          ⟨(some 42), (.op (.len .slice (.tmp 41))), none⟩,
          ⟨(some 43), (.op (.bin .lss none (.tmp 40) (.tmp 42))), none⟩,
          ⟨(some 44), (.op (.mv (.tmp 43))), none⟩,
          ⟨(some 45), (.op (.mv (.tmp 10))), (some (44, true))⟩,
          ⟨(some 46), (.op (.mv (.tmp 0))), (some (44, true))⟩,
          ⟨(some 47), (.op (.len .slice (.tmp 46))), (some (44, true))⟩,
          ⟨(some 48), (.op (.bin .lss none (.tmp 45) (.tmp 47))), (some (44, true))⟩,
          ⟨(some 49), (.op (.pick (.tmp 44) (.tmp 48) (.cst (.bool false)))), none⟩] [])
def b5_2 : HCode :=
  (.region [
            ⟨(some 56), (.op (.mv (.tmp 12))), none⟩,
            ⟨(some 57), (.op (.bin .lss none (.tmp 56) (.cst (.int .i64 0)))), none⟩,
            ⟨(some 58), (.op (.mv (.tmp 57))), none⟩,
            ⟨(some 59), (.op (.mv (.tmp 12))), (some (58, false))⟩,
            ⟨(some 60), (.op (.mv (.tmp 0))), (some (58, false))⟩,
            ⟨(some 61), (.op (.len .slice (.tmp 60))), (some (58, false))⟩,
            ⟨(some 62), (.op (.mv (.tmp 10))), (some (58, false))⟩,
            ⟨(some 63), (.op (.bin .sub none (.tmp 61) (.tmp 62))), (some (58, false))⟩,
            ⟨(some 64), (.op (.bin .gtr none (.tmp 59) (.tmp 63))), (some (58, false))⟩,
            ⟨(some 65), (.op (.pick (.tmp 58) (.cst (.bool true)) (.tmp 64))), none⟩] [])
def b5_3 : HCode :=
  (.region [
              ⟨(some 79), (.op (.mv (.tmp 8))), none⟩,
              ⟨(some 80), (.call (.cst (.func (.func 23) [] [])) [(.tmp 79)]), none⟩,
              ⟨(some 78), (.op (.mv (.tmp 80))), none⟩,
              ⟨(some 81), (.op (.ext 0 (.tmp 78))), none⟩,
              ⟨(some 82), (.op (.ext 1 (.tmp 78))), none⟩,
              ⟨(some 83), (.op (.ext 2 (.tmp 78))), none⟩,
              ⟨(some 13), (.op (.box (.cst (.agg [(.int .i64 0), (.int .i64 0), (.int .i64 0), (.str []), .nilSlice])))), none⟩,
              ⟨none, (.op (.store 5 (.tmp 13) (.tmp 81))), none⟩,
              ⟨(some 14), (.op (.mv (.tmp 82))), none⟩,
              ⟨(some 15), (.op (.mv (.tmp 83))), none⟩] [])
def b5_4 : HCode :=
  (.seq (.region [
              ⟨(some 84), (.op (.mv (.tmp 14))), none⟩] []) (.cond (.tmp 84) (.region [
                ⟨(some 85), (.op (.mv (.tmp 9))), none⟩,
                ⟨(some 86), (.op (.load (some 5) (.tmp 13))), none⟩,
                ⟨(some 87), (.op (.bslice 5 1 [(.int .i64 0), (.int .i64 0), (.int .i64 0), (.str []), .nilSlice] [(0, 5, (.tmp 86))])), none⟩,
                ⟨(some 88), (.op (.append 5 64 (.tmp 85) (.tmp 87))), none⟩,
                ⟨(some 9), (.op (.mv (.tmp 88))), none⟩] []) .skip))
def b5_5 : HCode :=
  (.region [
            ⟨(some 66), (.op (.mv (.tmp 8))), none⟩,
            ⟨(some 67), (.op (.mv (.tmp 0))), none⟩,
            ⟨(some 68), (.op (.mv (.tmp 10))), none⟩,
            ⟨(some 69), (.op (.mv (.tmp 10))), none⟩,
            ⟨(some 70), (.op (.mv (.tmp 12))), none⟩,
            ⟨(some 71), (.op (.bin .add none (.tmp 69) (.tmp 70))), none⟩,
            ⟨(some 72), (.op (.sliceSl 1 (.tmp 67) (some (.tmp 68)) (some (.tmp 71)) none)), none⟩,
            ⟨(some 73), (.call (.cst (.func (.func 22) [] [])) [(.tmp 66), (.tmp 72)]), none⟩] [])
def b5_6 : HCode :=
  (.seq (.seq b5_2 (.cond (.tmp 65) (.region [
              ⟨(some 12), (.op (.mv (.cst (.int .i64 0)))), none⟩] []) .skip)) (.seq b5_5 (.seq (.region [
            ⟨(some 74), (.op (.mv (.tmp 10))), none⟩,
            ⟨(some 75), (.op (.mv (.tmp 12))), none⟩,
            ⟨(some 76), (.op (.bin .add none (.tmp 74) (.tmp 75))), none⟩,
            ⟨(some 10), (.op (.mv (.tmp 76))), none⟩] []) (.seq (.region [
            ⟨(some 77), (.op (.mv (.tmp 2))), none⟩] []) (.cond (.tmp 77) (.seq b5_3 b5_4) .skip)))))
def b5_7 : HCode :=
  (.seq (.block 1 (.seq (.region [
            ⟨(some 52), (.op (.mv (.tmp 1))), none⟩,
            ⟨(some 53), (.op (.mv (.tmp 11))), none⟩,
            ⟨(some 54), (.op (.idxS 1 (.tmp 52) (.tmp 53))), none⟩,
            ⟨(some 55), (.op (.load none (.tmp 54))), none⟩,
            ⟨(some 12), (.op (.mv (.tmp 55))), none⟩] []) b5_6)) (.region [
          ⟨(some 50), (.op (.mv (.tmp 11))), none⟩,
          ⟨(some 51), (.op (.bin .add none (.tmp 50) (.cst (.int .i64 1)))), none⟩,
          ⟨(some 11), (.op (.mv (.tmp 51))), none⟩] []))
def b5_8 : HCode :=
  (.region [
              ⟨(some 112), (.op (.mv (.tmp 8))), none⟩,
              ⟨(some 113), (.call (.cst (.func (.func 23) [] [])) [(.tmp 112)]), none⟩,
              ⟨(some 111), (.op (.mv (.tmp 113))), none⟩,
              ⟨(some 114), (.op (.ext 0 (.tmp 111))), none⟩,
              ⟨(some 115), (.op (.ext 1 (.tmp 111))), none⟩,
              ⟨(some 116), (.op (.ext 2 (.tmp 111))), none⟩,
              ⟨none, (.op (.store 5 (.tmp 21) (.tmp 114))), none⟩,
              ⟨(some 22), (.op (.mv (.tmp 115))), none⟩,
              ⟨(some 23), (.op (.mv (.tmp 116))), none⟩] [])
def b5_9 : HCode :=
  (.region [
            ⟨(some 117), (.op (.mv (.tmp 19))), none⟩,
            ⟨(some 118), (.op (.mv (.tmp 22))), none⟩,
            ⟨(some 119), (.op (.bin .neq (some .bool) (.tmp 117) (.tmp 118))), none⟩,
            ⟨(some 120), (.op (.mv (.tmp 119))), none⟩,
            ⟨(some 121), (.op (.mv (.tmp 20))), (some (120, false))⟩,
            ⟨(some 122), (.op (.mv (.tmp 23))), (some (120, false))⟩,
            ⟨(some 123), (.op (.bin .neq (some .int) (.tmp 121) (.tmp 122))), (some (120, false))⟩,
            ⟨(some 124), (.op (.pick (.tmp 120) (.cst (.bool true)) (.tmp 123))), none⟩,
            ⟨(some 125), (.op (.mv (.tmp 124))), none⟩,
            ⟨(some 126), (.op (.load (some 5) (.tmp 18))), (some (125, false))⟩,
            ⟨(some 127), (.op (.load (some 5) (.tmp 21))), (some (125, false))⟩,
            ⟨(some 128), (.call (.cst (.func (.func 24) [] [])) [(.tmp 126), (.tmp 127)]), (some (125, false))⟩,
            ⟨(some 129), (.op (.un .not (.tmp 128))), (some (125, false))⟩,
            ⟨(some 130), (.op (.pick (.tmp 125) (.cst (.bool true)) (.tmp 129))), none⟩] [])
def b5_10 : HCode :=
  (.region [
              ⟨(some 133), (.op (.mv (.tmp 7))), none⟩,
              ⟨(some 134), (.call (.cst (.func (.func 25) [] [])) [(.tmp 133)]), none⟩,
              ⟨(some 135), (.op (.mv (.tmp 8))), none⟩,
              ⟨(some 136), (.call (.cst (.func (.func 25) [] [])) [(.tmp 135)]), none⟩,
              ⟨(some 137), (.op (.bin .eql (some .int) (.tmp 134) (.tmp 136))), none⟩,
              ⟨(some 138), (.op (.mv (.tmp 137))), none⟩,
              ⟨(some 139), (.op (.mv (.tmp 7))), (some (138, true))⟩,
              ⟨(some 140), (.call (.cst (.func (.func 25) [] [])) [(.tmp 139)]), (some (138, true))⟩,
              ⟨(some 141), (.op (.bin .geq none (.tmp 140) (.cst (.int .i64 0)))), (some (138, true))⟩,
              ⟨(some 142), (.op (.pick (.tmp 138) (.tmp 141) (.cst (.bool false)))), none⟩,
              ⟨(some 143), (.op (.mv (.tmp 142))), none⟩,
              ⟨(some 144), (.op (.mv (.tmp 7))), (some (143, true))⟩,
              ⟨(some 145), (.call (.cst (.func (.func 25) [] [])) [(.tmp 144)]), (some (143, true))⟩,
              ⟨(some 146), (.op (.mv (.tmp 0))), (some (143, true))⟩,
              ⟨(some 147), (.op (.len .slice (.tmp 146))), (some (143, true))⟩,
              ⟨(some 148), (.op (.mv (.tmp 16))), (some (143, true))⟩,
              ⟨(some 149), (.op (.bin .sub none (.tmp 147) (.tmp 148))), (some (143, true))⟩,
              ⟨(some 150), (.op (.bin .leq none (.tmp 145) (.tmp 149))), (some (143, true))⟩,
              ⟨(some 151), (.op (.pick (.tmp 143) (.tmp 150) (.cst (.bool false)))), none⟩,
              ⟨(some 152), (.op (.mv (.tmp 151))), none⟩,
              ⟨(some 153), (.op (.mv (.tmp 20))), (some (152, true))⟩,
              ⟨(some 154), (.op (.bin .eql (some .int) (.tmp 153) (.cst (.int .i64 0)))), (some (152, true))⟩,
              ⟨(some 155), (.op (.mv (.tmp 7))), (some (152, true))⟩,
              ⟨(some 156), (.call (.cst (.func (.func 25) [] [])) [(.tmp 155)]), (some (152, true))⟩,
              ⟨(some 157), (.op (.mv (.tmp 0))), (some (152, true))⟩,
              ⟨(some 158), (.op (.len .slice (.tmp 157))), (some (152, true))⟩,
              ⟨(some 159), (.op (.mv (.tmp 16))), (some (152, true))⟩,
              ⟨(some 160), (.op (.bin .sub none (.tmp 158) (.tmp 159))), (some (152, true))⟩,
              ⟨(some 161), (.op (.bin .eql (some .int) (.tmp 156) (.tmp 160))), (some (152, true))⟩,
              ⟨(some 162), (.op (.mv (.tmp 161))), (some (152, true))⟩,
              ⟨(some 163), (.op (.mv (.tmp 0))), (some (162, true))⟩,
              ⟨(some 164), (.op (.mv (.tmp 16))), (some (162, true))⟩,
              ⟨(some 165), (.op (.sliceSl 1 (.tmp 163) (some (.tmp 164)) none none)), (some (162, true))⟩,
              ⟨(some 166), (.call (.cst (.func (.func 26) [] [])) [(.tmp 165)]), (some (162, true))⟩,
              ⟨(some 167), (.op (.un .not (.tmp 166))), (some (162, true))⟩,
              ⟨(some 168), (.op (.pick (.tmp 162) (.tmp 167) (.cst (.bool false)))), (some (152, true))⟩,
              ⟨(some 169), (.op (.bin .eql (some .bool) (.tmp 154) (.tmp 168))), (some (152, true))⟩,
              ⟨(some 170), (.op (.pick (.tmp 152) (.tmp 169) (.cst (.bool false)))), none⟩,
              ⟨(some 171), (.op (.mv (.tmp 170))), none⟩,
              ⟨(some 172), (.op (.mv (.tmp 20))), (some (171, true))⟩,
              ⟨(some 173), (.op (.bin .eql (some .int) (.tmp 172) (.cst (.int .i64 0)))), (some (171, true))⟩,
              ⟨(some 174), (.op (.mv (.tmp 173))), (some (171, true))⟩,
              ⟨(some 175), (.op (.mv (.tmp 20))), (some (174, false))⟩,
              ⟨(some 176), (.op (.bin .eql (some .int) (.tmp 175) (.cst (.int .i64 82)))), (some (174, false))⟩,
              ⟨(some 177), (.op (.pick (.tmp 174) (.cst (.bool true)) (.tmp 176))), (some (171, true))⟩,
              ⟨(some 178), (.op (.pick (.tmp 171) (.tmp 177) (.cst (.bool false)))), none⟩,
              ⟨(some 6), (.op (.mv (.tmp 178))), none⟩] [])
def b5_11 : HCode :=
  (.region [
            ⟨(some 184), (.op (.mv (.tmp 25))), none⟩,
            ⟨(some 185), (.op (.bin .neq (some .int) (.tmp 184) (.cst (.int .i64 0)))), none⟩,
            ⟨(some 186), (.op (.mv (.tmp 185))), none⟩,
            ⟨(some 187), (.op (.mv (.tmp 24))), (some (186, false))⟩,
            ⟨(some 188), (.op (.len .slice (.tmp 187))), (some (186, false))⟩,
            ⟨(some 189), (.op (.mv (.tmp 0))), (some (186, false))⟩,
            ⟨(some 190), (.op (.len .slice (.tmp 189))), (some (186, false))⟩,
            ⟨(some 191), (.op (.mv (.tmp 16))), (some (186, false))⟩,
            ⟨(some 192), (.op (.bin .sub none (.tmp 190) (.tmp 191))), (some (186, false))⟩,
            ⟨(some 193), (.op (.bin .gtr none (.tmp 188) (.tmp 192))), (some (186, false))⟩,
            ⟨(some 194), (.op (.pick (.tmp 186) (.cst (.bool true)) (.tmp 193))), none⟩,
            ⟨(some 195), (.op (.mv (.tmp 194))), none⟩,
            ⟨(some 196), (.op (.mv (.tmp 24))), (some (195, false))⟩,
            ⟨(some 197), (.op (.mv (.tmp 0))), (some (195, false))⟩,
            ⟨(some 198), (.op (.mv (.tmp 16))), (some (195, false))⟩,
            ⟨(some 199), (.op (.mv (.tmp 16))), (some (195, false))⟩,
            ⟨(some 200), (.op (.mv (.tmp 24))), (some (195, false))⟩,
            ⟨(some 201), (.op (.len .slice (.tmp 200))), (some (195, false))⟩,
            ⟨(some 202), (.op (.bin .add none (.tmp 199) (.tmp 201))), (some (195, false))⟩,
            ⟨(some 203), (.op (.sliceSl 1 (.tmp 197) (some (.tmp 198)) (some (.tmp 202)) none)), (some (195, false))⟩,
            ⟨(some 204), (.call (.cst (.func (.func 14) [] [])) [(.tmp 196), (.tmp 203)]), (some (195, false))⟩,
            ⟨(some 205), (.op (.un .not (.tmp 204))), (some (195, false))⟩,
            ⟨(some 206), (.op (.pick (.tmp 195) (.cst (.bool true)) (.tmp 205))), none⟩] [])
def b5_12 : HCode :=
  (.seq (.region [
            ⟨(some 180), (.op (.load (some 5) (.tmp 18))), none⟩,
            ⟨(some 181), (.call (.cst (.func (.func 12) [] [])) [(.tmp 180)]), none⟩,
            ⟨(some 179), (.op (.mv (.tmp 181))), none⟩,
            ⟨(some 182), (.op (.ext 0 (.tmp 179))), none⟩,
            ⟨(some 183), (.op (.ext 1 (.tmp 179))), none⟩,
            ⟨(some 24), (.op (.mv (.tmp 182))), none⟩,
            ⟨(some 25), (.op (.mv (.tmp 183))), none⟩] []) (.seq (.seq b5_11 (.cond (.tmp 206) (.seq (.region [
              ⟨(some 6), (.op (.mv (.cst (.bool false)))), none⟩] []) .ret) .skip)) (.region [
            ⟨(some 207), (.op (.mv (.tmp 16))), none⟩,
            ⟨(some 208), (.op (.mv (.tmp 24))), none⟩,
            ⟨(some 209), (.op (.len .slice (.tmp 208))), none⟩,
            ⟨(some 210), (.op (.bin .add none (.tmp 207) (.tmp 209))), none⟩,
            ⟨(some 16), (.op (.mv (.tmp 210))), none⟩] [])))
def b5_13 : HCode :=
  (.seq (.region [
            ⟨(some 103), (.op (.mv (.tmp 17))), none⟩,
            ⟨(some 104), (.op (.mv (.tmp 9))), none⟩,
            ⟨(some 105), (.op (.len .slice (.tmp 104))), none⟩,
            ⟨(some 106), (.op (.bin .lss none (.tmp 103) (.tmp 105))), none⟩] []) (.cond (.tmp 106) (.region [
              ⟨(some 107), (.op (.mv (.tmp 9))), none⟩,
              ⟨(some 108), (.op (.mv (.tmp 17))), none⟩,
              ⟨(some 109), (.op (.idxS 5 (.tmp 107) (.tmp 108))), none⟩,
              ⟨(some 110), (.op (.load (some 5) (.tmp 109))), none⟩,
              ⟨none, (.op (.store 5 (.tmp 21) (.tmp 110))), none⟩] []) b5_8))
def b5_14 : HCode :=
  (.seq (.region [
            ⟨(some 22), (.op (.mv (.cst (.bool true)))), none⟩] []) (.seq (.region [
            ⟨(some 23), (.op (.mv (.cst (.int .i64 0)))), none⟩] []) (.seq b5_13 (.seq (.seq b5_9 (.cond (.tmp 130) (.seq (.region [
              ⟨(some 6), (.op (.mv (.cst (.bool false)))), none⟩] []) .ret) .skip)) (.seq (.seq (.region [
            ⟨(some 131), (.op (.mv (.tmp 19))), none⟩,
            ⟨(some 132), (.op (.un .not (.tmp 131))), none⟩] []) (.cond (.tmp 132) (.seq b5_10 .ret) .skip)) b5_12)))))
def b5_15 : HCode :=
  (.region [
            ⟨(some 97), (.op (.mv (.tmp 7))), none⟩,
            ⟨(some 98), (.call (.cst (.func (.func 23) [] [])) [(.tmp 97)]), none⟩,
            ⟨(some 96), (.op (.mv (.tmp 98))), none⟩,
            ⟨(some 99), (.op (.ext 0 (.tmp 96))), none⟩,
            ⟨(some 100), (.op (.ext 1 (.tmp 96))), none⟩,
            ⟨(some 101), (.op (.ext 2 (.tmp 96))), none⟩,
            ⟨(some 18), (.op (.box (.cst (.agg [(.int .i64 0), (.int .i64 0), (.int .i64 0), (.str []), .nilSlice])))), none⟩,
            ⟨none, (.op (.store 5 (.tmp 18) (.tmp 99))), none⟩,
            ⟨(some 19), (.op (.mv (.tmp 100))), none⟩,
            ⟨(some 20), (.op (.mv (.tmp 101))), none⟩] [])
def b5_16 : HCode :=
  (.seq (.block 3 (.seq b5_15 (.seq (.region [
            ⟨(some 102), (.op (.build [(.int .i64 0), (.int .i64 0), (.int .i64 0), (.str []), .nilSlice] [])), none⟩,
            ⟨(some 21), (.op (.box (.cst (.agg [(.int .i64 0), (.int .i64 0), (.int .i64 0), (.str []), .nilSlice])))), none⟩,
            ⟨none, (.op (.store 5 (.tmp 21) (.tmp 102))), none⟩] []) b5_14))) (.region [
          ⟨(some 94), (.op (.mv (.tmp 17))), none⟩,
          ⟨(some 95), (.op (.bin .add none (.tmp 94) (.cst (.int .i64 1)))), none⟩,
          ⟨(some 17), (.op (.mv (.tmp 95))), none⟩] []))
def b5_17 : HCode :=
  (.seq (.region [
      ⟨(some 89), (.op (.mv (.tmp 8))), none⟩,
      ⟨(some 90), (.op (.mv (.tmp 0))), none⟩,
      ⟨(some 91), (.op (.mv (.tmp 10))), none⟩,
      ⟨(some 92), (.op (.sliceSl 1 (.tmp 90) (some (.tmp 91)) none none)), none⟩,
      ⟨(some 93), (.call (.cst (.func (.func 22) [] [])) [(.tmp 89), (.tmp 92)]), none⟩] []) (.seq (.region [
      ⟨(some 16), (.op (.mv (.cst (.int .i64 0)))), none⟩] []) (.seq (.region [
      ⟨(some 17), (.op (.mv (.cst (.int .i64 0)))), none⟩] []) (.block 2 (.loop b5_16)))))
def b5_18 : HCode :=
  (.seq (.region [
      ⟨(some 30), (.op (.mv (.tmp 7))), none⟩,
      ⟨(some 31), (.op (.bin .eql (some .ptrN) (.tmp 30) (.cst .nilPtr))), none⟩,
      ⟨(some 32), (.op (.mv (.tmp 31))), none⟩,
      ⟨(some 33), (.op (.mv (.tmp 8))), (some (32, false))⟩,
      ⟨(some 34), (.op (.bin .eql (some .ptrN) (.tmp 33) (.cst .nilPtr))), (some (32, false))⟩,
      ⟨(some 35), (.op (.pick (.tmp 32) (.cst (.bool true)) (.tmp 34))), none⟩] []) (.cond (.tmp 35) (.seq (.region [
        ⟨(some 6), (.op (.mv (.cst (.bool false)))), none⟩] []) .ret) .skip))
def b5_19 : HCode :=
  (.seq (.region [
      ⟨(some 36), (.op (.mv (.tmp 7))), none⟩,
      ⟨(some 37), (.op (.mv (.tmp 0))), none⟩,
      ⟨(some 38), (.call (.cst (.func (.func 22) [] [])) [(.tmp 36), (.tmp 37)]), none⟩] []) (.seq (.region [
      ⟨(some 39), (.op (.bslice 5 0 [] [])), none⟩,
      ⟨(some 9), (.op (.mv (.tmp 39))), none⟩] []) (.seq (.region [
      ⟨(some 10), (.op (.mv (.cst (.int .i64 0)))), none⟩] []) (.seq (.seq (.region [
      ⟨(some 11), (.op (.mv (.cst (.int .i64 0)))), none⟩] []) (.block 0 (.loop (.seq (.seq b5_1 (.cond (.tmp 49) .skip (.exit 0))) b5_7)))) b5_17))))
def b5_20 : HCode :=
  (.seq (.seq (.region [
      ⟨(some 26), (.call (.cst (.func (.func 9) [] [])) []), none⟩,
      ⟨(some 27), (.op (.un .not (.tmp 26))), none⟩] []) (.cond (.tmp 27) (.seq (.region [
        ⟨(some 6), (.op (.mv (.cst (.bool false)))), none⟩] []) .ret) .skip)) (.seq (.region [
      ⟨(some 28), (.call (.cst (.func (.func 21) [] [])) []), none⟩,
      ⟨(some 7), (.op (.mv (.tmp 28))), none⟩] []) (.seq (.region [
      ⟨(some 29), (.call (.cst (.func (.func 21) [] [])) []), none⟩,
      ⟨(some 8), (.op (.mv (.tmp 29))), none⟩] []) (.seq b5_18 b5_19))))
set_option linter.defProp false in
def ub5 :=
  And.intro (hw_unf b5_1.eq_1) <|
  And.intro (hw_unf b5_2.eq_1) <|
  And.intro (hw_unf b5_3.eq_1) <|
  And.intro (hw_unf b5_4.eq_1) <|
  And.intro (hw_unf b5_5.eq_1) <|
  And.intro (hw_unf b5_6.eq_1) <|
  And.intro (hw_unf b5_7.eq_1) <|
  And.intro (hw_unf b5_8.eq_1) <|
  And.intro (hw_unf b5_9.eq_1) <|
  And.intro (hw_unf b5_10.eq_1) <|
  And.intro (hw_unf b5_11.eq_1) <|
  And.intro (hw_unf b5_12.eq_1) <|
  And.intro (hw_unf b5_13.eq_1) <|
  And.intro (hw_unf b5_14.eq_1) <|
  And.intro (hw_unf b5_15.eq_1) <|
  And.intro (hw_unf b5_16.eq_1) <|
  And.intro (hw_unf b5_17.eq_1) <|
  And.intro (hw_unf b5_18.eq_1) <|
  And.intro (hw_unf b5_19.eq_1) <|
  hw_unf b5_20.eq_1
def h5 : HFn :=
  ⟨211, [(.tmp 6)], (.seq (.region [
      ⟨(some 6), (.op (.mv (.cst (.bool false)))), none⟩] []) b5_20)⟩
theorem c5 : cFn Tryd.prog [] Tryd.f5 = some h5 := by kernel_rfl
/-- stint/answers.New -/
def h21 : HFn :=
  ⟨3, [(.tmp 0)], (.seq (.region [
      ⟨(some 0), (.op (.mv (.cst .nilPtr))), none⟩] []) (.seq (.region [
      ⟨(some 1), (.op (.build [.nilSlice, .nilSlice, (.bool false)] [])), none⟩,
      ⟨(some 2), (.op (.box (.tmp 1))), none⟩,
      ⟨(some 0), (.op (.mv (.tmp 2))), none⟩] []) .ret))⟩
theorem c21 : cFn Tryd.prog [] Tryd.f21 = some h21 := by kernel_rfl
/-- (*stint/answers.Reader).Feed -/
def b22_1 : HCode :=
  (.region [
                ⟨(some 43), (.op (.mv (.tmp 0))), none⟩,
                ⟨(some 44), (.op (.mv (.tmp 0))), none⟩,
                ⟨(some 45), (.op (.mv (.tmp 0))), none⟩,
                ⟨(some 46), (.op (.nilc (.tmp 45))), none⟩,
                ⟨(some 47), (.op (.faddr 1 (.tmp 46))), none⟩,
                ⟨(some 48), (.op (.load none (.tmp 47))), none⟩,
                ⟨(some 49), (.op (.mv (.tmp 4))), none⟩,
                ⟨(some 50), (.op (.mv (.tmp 6))), none⟩,
                ⟨(some 51), (.op (.bin .add none (.tmp 49) (.tmp 50))), none⟩,
                ⟨(some 52), (.op (.bin .add none (.tmp 51) (.cst (.int .i64 1)))), none⟩,
                ⟨(some 53), (.op (.sliceSl 1 (.tmp 48) none (some (.tmp 52)) none)), none⟩,
                ⟨(some 54), (.op (.nilc (.tmp 43))), none⟩,
                ⟨(some 55), (.op (.faddr 1 (.tmp 54))), none⟩,
                ⟨none, (.op (.store 1 (.tmp 55) (.tmp 53))), none⟩,
                ⟨(some 56), (.op (.nilc (.tmp 44))), none⟩,
                ⟨(some 57), (.op (.faddr 2 (.tmp 56))), none⟩,
                ⟨none, (.op (.store 1 (.tmp 57) (.cst (.bool true)))), none⟩] [])
def b22_2 : HCode :=
  (.region [
              ⟨(some 34), (.op (.mv (.tmp 4))), none⟩,
              ⟨(some 35), (.op (.mv (.tmp 6))), none⟩,
              ⟨(some 36), (.op (.bin .add none (.tmp 34) (.tmp 35))), none⟩,
              ⟨(some 37), (.op (.mv (.tmp 0))), none⟩,
              ⟨(some 38), (.op (.nilc (.tmp 37))), none⟩,
              ⟨(some 39), (.op (.faddr 1 (.tmp 38))), none⟩,
              ⟨(some 40), (.op (.load none (.tmp 39))), none⟩,
              ⟨(some 41), (.op (.len .slice (.tmp 40))), none⟩,
              ⟨(some 42), (.op (.bin .lss none (.tmp 36) (.tmp 41))), none⟩] [])
def b22_3 : HCode :=
  (.draw [
            ⟨(some 58), (.op (.mv (.tmp 0))), none⟩,
            ⟨(some 59), (.op (.mv (.tmp 0))), none⟩,
            ⟨(some 60), (.op (.nilc (.tmp 59))), none⟩,
            ⟨(some 61), (.op (.faddr 0 (.tmp 60))), none⟩,
            ⟨(some 62), (.op (.load none (.tmp 61))), none⟩,
            ⟨(some 63), (.op (.load (some 5) (.tmp 5))), none⟩,
            ⟨(some 64), (.op (.mv (.tmp 6))), none⟩,
            ⟨(some 65), (.op (.build [(.int .i64 0), (.int .i64 0), (.int .i64 0), (.str []), .nilSlice, (.int .i64 0)] [(0, 5, (.tmp 63)), (5, 1, (.tmp 64))])), none⟩,
            ⟨(some 66), (.op (.bslice 6 1 [(.int .i64 0), (.int .i64 0), (.int .i64 0), (.str []), .nilSlice, (.int .i64 0)] [(0, 6, (.tmp 65))])), none⟩,
            ⟨(some 67), (.op (.append 6 72 (.tmp 62) (.tmp 66))), none⟩,
            ⟨(some 68), (.op (.nilc (.tmp 58))), none⟩,
            ⟨(some 69), (.op (.faddr 0 (.tmp 68))), none⟩,
            ⟨none, (.op (.store 1 (.tmp 69) (.tmp 67))), none⟩] [0, 1, 2, 3, 4, 5, 6, 7, 8, 9, 10, 11, 12] [[], [], [], [], [], [], [], [], [5], [4, 5], [], [], [4, 5]] [])
def b22_4 : HCode :=
  (.region [
            ⟨(some 22), (.op (.mv (.tmp 0))), none⟩,
            ⟨(some 23), (.op (.nilc (.tmp 22))), none⟩,
            ⟨(some 24), (.op (.faddr 1 (.tmp 23))), none⟩,
            ⟨(some 25), (.op (.load none (.tmp 24))), none⟩,
            ⟨(some 26), (.op (.mv (.tmp 4))), none⟩,
            ⟨(some 27), (.op (.sliceSl 1 (.tmp 25) (some (.tmp 26)) none none)), none⟩,
            ⟨(some 28), (.call (.cst (.func (.func 46) [] [])) [(.tmp 27)]), none⟩,
            ⟨(some 21), (.op (.mv (.tmp 28))), none⟩,
            ⟨(some 29), (.op (.ext 0 (.tmp 21))), none⟩,
            ⟨(some 30), (.op (.ext 1 (.tmp 21))), none⟩,
            ⟨(some 31), (.op (.ext 2 (.tmp 21))), none⟩,
            ⟨(some 5), (.op (.box (.cst (.agg [(.int .i64 0), (.int .i64 0), (.int .i64 0), (.str []), .nilSlice])))), none⟩,
            ⟨none, (.op (.store 5 (.tmp 5) (.tmp 29))), none⟩,
            ⟨(some 6), (.op (.mv (.tmp 30))), none⟩,
            ⟨(some 7), (.op (.mv (.tmp 31))), none⟩] [])
def b22_5 : HCode :=
  (.block 1 (.seq b22_4 (.seq (.seq (.region [
            ⟨(some 32), (.op (.mv (.tmp 7))), none⟩,
            ⟨(some 33), (.op (.un .not (.tmp 32))), none⟩] []) (.cond (.tmp 33) (.seq (.seq b22_2 (.cond (.tmp 42) b22_1 .skip)) (.exit 0)) .skip)) (.seq b22_3 (.region [
            ⟨(some 70), (.op (.mv (.tmp 4))), none⟩,
            ⟨(some 71), (.op (.mv (.tmp 6))), none⟩,
            ⟨(some 72), (.op (.bin .add none (.tmp 70) (.tmp 71))), none⟩,
            ⟨(some 4), (.op (.mv (.tmp 72))), none⟩] [])))))
def b22_6 : HCode :=
  (.region [
        ⟨(some 75), (.op (.mv (.tmp 0))), none⟩,
        ⟨(some 76), (.op (.mv (.tmp 0))), none⟩,
        ⟨(some 77), (.op (.nilc (.tmp 76))), none⟩,
        ⟨(some 78), (.op (.faddr 1 (.tmp 77))), none⟩,
        ⟨(some 79), (.op (.load none (.tmp 78))), none⟩,
        ⟨(some 80), (.op (.mv (.tmp 4))), none⟩,
        ⟨(some 81), (.op (.sliceSl 1 (.tmp 79) (some (.tmp 80)) none none)), none⟩,
        ⟨(some 82), (.call (.cst (.func (.func 47) [] [])) [(.tmp 81)]), none⟩,
        ⟨(some 83), (.op (.nilc (.tmp 75))), none⟩,
        ⟨(some 84), (.op (.faddr 1 (.tmp 83))), none⟩,
        ⟨none, (.op (.store 1 (.tmp 84) (.tmp 82))), none⟩] [])
def b22_7 : HCode :=
  (.region [
      ⟨(some 12), (.op (.mv (.tmp 0))), none⟩,
      ⟨(some 13), (.op (.mv (.tmp 0))), none⟩,
      ⟨(some 14), (.op (.nilc (.tmp 13))), none⟩,
      ⟨(some 15), (.op (.faddr 1 (.tmp 14))), none⟩,
      ⟨(some 16), (.op (.load none (.tmp 15))), none⟩,
      ⟨(some 17), (.op (.mv (.tmp 1))), none⟩,
      ⟨(some 18), (.op (.append 1 1 (.tmp 16) (.tmp 17))), none⟩,
      ⟨(some 19), (.op (.nilc (.tmp 12))), none⟩,
      ⟨(some 20), (.op (.faddr 1 (.tmp 19))), none⟩,
      ⟨none, (.op (.store 1 (.tmp 20) (.tmp 18))), none⟩] [])
set_option linter.defProp false in
def ub22 :=
  And.intro (hw_unf b22_1.eq_1) <|
  And.intro (hw_unf b22_2.eq_1) <|
  And.intro (hw_unf b22_3.eq_1) <|
  And.intro (hw_unf b22_4.eq_1) <|
  And.intro (hw_unf b22_5.eq_1) <|
  And.intro (hw_unf b22_6.eq_1) <|
  hw_unf b22_7.eq_1
def h22 : HFn :=
  ⟨85, [], (.seq (.seq (.region [
      ⟨(some 8), (.op (.mv (.tmp 0))), none⟩,
      ⟨(some 9), (.op (.nilc (.tmp 8))), none⟩,
      ⟨(some 10), (.op (.faddr 2 (.tmp 9))), none⟩,
      ⟨(some 11), (.op (.load none (.tmp 10))), none⟩] []) (.cond (.tmp 11) .ret .skip)) (.seq b22_7 (.seq (.region [
      ⟨(some 4), (.op (.mv (.cst (.int .i64 0)))), none⟩] []) (.seq (.block 0 (.loop b22_5)) (.seq (.region [
      ⟨(some 73), (.op (.mv (.tmp 4))), none⟩,
      ⟨(some 74), (.op (.bin .gtr none (.tmp 73) (.cst (.int .i64 0)))), none⟩] []) (.cond (.tmp 74) b22_6 .skip))))))⟩
theorem c22 : cFn Tryd.prog [] Tryd.f22 = some h22 := by kernel_rfl
/-- (*stint/answers.Reader).Next -/
def b23_1 : HCode :=
  (.region [
          ⟨(some 20), (.op (.mv (.tmp 0))), none⟩,
          ⟨(some 21), (.op (.mv (.tmp 0))), none⟩,
          ⟨(some 22), (.op (.nilc (.tmp 21))), none⟩,
          ⟨(some 23), (.op (.faddr 0 (.tmp 22))), none⟩,
          ⟨(some 24), (.op (.load none (.tmp 23))), none⟩,
          ⟨(some 25), (.op (.sliceSl 6 (.tmp 24) (some (.cst (.int .i64 1))) none none)), none⟩,
          ⟨(some 26), (.op (.nilc (.tmp 20))), none⟩,
          ⟨(some 27), (.op (.faddr 0 (.tmp 26))), none⟩,
          ⟨none, (.op (.store 1 (.tmp 27) (.tmp 25))), none⟩] [])
def b23_2 : HCode :=
  (.seq (.region [
          ⟨(some 28), (.op (.faddr 4 (.tmp 5))), none⟩,
          ⟨(some 29), (.op (.load none (.tmp 28))), none⟩,
          ⟨(some 30), (.call (.cst (.func (.func 47) [] [])) [(.tmp 29)]), none⟩,
          ⟨(some 31), (.op (.faddr 4 (.tmp 5))), none⟩,
          ⟨none, (.op (.store 1 (.tmp 31) (.tmp 30))), none⟩] []) (.seq (.region [
          ⟨(some 32), (.op (.load (some 5) (.tmp 5))), none⟩,
          ⟨none, (.op (.store 5 (.tmp 2) (.tmp 32))), none⟩,
          ⟨(some 3), (.op (.mv (.cst (.bool true)))), none⟩,
          ⟨(some 4), (.op (.mv (.cst (.int .i64 0)))), none⟩] []) .ret))
def b23_3 : HCode :=
  (.region [
          ⟨(some 13), (.op (.mv (.tmp 0))), none⟩,
          ⟨(some 14), (.op (.nilc (.tmp 13))), none⟩,
          ⟨(some 15), (.op (.faddr 0 (.tmp 14))), none⟩,
          ⟨(some 16), (.op (.load none (.tmp 15))), none⟩,
          ⟨(some 17), (.op (.idxS 6 (.tmp 16) (.cst (.int .i64 0)))), none⟩,
          ⟨(some 18), (.op (.faddr 0 (.tmp 17))), none⟩,
          ⟨(some 19), (.op (.load (some 5) (.tmp 18))), none⟩,
          ⟨(some 5), (.op (.box (.cst (.agg [(.int .i64 0), (.int .i64 0), (.int .i64 0), (.str []), .nilSlice])))), none⟩,
          ⟨none, (.op (.store 5 (.tmp 5) (.tmp 19))), none⟩] [])
def b23_4 : HCode :=
  (.seq (.region [
          ⟨(some 34), (.op (.mv (.tmp 0))), none⟩,
          ⟨(some 35), (.op (.nilc (.tmp 34))), none⟩,
          ⟨(some 36), (.op (.faddr 2 (.tmp 35))), none⟩,
          ⟨(some 37), (.op (.load none (.tmp 36))), none⟩,
          ⟨(some 33), (.op (.mv (.tmp 37))), none⟩] []) (.cond (.tmp 33) (.seq (.region [
            ⟨(some 38), (.op (.build [(.int .i64 0), (.int .i64 0), (.int .i64 0), (.str []), .nilSlice] [])), none⟩,
            ⟨none, (.op (.store 5 (.tmp 2) (.tmp 38))), none⟩,
            ⟨(some 3), (.op (.mv (.cst (.bool false)))), none⟩,
            ⟨(some 4), (.op (.mv (.cst (.int .i64 82)))), none⟩] []) .ret) .skip))
def b23_5 : HCode :=
  (.seq (.block 0 (.seq (.region [
        ⟨(some 7), (.op (.mv (.tmp 0))), none⟩,
        ⟨(some 8), (.op (.nilc (.tmp 7))), none⟩,
        ⟨(some 9), (.op (.faddr 0 (.tmp 8))), none⟩,
        ⟨(some 10), (.op (.load none (.tmp 9))), none⟩,
        ⟨(some 11), (.op (.len .slice (.tmp 10))), none⟩,
        ⟨(some 12), (.op (.bin .gtr none (.tmp 11) (.cst (.int .i64 0)))), none⟩,
        ⟨(some 6), (.op (.mv (.tmp 12))), none⟩] []) (.cond (.tmp 6) (.seq b23_3 (.seq b23_1 b23_2)) b23_4))) (.seq (.region [
      ⟨(some 39), (.op (.build [(.int .i64 0), (.int .i64 0), (.int .i64 0), (.str []), .nilSlice] [])), none⟩,
      ⟨none, (.op (.store 5 (.tmp 2) (.tmp 39))), none⟩,
      ⟨(some 3), (.op (.mv (.cst (.bool false)))), none⟩,
      ⟨(some 4), (.op (.mv (.cst (.int .i64 0)))), none⟩] []) .ret))
set_option linter.defProp false in
def ub23 :=
  And.intro (hw_unf b23_1.eq_1) <|
  And.intro (hw_unf b23_2.eq_1) <|
  And.intro (hw_unf b23_3.eq_1) <|
  And.intro (hw_unf b23_4.eq_1) <|
  hw_unf b23_5.eq_1
def h23 : HFn :=
  ⟨40, [(.cell 2 (some 5)), (.tmp 3), (.tmp 4)], (.seq (.region [
      ⟨(some 2), (.op (.box (.cst (.agg [(.int .i64 0), (.int .i64 0), (.int .i64 0), (.str []), .nilSlice])))), none⟩,
      ⟨(some 3), (.op (.mv (.cst (.bool false)))), none⟩,
      ⟨(some 4), (.op (.mv (.cst (.int .i64 0)))), none⟩] []) b23_5)⟩
theorem c23 : cFn Tryd.prog [] Tryd.f23 = some h23 := by kernel_rfl
/-- (*stint/answers.Reader).Held -/
def b25_1 : HCode :=
  (.seq (.region [
            ⟨(some 18), (.op (.idxS 6 (.tmp 14) (.tmp 16))), none⟩,
            ⟨(some 19), (.op (.load (some 6) (.tmp 18))), none⟩,
            ⟨(some 5), (.op (.box (.cst (.agg [(.int .i64 0), (.int .i64 0), (.int .i64 0), (.str []), .nilSlice, (.int .i64 0)])))), none⟩,
            ⟨none, (.op (.store 6 (.tmp 5) (.tmp 19))), none⟩] []) (.region [
            ⟨(some 20), (.op (.mv (.tmp 3))), none⟩,
            ⟨(some 21), (.op (.faddr 5 (.tmp 5))), none⟩,
            ⟨(some 22), (.op (.load none (.tmp 21))), none⟩,
            ⟨(some 23), (.op (.bin .add none (.tmp 20) (.tmp 22))), none⟩,
            ⟨(some 3), (.op (.mv (.tmp 23))), none⟩] []))
def b25_2 : HCode :=
  (.seq (.region [
      ⟨(some 11), (.op (.mv (.tmp 0))), none⟩,
      ⟨(some 12), (.op (.nilc (.tmp 11))), none⟩,
      ⟨(some 13), (.op (.faddr 0 (.tmp 12))), none⟩,
      ⟨(some 14), (.op (.load none (.tmp 13))), none⟩,
      ⟨(some 15), (.op (.len .slice (.tmp 14))), none⟩,
      ⟨(some 16), (.op (.mv (.cst (.int .i64 0)))), none⟩] []) (.block 0 (.loop (.seq (.region [
          ⟨(some 17), (.op (.bin .lss none (.tmp 16) (.tmp 15))), none⟩] []) (.seq (.cond (.tmp 17) .skip (.exit 0)) (.seq (.block 1 b25_1) (.region [
          ⟨(some 24), (.op (.bin .add none (.tmp 16) (.cst (.int .i64 1)))), none⟩,
          ⟨(some 16), (.op (.mv (.tmp 24))), none⟩] [])))))))
set_option linter.defProp false in
def ub25 :=
  And.intro (hw_unf b25_1.eq_1) <|
  hw_unf b25_2.eq_1
def h25 : HFn :=
  ⟨26, [(.tmp 2)], (.seq (.region [
      ⟨(some 2), (.op (.mv (.cst (.int .i64 0)))), none⟩] []) (.seq (.region [
      ⟨(some 6), (.op (.mv (.tmp 0))), none⟩,
      ⟨(some 7), (.op (.nilc (.tmp 6))), none⟩,
      ⟨(some 8), (.op (.faddr 1 (.tmp 7))), none⟩,
      ⟨(some 9), (.op (.load none (.tmp 8))), none⟩,
      ⟨(some 10), (.op (.len .slice (.tmp 9))), none⟩,
      ⟨(some 3), (.op (.mv (.tmp 10))), none⟩] []) (.seq b25_2 (.seq (.region [
      ⟨(some 25), (.op (.mv (.tmp 3))), none⟩,
      ⟨(some 2), (.op (.mv (.tmp 25))), none⟩] []) .ret))))⟩
theorem c25 : cFn Tryd.prog [] Tryd.f25 = some h25 := by kernel_rfl
/-- stint/stintlaw08.wrong -/
def b26_1 : HCode :=
  (.region [
      ⟨(some 14), (.op (.mv (.tmp 3))), none⟩,
      ⟨(some 15), (.call (.cst (.func (.func 23) [] [])) [(.tmp 14)]), none⟩,
      ⟨(some 13), (.op (.mv (.tmp 15))), none⟩,
      ⟨(some 16), (.op (.ext 0 (.tmp 13))), none⟩,
      ⟨(some 17), (.op (.ext 1 (.tmp 13))), none⟩,
      ⟨(some 18), (.op (.ext 2 (.tmp 13))), none⟩,
      ⟨(some 4), (.op (.box (.cst (.agg [(.int .i64 0), (.int .i64 0), (.int .i64 0), (.str []), .nilSlice])))), none⟩,
      ⟨none, (.op (.store 5 (.tmp 4) (.tmp 16))), none⟩,
      ⟨(some 5), (.op (.mv (.tmp 17))), none⟩,
      ⟨(some 6), (.op (.mv (.tmp 18))), none⟩] [])
def b26_2 : HCode :=
  (.seq (.seq (.region [
      ⟨(some 8), (.op (.mv (.tmp 3))), none⟩,
      ⟨(some 9), (.op (.bin .eql (some .ptrN) (.tmp 8) (.cst .nilPtr))), none⟩] []) (.cond (.tmp 9) (.seq (.region [
        ⟨(some 2), (.op (.mv (.cst (.bool true)))), none⟩] []) .ret) .skip)) (.seq (.region [
      ⟨(some 10), (.op (.mv (.tmp 3))), none⟩,
      ⟨(some 11), (.op (.mv (.tmp 0))), none⟩,
      ⟨(some 12), (.call (.cst (.func (.func 22) [] [])) [(.tmp 10), (.tmp 11)]), none⟩] []) (.seq b26_1 (.seq (.region [
      ⟨(some 19), (.op (.mv (.tmp 6))), none⟩,
      ⟨(some 20), (.op (.bin .neq (some .int) (.tmp 19) (.cst (.int .i64 0)))), none⟩,
      ⟨(some 2), (.op (.mv (.tmp 20))), none⟩] []) .ret))))
set_option linter.defProp false in
def ub26 :=
  And.intro (hw_unf b26_1.eq_1) <|
  hw_unf b26_2.eq_1
def h26 : HFn :=
  ⟨21, [(.tmp 2)], (.seq (.region [
      ⟨(some 2), (.op (.mv (.cst (.bool false)))), none⟩] []) (.seq (.region [
      ⟨(some 7), (.call (.cst (.func (.func 21) [] [])) []), none⟩,
      ⟨(some 3), (.op (.mv (.tmp 7))), none⟩] []) b26_2))⟩
theorem c26 : cFn Tryd.prog [] Tryd.f26 = some h26 := by kernel_rfl
/-- stint/answers.first -/
def b46_1 : HCode :=
  (.draw [
              ⟨(some 24), (.op (.load (some 5) (.tmp 7))), none⟩,
              ⟨(some 25), (.op (.mv (.tmp 8))), none⟩,
              ⟨(some 26), (.op (.nilc (.tmp 25))), none⟩,
              ⟨(some 27), (.op (.faddr 1 (.tmp 26))), none⟩,
              ⟨(some 28), (.op (.load none (.tmp 27))), none⟩,
              ⟨none, (.op (.store 5 (.tmp 2) (.tmp 24))), none⟩,
              ⟨(some 3), (.op (.mv (.tmp 28))), none⟩,
              ⟨(some 4), (.op (.mv (.cst (.bool true)))), none⟩] [0, 1, 2, 3, 4, 5, 6, 7] [[], [], [], [], [], [0], [], []] [])
def b46_2 : HCode :=
  (.region [
            ⟨(some 14), (.op (.mv (.tmp 6))), none⟩,
            ⟨(some 15), (.op (.mv (.tmp 0))), none⟩,
            ⟨(some 16), (.call (.cst (.func (.func 57) [] [])) [(.tmp 14), (.tmp 15)]), none⟩,
            ⟨(some 13), (.op (.mv (.tmp 16))), none⟩,
            ⟨(some 17), (.op (.ext 0 (.tmp 13))), none⟩,
            ⟨(some 18), (.op (.ext 1 (.tmp 13))), none⟩,
            ⟨(some 7), (.op (.box (.cst (.agg [(.int .i64 0), (.int .i64 0), (.int .i64 0), (.str []), .nilSlice])))), none⟩,
            ⟨none, (.op (.store 5 (.tmp 7) (.tmp 17))), none⟩,
            ⟨(some 8), (.op (.mv (.tmp 18))), none⟩] [])
def b46_3 : HCode :=
  (.seq (.seq (.region [
            ⟨(some 19), (.op (.mv (.tmp 8))), none⟩,
            ⟨(some 20), (.op (.nilc (.tmp 19))), none⟩,
            ⟨(some 21), (.op (.faddr 2 (.tmp 20))), none⟩,
            ⟨(some 22), (.op (.load none (.tmp 21))), none⟩,
            ⟨(some 23), (.op (.un .not (.tmp 22))), none⟩] []) (.cond (.tmp 23) (.seq b46_1 .ret) .skip)) (.region [
            ⟨(some 29), (.op (.mv (.tmp 5))), none⟩,
            ⟨(some 30), (.op (.mv (.tmp 8))), none⟩,
            ⟨(some 31), (.op (.nilc (.tmp 30))), none⟩,
            ⟨(some 32), (.op (.faddr 1 (.tmp 31))), none⟩,
            ⟨(some 33), (.op (.load none (.tmp 32))), none⟩,
            ⟨(some 34), (.op (.minmax false [(.tmp 29), (.tmp 33)])), none⟩,
            ⟨(some 5), (.op (.mv (.tmp 34))), none⟩] []))
def b46_4 : HCode :=
  (.seq (.region [
      ⟨(some 6), (.op (.mv (.cst (.int .i64 1)))), none⟩] []) (.block 0 (.loop (.seq (.seq (.region [
          ⟨(some 9), (.op (.mv (.tmp 6))), none⟩,
          ⟨(some 10), (.op (.bin .leq none (.tmp 9) (.cst (.int .i64 23)))), none⟩] []) (.cond (.tmp 10) .skip (.exit 0))) (.seq (.block 1 (.seq b46_2 b46_3)) (.region [
          ⟨(some 11), (.op (.mv (.tmp 6))), none⟩,
          ⟨(some 12), (.op (.bin .add none (.tmp 11) (.cst (.int .i64 1)))), none⟩,
          ⟨(some 6), (.op (.mv (.tmp 12))), none⟩] []))))))
set_option linter.defProp false in
def ub46 :=
  And.intro (hw_unf b46_1.eq_1) <|
  And.intro (hw_unf b46_2.eq_1) <|
  And.intro (hw_unf b46_3.eq_1) <|
  hw_unf b46_4.eq_1
def h46 : HFn :=
  ⟨37, [(.cell 2 (some 5)), (.tmp 3), (.tmp 4)], (.seq (.region [
      ⟨(some 2), (.op (.box (.cst (.agg [(.int .i64 0), (.int .i64 0), (.int .i64 0), (.str []), .nilSlice])))), none⟩,
      ⟨(some 3), (.op (.mv (.cst (.int .i64 0)))), none⟩,
      ⟨(some 4), (.op (.mv (.cst (.bool false)))), none⟩] []) (.seq (.region [
      ⟨(some 5), (.op (.mv (.cst (.int .i64 0)))), none⟩] []) (.seq b46_4 (.seq (.region [
      ⟨(some 35), (.op (.build [(.int .i64 0), (.int .i64 0), (.int .i64 0), (.str []), .nilSlice] [])), none⟩,
      ⟨(some 36), (.op (.mv (.tmp 5))), none⟩,
      ⟨none, (.op (.store 5 (.tmp 2) (.tmp 35))), none⟩,
      ⟨(some 3), (.op (.mv (.tmp 36))), none⟩,
      ⟨(some 4), (.op (.mv (.cst (.bool false)))), none⟩] []) .ret))))⟩
theorem c46 : cFn Tryd.prog [] Tryd.f46 = some h46 := by kernel_rfl
/-- bytes.Clone -/
def h47 : HFn :=
  ⟨8, [(.tmp 2)], (.seq (.region [
      ⟨(some 2), (.op (.mv (.cst .nilSlice))), none⟩] []) (.seq (.seq (.region [
      ⟨(some 3), (.op (.mv (.tmp 0))), none⟩,
      ⟨(some 4), (.op (.bin .eql (some .slice) (.tmp 3) (.cst .nilSlice))), none⟩] []) (.cond (.tmp 4) (.seq (.region [
        ⟨(some 2), (.op (.mv (.cst .nilSlice))), none⟩] []) .ret) .skip)) (.seq (.region [
      ⟨(some 5), (.op (.bslice 1 0 [] [])), none⟩,
      ⟨(some 6), (.op (.mv (.tmp 0))), none⟩,
      ⟨(some 7), (.op (.append 1 1 (.tmp 5) (.tmp 6))), none⟩,
      ⟨(some 2), (.op (.mv (.tmp 7))), none⟩] []) .ret)))⟩
theorem c47 : cFn Tryd.prog [] Tryd.f47 = some h47 := by kernel_rfl
/-- stint/answers.form -/
def b57_1 : HCode :=
  (.seq (.seq (.region [
                  ⟨(some 27), (.op (.bin .eql (some .int) (.tmp 18) (.cst (.int .i64 2)))), none⟩,
                  ⟨(some 26), (.op (.mv (.tmp 27))), none⟩] []) (.cond (.tmp 26) (.exit 4) .skip)) (.seq (.seq (.region [
                  ⟨(some 29), (.op (.bin .eql (some .int) (.tmp 18) (.cst (.int .i64 10)))), none⟩,
                  ⟨(some 28), (.op (.mv (.tmp 29))), none⟩] []) (.cond (.tmp 28) .skip (.region [
                    ⟨(some 30), (.op (.bin .eql (some .int) (.tmp 18) (.cst (.int .i64 13)))), none⟩,
                    ⟨(some 28), (.op (.mv (.tmp 30))), none⟩] []))) (.cond (.tmp 28) (.exit 5) .skip)))
def b57_2 : HCode :=
  (.seq (.seq (.seq (.region [
                  ⟨(some 20), (.op (.bin .eql (some .int) (.tmp 18) (.cst (.int .i64 3)))), none⟩,
                  ⟨(some 19), (.op (.mv (.tmp 20))), none⟩] []) (.cond (.tmp 19) .skip (.region [
                    ⟨(some 21), (.op (.bin .eql (some .int) (.tmp 18) (.cst (.int .i64 12)))), none⟩,
                    ⟨(some 19), (.op (.mv (.tmp 21))), none⟩] []))) (.cond (.tmp 19) (.exit 1) .skip)) (.seq (.seq (.region [
                  ⟨(some 23), (.op (.bin .eql (some .int) (.tmp 18) (.cst (.int .i64 16)))), none⟩,
                  ⟨(some 22), (.op (.mv (.tmp 23))), none⟩] []) (.cond (.tmp 22) (.exit 2) .skip)) (.seq (.seq (.region [
                  ⟨(some 25), (.op (.bin .eql (some .int) (.tmp 18) (.cst (.int .i64 1)))), none⟩,
                  ⟨(some 24), (.op (.mv (.tmp 25))), none⟩] []) (.cond (.tmp 24) (.exit 3) .skip)) b57_1)))
def b57_3 : HCode :=
  (.seq (.region [
                ⟨(some 31), (.op (.mv (.tmp 6))), none⟩,
                ⟨(some 32), (.call (.cst (.func (.func 61) [] [])) [(.tmp 31), (.cst (.str [32]))]), none⟩] []) (.region [
                ⟨(some 33), (.op (.mv (.tmp 6))), none⟩,
                ⟨(some 34), (.call (.cst (.func (.func 62) [] [])) [(.tmp 33), (.cst (.int .i64 1)), (.cst (.int .i64 1099511627776))]), none⟩,
                ⟨(some 35), (.op (.faddr 1 (.tmp 7))), none⟩,
                ⟨none, (.op (.store 1 (.tmp 35) (.tmp 34))), none⟩] []))
def b57_4 : HCode :=
  (.seq (.region [
              ⟨(some 42), (.op (.mv (.tmp 6))), none⟩,
              ⟨(some 43), (.call (.cst (.func (.func 61) [] [])) [(.tmp 42), (.cst (.str [13, 10]))]), none⟩] []) (.region [
              ⟨(some 44), (.op (.mv (.tmp 6))), none⟩,
              ⟨(some 45), (.op (.mv (.tmp 8))), none⟩,
              ⟨(some 46), (.call (.cst (.func (.func 63) [] [])) [(.tmp 44), (.tmp 45)]), none⟩,
              ⟨(some 47), (.op (.faddr 4 (.tmp 7))), none⟩,
              ⟨none, (.op (.store 1 (.tmp 47) (.tmp 46))), none⟩] []))
def b57_5 : HCode :=
  (.seq (.region [
              ⟨(some 36), (.op (.mv (.tmp 6))), none⟩,
              ⟨(some 37), (.call (.cst (.func (.func 61) [] [])) [(.tmp 36), (.cst (.str [32]))]), none⟩] []) (.seq (.region [
              ⟨(some 38), (.op (.mv (.tmp 6))), none⟩,
              ⟨(some 39), (.op (.mv (.tmp 0))), none⟩,
              ⟨(some 40), (.call (.cst (.func (.func 36) [] [])) [(.tmp 39)]), none⟩,
              ⟨(some 41), (.call (.cst (.func (.func 62) [] [])) [(.tmp 38), (.cst (.int .i64 0)), (.tmp 40)]), none⟩,
              ⟨(some 8), (.op (.mv (.tmp 41))), none⟩] []) b57_4))
def b57_6 : HCode :=
  (.seq (.region [
            ⟨(some 48), (.op (.mv (.tmp 6))), none⟩,
            ⟨(some 49), (.call (.cst (.func (.func 61) [] [])) [(.tmp 48), (.cst (.str [32]))]), none⟩] []) (.region [
            ⟨(some 50), (.op (.mv (.tmp 6))), none⟩,
            ⟨(some 51), (.call (.cst (.func (.func 62) [] [])) [(.tmp 50), (.cst (.int .i64 1)), (.cst (.int .i64 1099511627776))]), none⟩,
            ⟨(some 52), (.op (.faddr 1 (.tmp 7))), none⟩,
            ⟨none, (.op (.store 1 (.tmp 52) (.tmp 51))), none⟩] []))
def b57_7 : HCode :=
  (.seq (.block 4 (.seq (.block 3 (.seq (.block 2 (.seq (.block 1 (.seq b57_2 (.exit 0))) b57_3)) (.seq b57_5 (.exit 0)))) (.seq b57_6 (.exit 0)))) (.seq (.seq (.region [
          ⟨(some 53), (.op (.mv (.tmp 6))), none⟩,
          ⟨(some 54), (.call (.cst (.func (.func 61) [] [])) [(.tmp 53), (.cst (.str [32]))]), none⟩] []) (.region [
          ⟨(some 55), (.op (.mv (.tmp 6))), none⟩,
          ⟨(some 56), (.call (.cst (.func (.func 64) [] [])) [(.tmp 55)]), none⟩,
          ⟨(some 57), (.op (.faddr 3 (.tmp 7))), none⟩,
          ⟨none, (.op (.store 1 (.tmp 57) (.tmp 56))), none⟩] [])) (.exit 0)))
def b57_8 : HCode :=
  (.seq (.block 5 b57_7) (.seq (.seq (.region [
        ⟨(some 58), (.op (.mv (.tmp 6))), none⟩,
        ⟨(some 59), (.call (.cst (.func (.func 61) [] [])) [(.tmp 58), (.cst (.str [32]))]), none⟩] []) (.region [
        ⟨(some 60), (.op (.mv (.tmp 6))), none⟩,
        ⟨(some 61), (.call (.cst (.func (.func 62) [] [])) [(.tmp 60), (.cst (.int .i64 0)), (.cst (.int .i64 4294967295))]), none⟩,
        ⟨(some 62), (.op (.faddr 2 (.tmp 7))), none⟩,
        ⟨none, (.op (.store 1 (.tmp 62) (.tmp 61))), none⟩] [])) (.exit 0)))
def b57_9 : HCode :=
  (.seq (.region [
      ⟨(some 14), (.op (.mv (.tmp 6))), none⟩,
      ⟨(some 15), (.op (.mv (.tmp 0))), none⟩,
      ⟨(some 16), (.call (.cst (.func (.func 35) [] [])) [(.tmp 15)]), none⟩,
      ⟨(some 17), (.call (.cst (.func (.func 61) [] [])) [(.tmp 14), (.tmp 16)]), none⟩] []) (.seq (.seq (.region [
      ⟨(some 18), (.op (.mv (.tmp 0))), none⟩] []) (.block 0 b57_8)) (.seq (.region [
      ⟨(some 63), (.op (.mv (.tmp 6))), none⟩,
      ⟨(some 64), (.call (.cst (.func (.func 61) [] [])) [(.tmp 63), (.cst (.str [13, 10]))]), none⟩] []) (.seq (.region [
      ⟨(some 65), (.op (.load (some 5) (.tmp 7))), none⟩,
      ⟨(some 66), (.op (.mv (.tmp 6))), none⟩,
      ⟨none, (.op (.store 5 (.tmp 4) (.tmp 65))), none⟩,
      ⟨(some 5), (.op (.mv (.tmp 66))), none⟩] []) .ret))))
def b57_10 : HCode :=
  (.seq (.region [
      ⟨(some 9), (.op (.mv (.tmp 1))), none⟩,
      ⟨(some 10), (.op (.build [.nilSlice, (.int .i64 0), (.bool false)] [(0, 1, (.tmp 9))])), none⟩,
      ⟨(some 11), (.op (.box (.tmp 10))), none⟩,
      ⟨(some 6), (.op (.mv (.tmp 11))), none⟩] []) (.seq (.region [
      ⟨(some 12), (.op (.mv (.tmp 0))), none⟩,
      ⟨(some 13), (.op (.build [(.int .i64 0), (.int .i64 0), (.int .i64 0), (.str []), .nilSlice] [(0, 1, (.tmp 12))])), none⟩,
      ⟨(some 7), (.op (.box (.cst (.agg [(.int .i64 0), (.int .i64 0), (.int .i64 0), (.str []), .nilSlice])))), none⟩,
      ⟨none, (.op (.store 5 (.tmp 7) (.tmp 13))), none⟩] []) b57_9))
set_option linter.defProp false in
def ub57 :=
  And.intro (hw_unf b57_1.eq_1) <|
  And.intro (hw_unf b57_2.eq_1) <|
  And.intro (hw_unf b57_3.eq_1) <|
  And.intro (hw_unf b57_4.eq_1) <|
  And.intro (hw_unf b57_5.eq_1) <|
  And.intro (hw_unf b57_6.eq_1) <|
  And.intro (hw_unf b57_7.eq_1) <|
  And.intro (hw_unf b57_8.eq_1) <|
  And.intro (hw_unf b57_9.eq_1) <|
  hw_unf b57_10.eq_1
def h57 : HFn :=
  ⟨67, [(.cell 4 (some 5)), (.tmp 5)], (.seq (.region [
      ⟨(some 4), (.op (.box (.cst (.agg [(.int .i64 0), (.int .i64 0), (.int .i64 0), (.str []), .nilSlice])))), none⟩,
      ⟨(some 5), (.op (.mv (.cst .nilPtr))), none⟩] []) b57_10)⟩
theorem c57 : cFn Tryd.prog [] Tryd.f57 = some h57 := by kernel_rfl
/-- (*stint/answers.cursor).text -/
def b61_1 : HCode :=
  (.region [
          ⟨(some 5), (.op (.mv (.tmp 4))), none⟩,
          ⟨(some 6), (.op (.mv (.tmp 1))), none⟩,
          ⟨(some 7), (.op (.len .str (.tmp 6))), none⟩,
          ⟨(some 8), (.op (.bin .lss none (.tmp 5) (.tmp 7))), none⟩,
          ⟨(some 9), (.op (.mv (.tmp 8))), none⟩,
          ⟨(some 10), (.op (.mv (.tmp 0))), (some (9, true))⟩,
          ⟨(some 11), (.op (.nilc (.tmp 10))), (some (9, true))⟩,
          ⟨(some 12), (.op (.faddr 2 (.tmp 11))), (some (9, true))⟩,
          ⟨(some 13), (.op (.load none (.tmp 12))), (some (9, true))⟩,
          ⟨(some 14), (.op (.un .not (.tmp 13))), (some (9, true))⟩,
          ⟨(some 15), (.op (.pick (.tmp 9) (.tmp 14) (.cst (.bool false)))), none⟩] [])
def b61_2 : HCode :=
  (.draw [
            ⟨(some 18), (.op (.mv (.tmp 0))), none⟩,
            ⟨(some 19), (.op (.nilc (.tmp 18))), none⟩,
            ⟨(some 20), (.op (.faddr 1 (.tmp 19))), none⟩,
            ⟨(some 21), (.op (.load none (.tmp 20))), none⟩,
            ⟨(some 22), (.op (.mv (.tmp 0))), none⟩,
            ⟨(some 23), (.op (.nilc (.tmp 22))), none⟩,
            ⟨(some 24), (.op (.faddr 0 (.tmp 23))), none⟩,
            ⟨(some 25), (.op (.load none (.tmp 24))), none⟩,
            ⟨(some 26), (.op (.len .slice (.tmp 25))), none⟩,
            ⟨(some 27), (.op (.bin .eql (some .int) (.tmp 21) (.tmp 26))), none⟩,
            ⟨(some 28), (.op (.mv (.tmp 27))), none⟩,
            ⟨(some 29), (.op (.mv (.tmp 0))), (some (28, false))⟩,
            ⟨(some 30), (.op (.nilc (.tmp 29))), (some (28, false))⟩,
            ⟨(some 31), (.op (.faddr 0 (.tmp 30))), (some (28, false))⟩,
            ⟨(some 32), (.op (.load none (.tmp 31))), (some (28, false))⟩,
            ⟨(some 33), (.op (.mv (.tmp 0))), (some (28, false))⟩,
            ⟨(some 34), (.op (.nilc (.tmp 33))), (some (28, false))⟩,
            ⟨(some 35), (.op (.faddr 1 (.tmp 34))), (some (28, false))⟩,
            ⟨(some 36), (.op (.load none (.tmp 35))), (some (28, false))⟩,
            ⟨(some 37), (.op (.idxS 1 (.tmp 32) (.tmp 36))), (some (28, false))⟩,
            ⟨(some 38), (.op (.load none (.tmp 37))), (some (28, false))⟩,
            ⟨(some 39), (.op (.mv (.tmp 1))), (some (28, false))⟩,
            ⟨(some 40), (.op (.mv (.tmp 4))), (some (28, false))⟩,
            ⟨(some 41), (.op (.idxStr (.tmp 39) (.tmp 40))), (some (28, false))⟩,
            ⟨(some 42), (.op (.bin .neq (some .int) (.tmp 38) (.tmp 41))), (some (28, false))⟩,
            ⟨(some 43), (.op (.pick (.tmp 28) (.cst (.bool true)) (.tmp 42))), none⟩] [0, 1, 2, 3, 4, 5, 6, 7, 8, 9, 10, 11, 12, 13, 14, 15, 16, 17, 18, 19, 20, 21, 22, 23, 24, 25] [[], [], [], [], [], [], [], [], [], [], [], [], [], [], [], [], [], [], [], [], [], [], [], [], [], []] [])
def b61_3 : HCode :=
  (.region [
            ⟨(some 47), (.op (.mv (.tmp 0))), none⟩,
            ⟨(some 48), (.op (.nilc (.tmp 47))), none⟩,
            ⟨(some 49), (.op (.faddr 1 (.tmp 48))), none⟩,
            ⟨(some 50), (.op (.load none (.tmp 49))), none⟩,
            ⟨(some 51), (.op (.bin .add none (.tmp 50) (.cst (.int .i64 1)))), none⟩,
            ⟨(some 52), (.op (.nilc (.tmp 47))), none⟩,
            ⟨(some 53), (.op (.faddr 1 (.tmp 52))), none⟩,
            ⟨none, (.op (.store 1 (.tmp 53) (.tmp 51))), none⟩] [])
def b61_4 : HCode :=
  (.seq (.block 1 (.seq (.seq b61_2 (.cond (.tmp 43) (.seq (.region [
              ⟨(some 44), (.op (.mv (.tmp 0))), none⟩,
              ⟨(some 45), (.op (.nilc (.tmp 44))), none⟩,
              ⟨(some 46), (.op (.faddr 2 (.tmp 45))), none⟩,
              ⟨none, (.op (.store 1 (.tmp 46) (.cst (.bool true)))), none⟩] []) .ret) .skip)) b61_3)) (.region [
          ⟨(some 16), (.op (.mv (.tmp 4))), none⟩,
          ⟨(some 17), (.op (.bin .add none (.tmp 16) (.cst (.int .i64 1)))), none⟩,
          ⟨(some 4), (.op (.mv (.tmp 17))), none⟩] []))
set_option linter.defProp false in
def ub61 :=
  And.intro (hw_unf b61_1.eq_1) <|
  And.intro (hw_unf b61_2.eq_1) <|
  And.intro (hw_unf b61_3.eq_1) <|
  hw_unf b61_4.eq_1
def h61 : HFn :=
  ⟨54, [], (.seq (.region [
      ⟨(some 4), (.op (.mv (.cst (.int .i64 0)))), none⟩] []) (.block 0 (.loop (.seq (.seq b61_1 (.cond (.tmp 15) .skip (.exit 0))) b61_4))))⟩
theorem c61 : cFn Tryd.prog [] Tryd.f61 = some h61 := by kernel_rfl
/-- (*stint/answers.cursor).number -/
def b62_1 : HCode :=
  (.draw [
          ⟨(some 14), (.op (.mv (.tmp 0))), none⟩,
          ⟨(some 15), (.op (.nilc (.tmp 14))), none⟩,
          ⟨(some 16), (.op (.faddr 2 (.tmp 15))), none⟩,
          ⟨(some 17), (.op (.load none (.tmp 16))), none⟩,
          ⟨(some 18), (.op (.un .not (.tmp 17))), none⟩,
          ⟨(some 19), (.op (.mv (.tmp 18))), none⟩,
          ⟨(some 20), (.op (.mv (.tmp 0))), (some (19, true))⟩,
          ⟨(some 21), (.op (.nilc (.tmp 20))), (some (19, true))⟩,
          ⟨(some 22), (.op (.faddr 1 (.tmp 21))), (some (19, true))⟩,
          ⟨(some 23), (.op (.load none (.tmp 22))), (some (19, true))⟩,
          ⟨(some 24), (.op (.mv (.tmp 0))), (some (19, true))⟩,
          ⟨(some 25), (.op (.nilc (.tmp 24))), (some (19, true))⟩,
          ⟨(some 26), (.op (.faddr 0 (.tmp 25))), (some (19, true))⟩,
          ⟨(some 27), (.op (.load none (.tmp 26))), (some (19, true))⟩,
          ⟨(some 28), (.op (.len .slice (.tmp 27))), (some (19, true))⟩,
          ⟨(some 29), (.op (.bin .lss none (.tmp 23) (.tmp 28))), (some (19, true))⟩,
          ⟨(some 30), (.op (.pick (.tmp 19) (.tmp 29) (.cst (.bool false)))), none⟩,
          ⟨(some 31), (.op (.mv (.tmp 30))), none⟩,
          ⟨(some 32), (.op (.mv (.tmp 0))), (some (31, true))⟩,
          ⟨(some 33), (.op (.nilc (.tmp 32))), (some (31, true))⟩,
          ⟨(some 34), (.op (.faddr 0 (.tmp 33))), (some (31, true))⟩,
          ⟨(some 35), (.op (.load none (.tmp 34))), (some (31, true))⟩,
          ⟨(some 36), (.op (.mv (.tmp 0))), (some (31, true))⟩,
          ⟨(some 37), (.op (.nilc (.tmp 36))), (some (31, true))⟩,
          ⟨(some 38), (.op (.faddr 1 (.tmp 37))), (some (31, true))⟩,
          ⟨(some 39), (.op (.load none (.tmp 38))), (some (31, true))⟩,
          ⟨(some 40), (.op (.idxS 1 (.tmp 35) (.tmp 39))), (some (31, true))⟩,
          ⟨(some 41), (.op (.load none (.tmp 40))), (some (31, true))⟩,
          ⟨(some 42), (.op (.bin .geq none (.tmp 41) (.cst (.int .u8 48)))), (some (31, true))⟩,
          ⟨(some 43), (.op (.pick (.tmp 31) (.tmp 42) (.cst (.bool false)))), none⟩,
          ⟨(some 44), (.op (.mv (.tmp 43))), none⟩,
          ⟨(some 45), (.op (.mv (.tmp 0))), (some (44, true))⟩,
          ⟨(some 46), (.op (.nilc (.tmp 45))), (some (44, true))⟩,
          ⟨(some 47), (.op (.faddr 0 (.tmp 46))), (some (44, true))⟩,
          ⟨(some 48), (.op (.load none (.tmp 47))), (some (44, true))⟩,
          ⟨(some 49), (.op (.mv (.tmp 0))), (some (44, true))⟩,
          ⟨(some 50), (.op (.nilc (.tmp 49))), (some (44, true))⟩,
          ⟨(some 51), (.op (.faddr 1 (.tmp 50))), (some (44, true))⟩,
          ⟨(some 52), (.op (.load none (.tmp 51))), (some (44, true))⟩,
          ⟨(some 53), (.op (.idxS 1 (.tmp 48) (.tmp 52))), (some (44, true))⟩,
          ⟨(some 54), (.op (.load none (.tmp 53))), (some (44, true))⟩,
          ⟨(some 55), (.op (.bin .leq none (.tmp 54) (.cst (.int .u8 57)))), (some (44, true))⟩,
          ⟨(some 56), (.op (.pick (.tmp 44) (.tmp 55) (.cst (.bool false)))), none⟩] [0, 1, 2, 3, 4, 5, 6, 7, 8, 9, 10, 11, 12, 13, 14, 15, 16, 17, 18, 19, 20, 21, 22, 23, 24, 25, 26, 27, 28, 29, 30, 31, 32, 33, 34, 35, 36, 37, 38, 39, 40, 41, 42] [[], [], [], [], [], [], [], [], [], [], [], [], [], [], [], [], [], [], [], [], [], [], [], [], [], [], [], [], [], [], [], [], [], [], [], [], [], [], [], [], [], [], []] [])
def b62_2 : HCode :=
  (.region [
            ⟨(some 72), (.op (.mv (.tmp 9))), none⟩,
            ⟨(some 73), (.op (.mv (.tmp 2))), none⟩,
            ⟨(some 74), (.op (.bin .gtr none (.tmp 72) (.tmp 73))), none⟩,
            ⟨(some 75), (.op (.mv (.tmp 74))), none⟩,
            ⟨(some 76), (.op (.mv (.tmp 9))), (some (75, false))⟩,
            ⟨(some 77), (.op (.mv (.tmp 1))), (some (75, false))⟩,
            ⟨(some 78), (.op (.bin .lss none (.tmp 76) (.tmp 77))), (some (75, false))⟩,
            ⟨(some 79), (.op (.pick (.tmp 75) (.cst (.bool true)) (.tmp 78))), none⟩,
            ⟨(some 80), (.op (.mv (.tmp 79))), none⟩,
            ⟨(some 81), (.op (.mv (.tmp 0))), (some (80, false))⟩,
            ⟨(some 82), (.op (.nilc (.tmp 81))), (some (80, false))⟩,
            ⟨(some 83), (.op (.faddr 1 (.tmp 82))), (some (80, false))⟩,
            ⟨(some 84), (.op (.load none (.tmp 83))), (some (80, false))⟩,
            ⟨(some 85), (.op (.mv (.tmp 8))), (some (80, false))⟩,
            ⟨(some 86), (.op (.bin .gtr none (.tmp 84) (.tmp 85))), (some (80, false))⟩,
            ⟨(some 87), (.op (.mv (.tmp 86))), (some (80, false))⟩,
            ⟨(some 88), (.op (.mv (.tmp 7))), (some (87, true))⟩,
            ⟨(some 89), (.op (.bin .eql (some .int) (.tmp 88) (.cst (.int .i64 0)))), (some (87, true))⟩,
            ⟨(some 90), (.op (.pick (.tmp 87) (.tmp 89) (.cst (.bool false)))), (some (80, false))⟩,
            ⟨(some 91), (.op (.pick (.tmp 80) (.cst (.bool true)) (.tmp 90))), none⟩] [])
def b62_3 : HCode :=
  (.region [
            ⟨(some 93), (.op (.mv (.tmp 0))), none⟩,
            ⟨(some 94), (.op (.nilc (.tmp 93))), none⟩,
            ⟨(some 95), (.op (.faddr 1 (.tmp 94))), none⟩,
            ⟨(some 96), (.op (.load none (.tmp 95))), none⟩,
            ⟨(some 97), (.op (.bin .add none (.tmp 96) (.cst (.int .i64 1)))), none⟩,
            ⟨(some 98), (.op (.nilc (.tmp 93))), none⟩,
            ⟨(some 99), (.op (.faddr 1 (.tmp 98))), none⟩,
            ⟨none, (.op (.store 1 (.tmp 99) (.tmp 97))), none⟩] [])
def b62_4 : HCode :=
  (.draw [
            ⟨(some 57), (.op (.mv (.tmp 7))), none⟩,
            ⟨(some 58), (.op (.bin .mul none (.cst (.int .i64 10)) (.tmp 57))), none⟩,
            ⟨(some 59), (.op (.mv (.tmp 0))), none⟩,
            ⟨(some 60), (.op (.nilc (.tmp 59))), none⟩,
            ⟨(some 61), (.op (.faddr 0 (.tmp 60))), none⟩,
            ⟨(some 62), (.op (.load none (.tmp 61))), none⟩,
            ⟨(some 63), (.op (.mv (.tmp 0))), none⟩,
            ⟨(some 64), (.op (.nilc (.tmp 63))), none⟩,
            ⟨(some 65), (.op (.faddr 1 (.tmp 64))), none⟩,
            ⟨(some 66), (.op (.load none (.tmp 65))), none⟩,
            ⟨(some 67), (.op (.idxS 1 (.tmp 62) (.tmp 66))), none⟩,
            ⟨(some 68), (.op (.load none (.tmp 67))), none⟩,
            ⟨(some 69), (.op (.bin .sub none (.tmp 68) (.cst (.int .u8 48)))), none⟩,
            ⟨(some 70), (.op (.cInt .i64 (.tmp 69))), none⟩,
            ⟨(some 71), (.op (.bin .add none (.tmp 58) (.tmp 70))), none⟩,
            ⟨(some 9), (.op (.mv (.tmp 71))), none⟩] [0, 1, 2, 3, 4, 5, 6, 7, 8, 9, 10, 11, 12, 13, 14, 15] [[], [], [], [], [], [], [], [], [], [], [], [], [], [], [], []] [])
def b62_5 : HCode :=
  (.region [
      ⟨(some 100), (.op (.mv (.tmp 0))), none⟩,
      ⟨(some 101), (.op (.mv (.tmp 0))), none⟩,
      ⟨(some 102), (.op (.nilc (.tmp 101))), none⟩,
      ⟨(some 103), (.op (.faddr 2 (.tmp 102))), none⟩,
      ⟨(some 104), (.op (.load none (.tmp 103))), none⟩,
      ⟨(some 105), (.op (.mv (.tmp 104))), none⟩,
      ⟨(some 106), (.op (.mv (.tmp 0))), (some (105, false))⟩,
      ⟨(some 107), (.op (.nilc (.tmp 106))), (some (105, false))⟩,
      ⟨(some 108), (.op (.faddr 1 (.tmp 107))), (some (105, false))⟩,
      ⟨(some 109), (.op (.load none (.tmp 108))), (some (105, false))⟩,
      ⟨(some 110), (.op (.mv (.tmp 8))), (some (105, false))⟩,
      ⟨(some 111), (.op (.bin .eql (some .int) (.tmp 109) (.tmp 110))), (some (105, false))⟩,
      ⟨(some 112), (.op (.pick (.tmp 105) (.cst (.bool true)) (.tmp 111))), none⟩,
      ⟨(some 113), (.op (.nilc (.tmp 100))), none⟩,
      ⟨(some 114), (.op (.faddr 2 (.tmp 113))), none⟩,
      ⟨none, (.op (.store 1 (.tmp 114) (.tmp 112))), none⟩] [])
def b62_6 : HCode :=
  (.seq (.draw [
      ⟨(some 10), (.op (.mv (.tmp 0))), none⟩,
      ⟨(some 11), (.op (.nilc (.tmp 10))), none⟩,
      ⟨(some 12), (.op (.faddr 1 (.tmp 11))), none⟩,
      ⟨(some 13), (.op (.load none (.tmp 12))), none⟩,
      ⟨(some 7), (.op (.mv (.cst (.int .i64 0)))), none⟩,
      ⟨(some 8), (.op (.mv (.tmp 13))), none⟩] [0, 1, 2, 3, 4, 5] [[], [], [], [], [], []] []) (.seq (.block 0 (.loop (.seq (.seq b62_1 (.cond (.tmp 56) .skip (.exit 0))) (.block 1 (.seq b62_4 (.seq (.seq b62_2 (.cond (.tmp 91) (.exit 0) .skip)) (.seq (.region [
            ⟨(some 92), (.op (.mv (.tmp 9))), none⟩,
            ⟨(some 7), (.op (.mv (.tmp 92))), none⟩] []) b62_3))))))) (.seq b62_5 (.seq (.region [
      ⟨(some 115), (.op (.mv (.tmp 7))), none⟩,
      ⟨(some 6), (.op (.mv (.tmp 115))), none⟩] []) .ret))))
set_option linter.defProp false in
def ub62 :=
  And.intro (hw_unf b62_1.eq_1) <|
  And.intro (hw_unf b62_2.eq_1) <|
  And.intro (hw_unf b62_3.eq_1) <|
  And.intro (hw_unf b62_4.eq_1) <|
  And.intro (hw_unf b62_5.eq_1) <|
  hw_unf b62_6.eq_1
def h62 : HFn :=
  ⟨116, [(.tmp 6)], (.seq (.region [
      ⟨(some 6), (.op (.mv (.cst (.int .i64 0)))), none⟩] []) b62_6)⟩
theorem c62 : cFn Tryd.prog [] Tryd.f62 = some h62 := by kernel_rfl
/-- (*stint/answers.cursor).bytes -/
def b63_1 : HCode :=
  (.region [
        ⟨(some 22), (.op (.mv (.tmp 0))), none⟩,
        ⟨(some 23), (.op (.mv (.tmp 0))), none⟩,
        ⟨(some 24), (.op (.mv (.tmp 0))), none⟩,
        ⟨(some 25), (.op (.nilc (.tmp 24))), none⟩,
        ⟨(some 26), (.op (.faddr 0 (.tmp 25))), none⟩,
        ⟨(some 27), (.op (.load none (.tmp 26))), none⟩,
        ⟨(some 28), (.op (.len .slice (.tmp 27))), none⟩,
        ⟨(some 29), (.op (.nilc (.tmp 22))), none⟩,
        ⟨(some 30), (.op (.faddr 1 (.tmp 29))), none⟩,
        ⟨none, (.op (.store 1 (.tmp 30) (.tmp 28))), none⟩,
        ⟨(some 31), (.op (.nilc (.tmp 23))), none⟩,
        ⟨(some 32), (.op (.faddr 2 (.tmp 31))), none⟩,
        ⟨none, (.op (.store 1 (.tmp 32) (.cst (.bool true)))), none⟩] [])
def b63_2 : HCode :=
  (.draw [
      ⟨(some 10), (.op (.mv (.tmp 0))), none⟩,
      ⟨(some 11), (.op (.nilc (.tmp 10))), none⟩,
      ⟨(some 12), (.op (.faddr 0 (.tmp 11))), none⟩,
      ⟨(some 13), (.op (.load none (.tmp 12))), none⟩,
      ⟨(some 14), (.op (.len .slice (.tmp 13))), none⟩,
      ⟨(some 15), (.op (.mv (.tmp 0))), none⟩,
      ⟨(some 16), (.op (.nilc (.tmp 15))), none⟩,
      ⟨(some 17), (.op (.faddr 1 (.tmp 16))), none⟩,
      ⟨(some 18), (.op (.load none (.tmp 17))), none⟩,
      ⟨(some 19), (.op (.bin .sub none (.tmp 14) (.tmp 18))), none⟩,
      ⟨(some 20), (.op (.mv (.tmp 1))), none⟩,
      ⟨(some 21), (.op (.bin .lss none (.tmp 19) (.tmp 20))), none⟩] [0, 1, 2, 3, 4, 5, 6, 7, 8, 9, 10, 11] [[], [], [], [], [], [], [], [], [], [], [], []] [])
def b63_3 : HCode :=
  (.draw [
      ⟨(some 35), (.op (.mv (.tmp 5))), none⟩,
      ⟨(some 36), (.op (.mv (.tmp 0))), none⟩,
      ⟨(some 37), (.op (.nilc (.tmp 36))), none⟩,
      ⟨(some 38), (.op (.faddr 0 (.tmp 37))), none⟩,
      ⟨(some 39), (.op (.load none (.tmp 38))), none⟩,
      ⟨(some 40), (.op (.mv (.tmp 0))), none⟩,
      ⟨(some 41), (.op (.nilc (.tmp 40))), none⟩,
      ⟨(some 42), (.op (.faddr 1 (.tmp 41))), none⟩,
      ⟨(some 43), (.op (.load none (.tmp 42))), none⟩,
      ⟨(some 44), (.op (.sliceSl 1 (.tmp 39) (some (.tmp 43)) none none)), none⟩,
      ⟨(some 45), (.op (.copy 1 (.tmp 35) (.tmp 44))), none⟩] [0, 1, 2, 3, 4, 5, 6, 7, 8, 9, 10] [[], [], [], [], [], [], [], [], [], [], [9, 4, 8]] [])
def b63_4 : HCode :=
  (.seq (.region [
      ⟨(some 46), (.op (.mv (.tmp 0))), none⟩,
      ⟨(some 47), (.op (.nilc (.tmp 46))), none⟩,
      ⟨(some 48), (.op (.faddr 1 (.tmp 47))), none⟩,
      ⟨(some 49), (.op (.load none (.tmp 48))), none⟩,
      ⟨(some 50), (.op (.mv (.tmp 1))), none⟩,
      ⟨(some 51), (.op (.bin .add none (.tmp 49) (.tmp 50))), none⟩,
      ⟨(some 52), (.op (.nilc (.tmp 46))), none⟩,
      ⟨(some 53), (.op (.faddr 1 (.tmp 52))), none⟩,
      ⟨none, (.op (.store 1 (.tmp 53) (.tmp 51))), none⟩] []) (.seq (.region [
      ⟨(some 54), (.op (.mv (.tmp 5))), none⟩,
      ⟨(some 4), (.op (.mv (.tmp 54))), none⟩] []) .ret))
def b63_5 : HCode :=
  (.seq (.seq (.region [
      ⟨(some 6), (.op (.mv (.tmp 0))), none⟩,
      ⟨(some 7), (.op (.nilc (.tmp 6))), none⟩,
      ⟨(some 8), (.op (.faddr 2 (.tmp 7))), none⟩,
      ⟨(some 9), (.op (.load none (.tmp 8))), none⟩] []) (.cond (.tmp 9) (.seq (.region [
        ⟨(some 4), (.op (.mv (.cst .nilSlice))), none⟩] []) .ret) .skip)) (.seq (.seq b63_2 (.cond (.tmp 21) (.seq b63_1 (.seq (.region [
        ⟨(some 4), (.op (.mv (.cst .nilSlice))), none⟩] []) .ret)) .skip)) (.seq (.region [
      ⟨(some 33), (.op (.mv (.tmp 1))), none⟩,
      ⟨(some 34), (.op (.mkSlice 1 1 [(.int .u8 0)] (.tmp 33) (.tmp 33))), none⟩,
      ⟨(some 5), (.op (.mv (.tmp 34))), none⟩] []) (.seq b63_3 b63_4))))
set_option linter.defProp false in
def ub63 :=
  And.intro (hw_unf b63_1.eq_1) <|
  And.intro (hw_unf b63_2.eq_1) <|
  And.intro (hw_unf b63_3.eq_1) <|
  And.intro (hw_unf b63_4.eq_1) <|
  hw_unf b63_5.eq_1
def h63 : HFn :=
  ⟨55, [(.tmp 4)], (.seq (.region [
      ⟨(some 4), (.op (.mv (.cst .nilSlice))), none⟩] []) b63_5)⟩
theorem c63 : cFn Tryd.prog [] Tryd.f63 = some h63 := by kernel_rfl
/-- (*stint/answers.cursor).name -/
def b64_1 : HCode :=
  (.draw [
          ⟨(some 8), (.op (.mv (.tmp 0))), none⟩,
          ⟨(some 9), (.op (.nilc (.tmp 8))), none⟩,
          ⟨(some 10), (.op (.faddr 2 (.tmp 9))), none⟩,
          ⟨(some 11), (.op (.load none (.tmp 10))), none⟩,
          ⟨(some 12), (.op (.un .not (.tmp 11))), none⟩,
          ⟨(some 13), (.op (.mv (.tmp 12))), none⟩,
          ⟨(some 14), (.op (.mv (.tmp 0))), (some (13, true))⟩,
          ⟨(some 15), (.op (.nilc (.tmp 14))), (some (13, true))⟩,
          ⟨(some 16), (.op (.faddr 1 (.tmp 15))), (some (13, true))⟩,
          ⟨(some 17), (.op (.load none (.tmp 16))), (some (13, true))⟩,
          ⟨(some 18), (.op (.mv (.tmp 0))), (some (13, true))⟩,
          ⟨(some 19), (.op (.nilc (.tmp 18))), (some (13, true))⟩,
          ⟨(some 20), (.op (.faddr 0 (.tmp 19))), (some (13, true))⟩,
          ⟨(some 21), (.op (.load none (.tmp 20))), (some (13, true))⟩,
          ⟨(some 22), (.op (.len .slice (.tmp 21))), (some (13, true))⟩,
          ⟨(some 23), (.op (.bin .lss none (.tmp 17) (.tmp 22))), (some (13, true))⟩,
          ⟨(some 24), (.op (.pick (.tmp 13) (.tmp 23) (.cst (.bool false)))), none⟩,
          ⟨(some 25), (.op (.mv (.tmp 24))), none⟩,
          ⟨(some 26), (.op (.mv (.tmp 0))), (some (25, true))⟩,
          ⟨(some 27), (.op (.nilc (.tmp 26))), (some (25, true))⟩,
          ⟨(some 28), (.op (.faddr 0 (.tmp 27))), (some (25, true))⟩,
          ⟨(some 29), (.op (.load none (.tmp 28))), (some (25, true))⟩,
          ⟨(some 30), (.op (.mv (.tmp 3))), (some (25, true))⟩,
          ⟨(some 31), (.op (.mv (.tmp 0))), (some (25, true))⟩,
          ⟨(some 32), (.op (.nilc (.tmp 31))), (some (25, true))⟩,
          ⟨(some 33), (.op (.faddr 1 (.tmp 32))), (some (25, true))⟩,
          ⟨(some 34), (.op (.load none (.tmp 33))), (some (25, true))⟩,
          ⟨(some 35), (.op (.bin .add none (.tmp 34) (.cst (.int .i64 1)))), (some (25, true))⟩,
          ⟨(some 36), (.op (.sliceSl 1 (.tmp 29) (some (.tmp 30)) (some (.tmp 35)) none)), (some (25, true))⟩,
          ⟨(some 37), (.op (.b2s (.tmp 36))), (some (25, true))⟩,
          ⟨(some 38), (.call (.cst (.func (.func 37) [] [])) [(.tmp 37)]), (some (25, true))⟩,
          ⟨(some 39), (.op (.pick (.tmp 25) (.tmp 38) (.cst (.bool false)))), none⟩] [0, 1, 2, 3, 4, 5, 6, 7, 8, 9, 10, 11, 12, 13, 14, 15, 16, 17, 18, 19, 20, 21, 22, 23, 24, 25, 26, 27, 28, 29, 30, 31] [[], [], [], [], [], [], [], [], [], [], [], [], [], [], [], [], [], [], [], [], [], [], [], [], [], [], [], [], [], [], [29, 28, 21, 3, 9, 14, 13, 26], []] [])
def b64_2 : HCode :=
  (.region [
            ⟨(some 40), (.op (.mv (.tmp 0))), none⟩,
            ⟨(some 41), (.op (.nilc (.tmp 40))), none⟩,
            ⟨(some 42), (.op (.faddr 1 (.tmp 41))), none⟩,
            ⟨(some 43), (.op (.load none (.tmp 42))), none⟩,
            ⟨(some 44), (.op (.bin .add none (.tmp 43) (.cst (.int .i64 1)))), none⟩,
            ⟨(some 45), (.op (.nilc (.tmp 40))), none⟩,
            ⟨(some 46), (.op (.faddr 1 (.tmp 45))), none⟩,
            ⟨none, (.op (.store 1 (.tmp 46) (.tmp 44))), none⟩] [])
def b64_3 : HCode :=
  (.draw [
      ⟨(some 62), (.op (.mv (.tmp 0))), none⟩,
      ⟨(some 63), (.op (.nilc (.tmp 62))), none⟩,
      ⟨(some 64), (.op (.faddr 0 (.tmp 63))), none⟩,
      ⟨(some 65), (.op (.load none (.tmp 64))), none⟩,
      ⟨(some 66), (.op (.mv (.tmp 3))), none⟩,
      ⟨(some 67), (.op (.mv (.tmp 0))), none⟩,
      ⟨(some 68), (.op (.nilc (.tmp 67))), none⟩,
      ⟨(some 69), (.op (.faddr 1 (.tmp 68))), none⟩,
      ⟨(some 70), (.op (.load none (.tmp 69))), none⟩,
      ⟨(some 71), (.op (.sliceSl 1 (.tmp 65) (some (.tmp 66)) (some (.tmp 70)) none)), none⟩,
      ⟨(some 72), (.op (.b2s (.tmp 71))), none⟩,
      ⟨(some 2), (.op (.mv (.tmp 72))), none⟩] [0, 1, 2, 3, 4, 5, 6, 7, 8, 9, 10, 11] [[], [], [], [], [], [], [], [], [], [], [], []] [])
def b64_4 : HCode :=
  (.region [
      ⟨(some 47), (.op (.mv (.tmp 0))), none⟩,
      ⟨(some 48), (.op (.mv (.tmp 0))), none⟩,
      ⟨(some 49), (.op (.nilc (.tmp 48))), none⟩,
      ⟨(some 50), (.op (.faddr 2 (.tmp 49))), none⟩,
      ⟨(some 51), (.op (.load none (.tmp 50))), none⟩,
      ⟨(some 52), (.op (.mv (.tmp 51))), none⟩,
      ⟨(some 53), (.op (.mv (.tmp 0))), (some (52, false))⟩,
      ⟨(some 54), (.op (.nilc (.tmp 53))), (some (52, false))⟩,
      ⟨(some 55), (.op (.faddr 1 (.tmp 54))), (some (52, false))⟩,
      ⟨(some 56), (.op (.load none (.tmp 55))), (some (52, false))⟩,
      ⟨(some 57), (.op (.mv (.tmp 3))), (some (52, false))⟩,
      ⟨(some 58), (.op (.bin .eql (some .int) (.tmp 56) (.tmp 57))), (some (52, false))⟩,
      ⟨(some 59), (.op (.pick (.tmp 52) (.cst (.bool true)) (.tmp 58))), none⟩,
      ⟨(some 60), (.op (.nilc (.tmp 47))), none⟩,
      ⟨(some 61), (.op (.faddr 2 (.tmp 60))), none⟩,
      ⟨none, (.op (.store 1 (.tmp 61) (.tmp 59))), none⟩] [])
set_option linter.defProp false in
def ub64 :=
  And.intro (hw_unf b64_1.eq_1) <|
  And.intro (hw_unf b64_2.eq_1) <|
  And.intro (hw_unf b64_3.eq_1) <|
  hw_unf b64_4.eq_1
def h64 : HFn :=
  ⟨73, [(.tmp 2)], (.seq (.region [
      ⟨(some 2), (.op (.mv (.cst (.str [])))), none⟩] []) (.seq (.region [
      ⟨(some 4), (.op (.mv (.tmp 0))), none⟩,
      ⟨(some 5), (.op (.nilc (.tmp 4))), none⟩,
      ⟨(some 6), (.op (.faddr 1 (.tmp 5))), none⟩,
      ⟨(some 7), (.op (.load none (.tmp 6))), none⟩,
      ⟨(some 3), (.op (.mv (.tmp 7))), none⟩] []) (.seq (.block 0 (.loop (.seq (.seq b64_1 (.cond (.tmp 39) .skip (.exit 0))) (.block 1 b64_2)))) (.seq b64_4 (.seq b64_3 .ret)))))⟩
theorem c64 : cFn Tryd.prog [] Tryd.f64 = some h64 := by kernel_rfl
end Go.Proofs.YthihchoccpnfeaaDoor
/- The functions, turned (written by program, each checked by the kernel). -/
namespace Go.Proofs.YthihchoccpnfeaaDoor
open Go Go.HL
/-- stint/answers.Check -/
def h11 : HFn :=
  ⟨93, [(.tmp 2)],
    (.seq (.region [
      ⟨(some 1), (.op (.box (.tmp 0))), none⟩,
      ⟨(some 2), (.op (.mv (.cst (.int .i64 0)))), none⟩] [])
    (.seq (.seq (.region [
      ⟨(some 7), (.op (.faddr 0 (.tmp 1))), none⟩,
      ⟨(some 8), (.op (.load none (.tmp 7))), none⟩,
      ⟨(some 9), (.call (.cst (.func (.func 35) [] [])) [(.tmp 8)]), none⟩,
      ⟨(some 10), (.op (.bin .eql (some .str) (.tmp 9) (.cst (.str [])))), none⟩] [])
    (.cond (.tmp 10)
      (.seq (.region [
        ⟨(some 2), (.op (.mv (.cst (.int .i64 80)))), none⟩] [])
      .ret)
      .skip))
    (.seq (.draw [
      ⟨(some 11), (.op (.faddr 1 (.tmp 1))), none⟩,
      ⟨(some 12), (.op (.load none (.tmp 11))), none⟩,
      ⟨(some 13), (.op (.bin .eql (some .int) (.tmp 12) (.cst (.int .i64 0)))), none⟩,
      ⟨(some 14), (.op (.faddr 2 (.tmp 1))), none⟩,
      ⟨(some 15), (.op (.load none (.tmp 14))), none⟩,
      ⟨(some 16), (.op (.bin .eql (some .int) (.tmp 15) (.cst (.int .i64 0)))), none⟩,
      ⟨(some 17), (.op (.faddr 3 (.tmp 1))), none⟩,
      ⟨(some 18), (.op (.load none (.tmp 17))), none⟩,
      ⟨(some 19), (.op (.bin .eql (some .str) (.tmp 18) (.cst (.str [])))), none⟩,
      ⟨(some 20), (.op (.faddr 4 (.tmp 1))), none⟩,
      ⟨(some 21), (.op (.load none (.tmp 20))), none⟩,
      ⟨(some 22), (.op (.len .slice (.tmp 21))), none⟩,
      ⟨(some 23), (.op (.bin .eql (some .int) (.tmp 22) (.cst (.int .i64 0)))), none⟩,
      ⟨(some 3), (.op (.mv (.tmp 13))), none⟩,
      ⟨(some 4), (.op (.mv (.tmp 16))), none⟩,
      ⟨(some 5), (.op (.mv (.tmp 19))), none⟩,
      ⟨(some 6), (.op (.mv (.tmp 23))), none⟩] [0, 1, 2, 3, 4, 5, 6, 7, 8, 9, 10, 11, 12, 13, 14, 15, 16] [[], [], [], [], [], [], [], [], [], [], [], [], [], [], [], [], []] [])
    (.seq (.seq (.region [
      ⟨(some 24), (.op (.faddr 0 (.tmp 1))), none⟩,
      ⟨(some 25), (.op (.load none (.tmp 24))), none⟩] [])
    (.block 0
      (.seq (.seq (.region [
        ⟨(some 27), (.op (.bin .eql (some .int) (.tmp 25) (.cst (.int .i64 3)))), none⟩,
        ⟨(some 26), (.op (.mv (.tmp 27))), none⟩] [])
      (.cond (.tmp 26)
        .skip
        (.region [
          ⟨(some 28), (.op (.bin .eql (some .int) (.tmp 25) (.cst (.int .i64 12)))), none⟩,
          ⟨(some 26), (.op (.mv (.tmp 28))), none⟩] [])))
      (.cond (.tmp 26)
        (.draw [
          ⟨(some 29), (.op (.faddr 1 (.tmp 1))), none⟩,
          ⟨(some 30), (.op (.load none (.tmp 29))), none⟩,
          ⟨(some 31), (.op (.bin .geq none (.tmp 30) (.cst (.int .i64 1)))), none⟩,
          ⟨(some 32), (.op (.mv (.tmp 31))), none⟩,
          ⟨(some 33), (.op (.faddr 1 (.tmp 1))), (some (32, true))⟩,
          ⟨(some 34), (.op (.load none (.tmp 33))), (some (32, true))⟩,
          ⟨(some 35), (.op (.bin .leq none (.tmp 34) (.cst (.int .i64 1099511627776)))), (some (32, true))⟩,
          ⟨(some 36), (.op (.pick (.tmp 32) (.tmp 35) (.cst (.bool false)))), none⟩,
          ⟨(some 37), (.op (.faddr 4 (.tmp 1))), none⟩,
          ⟨(some 38), (.op (.load none (.tmp 37))), none⟩,
          ⟨(some 39), (.op (.len .slice (.tmp 38))), none⟩,
          ⟨(some 40), (.op (.faddr 0 (.tmp 1))), none⟩,
          ⟨(some 41), (.op (.load none (.tmp 40))), none⟩,
          ⟨(some 42), (.call (.cst (.func (.func 36) [] [])) [(.tmp 41)]), none⟩,
          ⟨(some 43), (.op (.bin .leq none (.tmp 39) (.tmp 42))), none⟩,
          ⟨(some 3), (.op (.mv (.tmp 36))), none⟩,
          ⟨(some 6), (.op (.mv (.tmp 43))), none⟩] [0, 1, 2, 3, 4, 5, 6, 7, 8, 9, 10, 11, 12, 13, 14, 15, 16] [[], [], [], [], [], [], [], [], [], [], [], [], [], [12, 1], [], [], []] [])
        (.seq (.region [
          ⟨(some 45), (.op (.bin .eql (some .int) (.tmp 25) (.cst (.int .i64 16)))), none⟩,
          ⟨(some 44), (.op (.mv (.tmp 45))), none⟩] [])
        (.cond (.tmp 44)
          (.draw [
            ⟨(some 46), (.op (.faddr 4 (.tmp 1))), none⟩,
            ⟨(some 47), (.op (.load none (.tmp 46))), none⟩,
            ⟨(some 48), (.op (.len .slice (.tmp 47))), none⟩,
            ⟨(some 49), (.op (.faddr 0 (.tmp 1))), none⟩,
            ⟨(some 50), (.op (.load none (.tmp 49))), none⟩,
            ⟨(some 51), (.call (.cst (.func (.func 36) [] [])) [(.tmp 50)]), none⟩,
            ⟨(some 52), (.op (.bin .leq none (.tmp 48) (.tmp 51))), none⟩,
            ⟨(some 6), (.op (.mv (.tmp 52))), none⟩] [0, 1, 2, 3, 4, 5, 6, 7] [[], [], [], [], [], [4], [], []] [])
          (.seq (.region [
            ⟨(some 54), (.op (.bin .eql (some .int) (.tmp 25) (.cst (.int .i64 1)))), none⟩,
            ⟨(some 53), (.op (.mv (.tmp 54))), none⟩] [])
          (.cond (.tmp 53)
            (.region [
              ⟨(some 55), (.op (.faddr 1 (.tmp 1))), none⟩,
              ⟨(some 56), (.op (.load none (.tmp 55))), none⟩,
              ⟨(some 57), (.op (.bin .geq none (.tmp 56) (.cst (.int .i64 1)))), none⟩,
              ⟨(some 58), (.op (.mv (.tmp 57))), none⟩,
              ⟨(some 59), (.op (.faddr 1 (.tmp 1))), (some (58, true))⟩,
              ⟨(some 60), (.op (.load none (.tmp 59))), (some (58, true))⟩,
              ⟨(some 61), (.op (.bin .leq none (.tmp 60) (.cst (.int .i64 1099511627776)))), (some (58, true))⟩,
              ⟨(some 62), (.op (.pick (.tmp 58) (.tmp 61) (.cst (.bool false)))), none⟩,
              ⟨(some 3), (.op (.mv (.tmp 62))), none⟩] [])
            (.seq (.region [
              ⟨(some 64), (.op (.bin .eql (some .int) (.tmp 25) (.cst (.int .i64 2)))), none⟩,
              ⟨(some 63), (.op (.mv (.tmp 64))), none⟩] [])
            (.cond (.tmp 63)
              (.region [
                ⟨(some 65), (.op (.faddr 3 (.tmp 1))), none⟩,
                ⟨(some 66), (.op (.load none (.tmp 65))), none⟩,
                ⟨(some 67), (.call (.cst (.func (.func 37) [] [])) [(.tmp 66)]), none⟩,
                ⟨(some 5), (.op (.mv (.tmp 67))), none⟩] [])
              (.seq (.seq (.region [
                ⟨(some 69), (.op (.bin .eql (some .int) (.tmp 25) (.cst (.int .i64 10)))), none⟩,
                ⟨(some 68), (.op (.mv (.tmp 69))), none⟩] [])
              (.cond (.tmp 68)
                .skip
                (.region [
                  ⟨(some 70), (.op (.bin .eql (some .int) (.tmp 25) (.cst (.int .i64 13)))), none⟩,
                  ⟨(some 68), (.op (.mv (.tmp 70))), none⟩] [])))
              (.cond (.tmp 68)
                (.region [
                  ⟨(some 71), (.op (.faddr 2 (.tmp 1))), none⟩,
                  ⟨(some 72), (.op (.load none (.tmp 71))), none⟩,
                  ⟨(some 73), (.op (.bin .geq none (.tmp 72) (.cst (.int .i64 0)))), none⟩,
                  ⟨(some 74), (.op (.mv (.tmp 73))), none⟩,
                  ⟨(some 75), (.op (.faddr 2 (.tmp 1))), (some (74, true))⟩,
                  ⟨(some 76), (.op (.load none (.tmp 75))), (some (74, true))⟩,
                  ⟨(some 77), (.op (.bin .leq none (.tmp 76) (.cst (.int .i64 4294967295)))), (some (74, true))⟩,
                  ⟨(some 78), (.op (.pick (.tmp 74) (.tmp 77) (.cst (.bool false)))), none⟩,
                  ⟨(some 4), (.op (.mv (.tmp 78))), none⟩] [])
                .skip))))))))))))
    (.seq (.seq (.region [
      ⟨(some 79), (.op (.mv (.tmp 3))), none⟩,
      ⟨(some 80), (.op (.un .not (.tmp 79))), none⟩,
      ⟨(some 81), (.op (.mv (.tmp 80))), none⟩,
      ⟨(some 82), (.op (.mv (.tmp 4))), (some (81, false))⟩,
      ⟨(some 83), (.op (.un .not (.tmp 82))), (some (81, false))⟩,
      ⟨(some 84), (.op (.pick (.tmp 81) (.cst (.bool true)) (.tmp 83))), none⟩,
      ⟨(some 85), (.op (.mv (.tmp 84))), none⟩,
      ⟨(some 86), (.op (.mv (.tmp 5))), (some (85, false))⟩,
      ⟨(some 87), (.op (.un .not (.tmp 86))), (some (85, false))⟩,
      ⟨(some 88), (.op (.pick (.tmp 85) (.cst (.bool true)) (.tmp 87))), none⟩,
      ⟨(some 89), (.op (.mv (.tmp 88))), none⟩,
      ⟨(some 90), (.op (.mv (.tmp 6))), (some (89, false))⟩,
      ⟨(some 91), (.op (.un .not (.tmp 90))), (some (89, false))⟩,
      ⟨(some 92), (.op (.pick (.tmp 89) (.cst (.bool true)) (.tmp 91))), none⟩] [])
    (.cond (.tmp 92)
      (.seq (.region [
        ⟨(some 2), (.op (.mv (.cst (.int .i64 81)))), none⟩] [])
      .ret)
      .skip))
    (.seq (.region [
      ⟨(some 2), (.op (.mv (.cst (.int .i64 0)))), none⟩] [])
    .ret))))))⟩
theorem c11 : cFn Tryd.prog [] Tryd.f11 = some h11 := by kernel_rfl
/-- stint/answers.Put -/
def h12 : HFn :=
  ⟨66, [(.tmp 2), (.tmp 3)],
    (.seq (.region [
      ⟨(some 1), (.op (.box (.tmp 0))), none⟩,
      ⟨(some 2), (.op (.mv (.cst .nilSlice))), none⟩,
      ⟨(some 3), (.op (.mv (.cst (.int .i64 0)))), none⟩] [])
    (.seq (.seq (.region [
      ⟨(some 6), (.op (.load (some 5) (.tmp 1))), none⟩,
      ⟨(some 7), (.call (.cst (.func (.func 11) [] [])) [(.tmp 6)]), none⟩,
      ⟨(some 4), (.op (.mv (.tmp 7))), none⟩] [])
    (.seq (.region [
      ⟨(some 8), (.op (.mv (.tmp 4))), none⟩,
      ⟨(some 9), (.op (.bin .neq (some .int) (.tmp 8) (.cst (.int .i64 0)))), none⟩] [])
    (.cond (.tmp 9)
      (.seq (.region [
        ⟨(some 10), (.op (.mv (.tmp 4))), none⟩,
        ⟨(some 2), (.op (.mv (.cst .nilSlice))), none⟩,
        ⟨(some 3), (.op (.mv (.tmp 10))), none⟩] [])
      .ret)
      .skip)))
    (.seq (.region [
      ⟨(some 11), (.op (.faddr 0 (.tmp 1))), none⟩,
      ⟨(some 12), (.op (.load none (.tmp 11))), none⟩,
      ⟨(some 13), (.call (.cst (.func (.func 35) [] [])) [(.tmp 12)]), none⟩,
      ⟨(some 14), (.op (.s2b (.tmp 13))), none⟩,
      ⟨(some 5), (.op (.mv (.tmp 14))), none⟩] [])
    (.seq (.seq (.region [
      ⟨(some 15), (.op (.faddr 0 (.tmp 1))), none⟩,
      ⟨(some 16), (.op (.load none (.tmp 15))), none⟩] [])
    (.block 0
      (.seq (.block 5
        (.seq (.block 4
          (.seq (.block 3
            (.seq (.block 2
              (.seq (.block 1
                (.seq (.seq (.seq (.seq (.region [
                  ⟨(some 18), (.op (.bin .eql (some .int) (.tmp 16) (.cst (.int .i64 3)))), none⟩,
                  ⟨(some 17), (.op (.mv (.tmp 18))), none⟩] [])
                (.cond (.tmp 17)
                  .skip
                  (.region [
                    ⟨(some 19), (.op (.bin .eql (some .int) (.tmp 16) (.cst (.int .i64 12)))), none⟩,
                    ⟨(some 17), (.op (.mv (.tmp 19))), none⟩] [])))
                (.cond (.tmp 17)
                  (.exit 1)
                  .skip))
                (.seq (.seq (.region [
                  ⟨(some 21), (.op (.bin .eql (some .int) (.tmp 16) (.cst (.int .i64 16)))), none⟩,
                  ⟨(some 20), (.op (.mv (.tmp 21))), none⟩] [])
                (.cond (.tmp 20)
                  (.exit 2)
                  .skip))
                (.seq (.seq (.region [
                  ⟨(some 23), (.op (.bin .eql (some .int) (.tmp 16) (.cst (.int .i64 1)))), none⟩,
                  ⟨(some 22), (.op (.mv (.tmp 23))), none⟩] [])
                (.cond (.tmp 22)
                  (.exit 3)
                  .skip))
                (.seq (.seq (.region [
                  ⟨(some 25), (.op (.bin .eql (some .int) (.tmp 16) (.cst (.int .i64 2)))), none⟩,
                  ⟨(some 24), (.op (.mv (.tmp 25))), none⟩] [])
                (.cond (.tmp 24)
                  (.exit 4)
                  .skip))
                (.seq (.seq (.region [
                  ⟨(some 27), (.op (.bin .eql (some .int) (.tmp 16) (.cst (.int .i64 10)))), none⟩,
                  ⟨(some 26), (.op (.mv (.tmp 27))), none⟩] [])
                (.cond (.tmp 26)
                  .skip
                  (.region [
                    ⟨(some 28), (.op (.bin .eql (some .int) (.tmp 16) (.cst (.int .i64 13)))), none⟩,
                    ⟨(some 26), (.op (.mv (.tmp 28))), none⟩] [])))
                (.cond (.tmp 26)
                  (.exit 5)
                  .skip))))))
                (.exit 0)))
              (.region [
                ⟨(some 29), (.op (.mv (.tmp 5))), none⟩,
                ⟨(some 30), (.op (.faddr 1 (.tmp 1))), none⟩,
                ⟨(some 31), (.op (.load none (.tmp 30))), none⟩,
                ⟨(some 32), (.call (.cst (.func (.func 38) [] [])) [(.tmp 31)]), none⟩,
                ⟨(some 33), (.op (.bin .add none (.cst (.str [32])) (.tmp 32))), none⟩,
                ⟨(some 34), (.op (.append 1 1 (.tmp 29) (.tmp 33))), none⟩,
                ⟨(some 5), (.op (.mv (.tmp 34))), none⟩] [])))
            (.seq (.seq (.region [
              ⟨(some 35), (.op (.mv (.tmp 5))), none⟩,
              ⟨(some 36), (.op (.faddr 4 (.tmp 1))), none⟩,
              ⟨(some 37), (.op (.load none (.tmp 36))), none⟩,
              ⟨(some 38), (.op (.len .slice (.tmp 37))), none⟩,
              ⟨(some 39), (.call (.cst (.func (.func 38) [] [])) [(.tmp 38)]), none⟩,
              ⟨(some 40), (.op (.bin .add none (.cst (.str [32])) (.tmp 39))), none⟩,
              ⟨(some 41), (.op (.bin .add none (.tmp 40) (.cst (.str [13, 10])))), none⟩,
              ⟨(some 42), (.op (.append 1 1 (.tmp 35) (.tmp 41))), none⟩,
              ⟨(some 5), (.op (.mv (.tmp 42))), none⟩] [])
            (.region [
              ⟨(some 43), (.op (.mv (.tmp 5))), none⟩,
              ⟨(some 44), (.op (.faddr 4 (.tmp 1))), none⟩,
              ⟨(some 45), (.op (.load none (.tmp 44))), none⟩,
              ⟨(some 46), (.op (.append 1 1 (.tmp 43) (.tmp 45))), none⟩,
              ⟨(some 5), (.op (.mv (.tmp 46))), none⟩] []))
            (.exit 0))))
          (.seq (.region [
            ⟨(some 47), (.op (.mv (.tmp 5))), none⟩,
            ⟨(some 48), (.op (.faddr 1 (.tmp 1))), none⟩,
            ⟨(some 49), (.op (.load none (.tmp 48))), none⟩,
            ⟨(some 50), (.call (.cst (.func (.func 38) [] [])) [(.tmp 49)]), none⟩,
            ⟨(some 51), (.op (.bin .add none (.cst (.str [32])) (.tmp 50))), none⟩,
            ⟨(some 52), (.op (.append 1 1 (.tmp 47) (.tmp 51))), none⟩,
            ⟨(some 5), (.op (.mv (.tmp 52))), none⟩] [])
          (.exit 0))))
        (.seq (.region [
          ⟨(some 53), (.op (.mv (.tmp 5))), none⟩,
          ⟨(some 54), (.op (.faddr 3 (.tmp 1))), none⟩,
          ⟨(some 55), (.op (.load none (.tmp 54))), none⟩,
          ⟨(some 56), (.op (.bin .add none (.cst (.str [32])) (.tmp 55))), none⟩,
          ⟨(some 57), (.op (.append 1 1 (.tmp 53) (.tmp 56))), none⟩,
          ⟨(some 5), (.op (.mv (.tmp 57))), none⟩] [])
        (.exit 0))))
      (.seq (.region [
        ⟨(some 58), (.op (.mv (.tmp 5))), none⟩,
        ⟨(some 59), (.op (.faddr 2 (.tmp 1))), none⟩,
        ⟨(some 60), (.op (.load none (.tmp 59))), none⟩,
        ⟨(some 61), (.call (.cst (.func (.func 38) [] [])) [(.tmp 60)]), none⟩,
        ⟨(some 62), (.op (.bin .add none (.cst (.str [32])) (.tmp 61))), none⟩,
        ⟨(some 63), (.op (.append 1 1 (.tmp 58) (.tmp 62))), none⟩,
        ⟨(some 5), (.op (.mv (.tmp 63))), none⟩] [])
      (.exit 0)))))
    (.seq (.region [
      ⟨(some 64), (.op (.mv (.tmp 5))), none⟩,
      ⟨(some 65), (.op (.append 1 1 (.tmp 64) (.cst (.str [13, 10])))), none⟩,
      ⟨(some 2), (.op (.mv (.tmp 65))), none⟩,
      ⟨(some 3), (.op (.mv (.cst (.int .i64 0)))), none⟩] [])
    .ret)))))⟩
theorem c12 : cFn Tryd.prog [] Tryd.f12 = some h12 := by kernel_rfl
/-- stint/stintlaw08.same -/
def h14 : HFn :=
  ⟨26, [(.tmp 4)],
    (.seq (.region [
      ⟨(some 4), (.op (.mv (.cst (.bool false)))), none⟩] [])
    (.seq (.seq (.region [
      ⟨(some 6), (.op (.mv (.tmp 0))), none⟩,
      ⟨(some 7), (.op (.len .slice (.tmp 6))), none⟩,
      ⟨(some 8), (.op (.mv (.tmp 1))), none⟩,
      ⟨(some 9), (.op (.len .slice (.tmp 8))), none⟩,
      ⟨(some 10), (.op (.bin .neq (some .int) (.tmp 7) (.tmp 9))), none⟩] [])
    (.cond (.tmp 10)
      (.seq (.region [
        ⟨(some 4), (.op (.mv (.cst (.bool false)))), none⟩] [])
      .ret)
      .skip))
    (.seq (.seq (.region [
      ⟨(some 5), (.op (.mv (.cst (.int .i64 0)))), none⟩] [])
    (.block 0
      (.loop
        (.seq (.seq (.region [
          ⟨(some 11), (.op (.mv (.tmp 5))), none⟩,
          ⟨(some 12), (.op (.mv (.tmp 0))), none⟩,
          ⟨(some 13), (.op (.len .slice (.tmp 12))), none⟩,
          ⟨(some 14), (.op (.bin .lss none (.tmp 11) (.tmp 13))), none⟩] [])
        (.cond (.tmp 14)
          .skip
          (.exit 0)))
        (.seq (.block 1
          (.seq (.draw [
            ⟨(some 17), (.op (.mv (.tmp 0))), none⟩,
            ⟨(some 18), (.op (.mv (.tmp 5))), none⟩,
            ⟨(some 19), (.op (.idxS 1 (.tmp 17) (.tmp 18))), none⟩,
            ⟨(some 20), (.op (.load none (.tmp 19))), none⟩,
            ⟨(some 21), (.op (.mv (.tmp 1))), none⟩,
            ⟨(some 22), (.op (.mv (.tmp 5))), none⟩,
            ⟨(some 23), (.op (.idxS 1 (.tmp 21) (.tmp 22))), none⟩,
            ⟨(some 24), (.op (.load none (.tmp 23))), none⟩,
            ⟨(some 25), (.op (.bin .neq (some .int) (.tmp 20) (.tmp 24))), none⟩] [0, 1, 2, 3, 4, 5, 6, 7, 8] [[], [], [], [], [], [], [], [], []] [])
          (.cond (.tmp 25)
            (.seq (.region [
              ⟨(some 4), (.op (.mv (.cst (.bool false)))), none⟩] [])
            .ret)
            .skip)))
        (.region [
          ⟨(some 15), (.op (.mv (.tmp 5))), none⟩,
          ⟨(some 16), (.op (.bin .add none (.tmp 15) (.cst (.int .i64 1)))), none⟩,
          ⟨(some 5), (.op (.mv (.tmp 16))), none⟩] []))))))
    (.seq (.region [
      ⟨(some 4), (.op (.mv (.cst (.bool true)))), none⟩] [])
    .ret))))⟩
theorem c14 : cFn Tryd.prog [] Tryd.f14 = some h14 := by kernel_rfl
/-- stint/stintlaw08.sameReply -/
def h24 : HFn :=
  ⟨38, [(.tmp 4)],
    (.seq (.region [
      ⟨(some 2), (.op (.box (.tmp 0))), none⟩,
      ⟨(some 3), (.op (.box (.tmp 1))), none⟩,
      ⟨(some 4), (.op (.mv (.cst (.bool false)))), none⟩] [])
    (.seq (.region [
      ⟨(some 5), (.op (.faddr 0 (.tmp 2))), none⟩,
      ⟨(some 6), (.op (.load none (.tmp 5))), none⟩,
      ⟨(some 7), (.op (.faddr 0 (.tmp 3))), none⟩,
      ⟨(some 8), (.op (.load none (.tmp 7))), none⟩,
      ⟨(some 9), (.op (.bin .eql (some .int) (.tmp 6) (.tmp 8))), none⟩,
      ⟨(some 10), (.op (.mv (.tmp 9))), none⟩,
      ⟨(some 11), (.op (.faddr 1 (.tmp 2))), (some (10, true))⟩,
      ⟨(some 12), (.op (.load none (.tmp 11))), (some (10, true))⟩,
      ⟨(some 13), (.op (.faddr 1 (.tmp 3))), (some (10, true))⟩,
      ⟨(some 14), (.op (.load none (.tmp 13))), (some (10, true))⟩,
      ⟨(some 15), (.op (.bin .eql (some .int) (.tmp 12) (.tmp 14))), (some (10, true))⟩,
      ⟨(some 16), (.op (.pick (.tmp 10) (.tmp 15) (.cst (.bool false)))), none⟩,
      ⟨(some 17), (.op (.mv (.tmp 16))), none⟩,
      ⟨(some 18), (.op (.faddr 2 (.tmp 2))), (some (17, true))⟩,
      ⟨(some 19), (.op (.load none (.tmp 18))), (some (17, true))⟩,
      ⟨(some 20), (.op (.faddr 2 (.tmp 3))), (some (17, true))⟩,
      ⟨(some 21), (.op (.load none (.tmp 20))), (some (17, true))⟩,
      ⟨(some 22), (.op (.bin .eql (some .int) (.tmp 19) (.tmp 21))), (some (17, true))⟩,
      ⟨(some 23), (.op (.pick (.tmp 17) (.tmp 22) (.cst (.bool false)))), none⟩,
      ⟨(some 24), (.op (.mv (.tmp 23))), none⟩,
      ⟨(some 25), (.op (.faddr 3 (.tmp 2))), (some (24, true))⟩,
      ⟨(some 26), (.op (.load none (.tmp 25))), (some (24, true))⟩,
      ⟨(some 27), (.op (.faddr 3 (.tmp 3))), (some (24, true))⟩,
      ⟨(some 28), (.op (.load none (.tmp 27))), (some (24, true))⟩,
      ⟨(some 29), (.op (.bin .eql (some .str) (.tmp 26) (.tmp 28))), (some (24, true))⟩,
      ⟨(some 30), (.op (.pick (.tmp 24) (.tmp 29) (.cst (.bool false)))), none⟩,
      ⟨(some 31), (.op (.mv (.tmp 30))), none⟩,
      ⟨(some 32), (.op (.faddr 4 (.tmp 2))), (some (31, true))⟩,
      ⟨(some 33), (.op (.load none (.tmp 32))), (some (31, true))⟩,
      ⟨(some 34), (.op (.faddr 4 (.tmp 3))), (some (31, true))⟩,
      ⟨(some 35), (.op (.load none (.tmp 34))), (some (31, true))⟩,
      ⟨(some 36), (.call (.cst (.func (.func 14) [] [])) [(.tmp 33), (.tmp 35)]), (some (31, true))⟩,
      ⟨(some 37), (.op (.pick (.tmp 31) (.tmp 36) (.cst (.bool false)))), none⟩,
      ⟨(some 4), (.op (.mv (.tmp 37))), none⟩] [])
    .ret))⟩
theorem c24 : cFn Tryd.prog [] Tryd.f24 = some h24 := by kernel_rfl
/-- stint/answers.word -/
def h35 : HFn :=
  ⟨14, [(.tmp 2)],
    (.seq (.region [
      ⟨(some 2), (.op (.mv (.cst (.str [])))), none⟩] [])
    (.seq (.region [
      ⟨(some 4), (.op (.build [(.str []), (.str []), (.str []), (.str []), (.str []), (.str []), (.str []), (.str []), (.str []), (.str []), (.str []), (.str []), (.str []), (.str []), (.str []), (.str []), (.str []), (.str []), (.str []), (.str []), (.str []), (.str []), (.str []), (.str [])] [(1, 1, (.cst (.str [73, 78, 83, 69, 82, 84, 69, 68]))), (2, 1, (.cst (.str [85, 83, 73, 78, 71]))), (3, 1, (.cst (.str [82, 69, 83, 69, 82, 86, 69, 68]))), (4, 1, (.cst (.str [68, 69, 65, 68, 76, 73, 78, 69, 95, 83, 79, 79, 78]))), (5, 1, (.cst (.str [84, 73, 77, 69, 68, 95, 79, 85, 84]))), (6, 1, (.cst (.str [68, 69, 76, 69, 84, 69, 68]))), (7, 1, (.cst (.str [82, 69, 76, 69, 65, 83, 69, 68]))), (8, 1, (.cst (.str [66, 85, 82, 73, 69, 68]))), (9, 1, (.cst (.str [84, 79, 85, 67, 72, 69, 68]))), (10, 1, (.cst (.str [87, 65, 84, 67, 72, 73, 78, 71]))), (11, 1, (.cst (.str [78, 79, 84, 95, 73, 71, 78, 79, 82, 69, 68]))), (12, 1, (.cst (.str [70, 79, 85, 78, 68]))), (13, 1, (.cst (.str [75, 73, 67, 75, 69, 68]))), (14, 1, (.cst (.str [75, 73, 67, 75, 69, 68]))), (15, 1, (.cst (.str [80, 65, 85, 83, 69, 68]))), (16, 1, (.cst (.str [79, 75]))), (17, 1, (.cst (.str [78, 79, 84, 95, 70, 79, 85, 78, 68]))), (18, 1, (.cst (.str [79, 85, 84, 95, 79, 70, 95, 77, 69, 77, 79, 82, 89]))), (19, 1, (.cst (.str [66, 65, 68, 95, 70, 79, 82, 77, 65, 84]))), (20, 1, (.cst (.str [85, 78, 75, 78, 79, 87, 78, 95, 67, 79, 77, 77, 65, 78, 68]))), (21, 1, (.cst (.str [69, 88, 80, 69, 67, 84, 69, 68, 95, 67, 82, 76, 70]))), (22, 1, (.cst (.str [74, 79, 66, 95, 84, 79, 79, 95, 66, 73, 71]))), (23, 1, (.cst (.str [68, 82, 65, 73, 78, 73, 78, 71])))])), none⟩,
      ⟨(some 3), (.op (.box (.cst (.agg [(.str []), (.str []), (.str []), (.str []), (.str []), (.str []), (.str []), (.str []), (.str []), (.str []), (.str []), (.str []), (.str []), (.str []), (.str []), (.str []), (.str []), (.str []), (.str []), (.str []), (.str []), (.str []), (.str []), (.str [])])))), none⟩,
      ⟨none, (.op (.store 24 (.tmp 3) (.tmp 4))), none⟩] [])
    (.seq (.seq (.region [
      ⟨(some 5), (.op (.mv (.tmp 0))), none⟩,
      ⟨(some 6), (.op (.bin .lss none (.tmp 5) (.cst (.int .i64 1)))), none⟩,
      ⟨(some 7), (.op (.mv (.tmp 6))), none⟩,
      ⟨(some 8), (.op (.mv (.tmp 0))), (some (7, false))⟩,
      ⟨(some 9), (.op (.bin .geq none (.tmp 8) (.cst (.int .i64 24)))), (some (7, false))⟩,
      ⟨(some 10), (.op (.pick (.tmp 7) (.cst (.bool true)) (.tmp 9))), none⟩] [])
    (.cond (.tmp 10)
      (.seq (.region [
        ⟨(some 2), (.op (.mv (.cst (.str [])))), none⟩] [])
      .ret)
      .skip))
    (.seq (.region [
      ⟨(some 11), (.op (.mv (.tmp 0))), none⟩,
      ⟨(some 12), (.op (.idxA 24 1 (.tmp 3) (.tmp 11))), none⟩,
      ⟨(some 13), (.op (.load none (.tmp 12))), none⟩,
      ⟨(some 2), (.op (.mv (.tmp 13))), none⟩] [])
    .ret))))⟩
theorem c35 : cFn Tryd.prog [] Tryd.f35 = some h35 := by kernel_rfl
/-- stint/answers.most -/
def h36 : HFn :=
  ⟨5, [(.tmp 2)],
    (.seq (.region [
      ⟨(some 2), (.op (.mv (.cst (.int .i64 0)))), none⟩] [])
    (.seq (.seq (.region [
      ⟨(some 3), (.op (.mv (.tmp 0))), none⟩,
      ⟨(some 4), (.op (.bin .eql (some .int) (.tmp 3) (.cst (.int .i64 16)))), none⟩] [])
    (.cond (.tmp 4)
      (.seq (.region [
        ⟨(some 2), (.op (.mv (.cst (.int .i64 4294967295)))), none⟩] [])
      .ret)
      .skip))
    (.seq (.region [
      ⟨(some 2), (.op (.mv (.cst (.int .i64 65535)))), none⟩] [])
    .ret)))⟩
theorem c36 : cFn Tryd.prog [] Tryd.f36 = some h36 := by kernel_rfl
/-- stint/names.Valid -/
def h37 : HFn :=
  ⟨28, [(.tmp 2)],
    (.seq (.region [
      ⟨(some 2), (.op (.mv (.cst (.bool false)))), none⟩] [])
    (.seq (.seq (.region [
      ⟨(some 4), (.op (.mv (.tmp 0))), none⟩,
      ⟨(some 5), (.op (.len .str (.tmp 4))), none⟩,
      ⟨(some 6), (.op (.bin .lss none (.tmp 5) (.cst (.int .i64 1)))), none⟩,
      ⟨(some 7), (.op (.mv (.tmp 6))), none⟩,
      ⟨(some 8), (.op (.mv (.tmp 0))), (some (7, false))⟩,
      ⟨(some 9), (.op (.len .str (.tmp 8))), (some (7, false))⟩,
      ⟨(some 10), (.op (.bin .gtr none (.tmp 9) (.cst (.int .i64 200)))), (some (7, false))⟩,
      ⟨(some 11), (.op (.pick (.tmp 7) (.cst (.bool true)) (.tmp 10))), none⟩,
      ⟨(some 12), (.op (.mv (.tmp 11))), none⟩,
      ⟨(some 13), (.op (.mv (.tmp 0))), (some (12, false))⟩,
      ⟨(some 14), (.op (.idxStr (.tmp 13) (.cst (.int .i64 0)))), (some (12, false))⟩,
      ⟨(some 15), (.op (.bin .eql (some .int) (.tmp 14) (.cst (.int .u8 45)))), (some (12, false))⟩,
      ⟨(some 16), (.op (.pick (.tmp 12) (.cst (.bool true)) (.tmp 15))), none⟩] [])
    (.cond (.tmp 16)
      (.seq (.region [
        ⟨(some 2), (.op (.mv (.cst (.bool false)))), none⟩] [])
      .ret)
      .skip))
    (.seq (.seq (.region [
      ⟨(some 17), (.op (.mv (.tmp 0))), none⟩,
      ⟨(some 18), (.op (.len .str (.tmp 17))), none⟩,
      ⟨(some 19), (.op (.mv (.cst (.int .i64 0)))), none⟩] [])
    (.block 0
      (.loop
        (.seq (.region [
          ⟨(some 20), (.op (.bin .lss none (.tmp 19) (.tmp 18))), none⟩] [])
        (.seq (.cond (.tmp 20)
          .skip
          (.exit 0))
        (.seq (.block 1
          (.seq (.region [
            ⟨(some 21), (.op (.mv (.tmp 19))), none⟩,
            ⟨(some 3), (.op (.mv (.tmp 21))), none⟩] [])
          (.seq (.region [
            ⟨(some 22), (.op (.mv (.tmp 0))), none⟩,
            ⟨(some 23), (.op (.mv (.tmp 3))), none⟩,
            ⟨(some 24), (.op (.idxStr (.tmp 22) (.tmp 23))), none⟩,
            ⟨(some 25), (.call (.cst (.func (.func 52) [] [])) [(.tmp 24)]), none⟩,
            ⟨(some 26), (.op (.un .not (.tmp 25))), none⟩] [])
          (.cond (.tmp 26)
            (.seq (.region [
              ⟨(some 2), (.op (.mv (.cst (.bool false)))), none⟩] [])
            .ret)
            .skip))))
        (.region [
          ⟨(some 27), (.op (.bin .add none (.tmp 19) (.cst (.int .i64 1)))), none⟩,
          ⟨(some 19), (.op (.mv (.tmp 27))), none⟩] [])))))))
    (.seq (.region [
      ⟨(some 2), (.op (.mv (.cst (.bool true)))), none⟩] [])
    .ret))))⟩
theorem c37 : cFn Tryd.prog [] Tryd.f37 = some h37 := by kernel_rfl
/-- stint/digits.Print -/
def h38 : HFn :=
  ⟨7, [(.tmp 2)],
    (.seq (.region [
      ⟨(some 2), (.op (.mv (.cst (.str [])))), none⟩] [])
    (.seq (.seq (.region [
      ⟨(some 3), (.op (.mv (.tmp 0))), none⟩,
      ⟨(some 4), (.op (.bin .lss none (.tmp 3) (.cst (.int .i64 0)))), none⟩] [])
    (.cond (.tmp 4)
      (.seq (.region [
        ⟨(some 2), (.op (.mv (.cst (.str [])))), none⟩] [])
      .ret)
      .skip))
    (.seq (.region [
      ⟨(some 5), (.op (.mv (.tmp 0))), none⟩,
      ⟨(some 6), (.call (.cst (.func (.func 53) [] [])) [(.tmp 5)]), none⟩,
      ⟨(some 2), (.op (.mv (.tmp 6))), none⟩] [])
    .ret)))⟩
theorem c38 : cFn Tryd.prog [] Tryd.f38 = some h38 := by kernel_rfl
/-- stint/names.may -/
def h52 : HFn :=
  ⟨25, [(.tmp 2)],
    (.seq (.region [
      ⟨(some 2), (.op (.mv (.cst (.bool false)))), none⟩] [])
    (.seq (.block 0
      (.seq (.seq (.region [
        ⟨(some 4), (.op (.mv (.tmp 0))), none⟩,
        ⟨(some 5), (.op (.bin .geq none (.tmp 4) (.cst (.int .u8 97)))), none⟩,
        ⟨(some 6), (.op (.mv (.tmp 5))), none⟩,
        ⟨(some 7), (.op (.mv (.tmp 0))), (some (6, true))⟩,
        ⟨(some 8), (.op (.bin .leq none (.tmp 7) (.cst (.int .u8 122)))), (some (6, true))⟩,
        ⟨(some 9), (.op (.pick (.tmp 6) (.tmp 8) (.cst (.bool false)))), none⟩,
        ⟨(some 3), (.op (.mv (.tmp 9))), none⟩] [])
      (.cond (.tmp 3)
        .skip
        (.seq (.region [
          ⟨(some 10), (.op (.mv (.tmp 0))), none⟩,
          ⟨(some 11), (.op (.bin .geq none (.tmp 10) (.cst (.int .u8 65)))), none⟩,
          ⟨(some 12), (.op (.mv (.tmp 11))), none⟩,
          ⟨(some 13), (.op (.mv (.tmp 0))), (some (12, true))⟩,
          ⟨(some 14), (.op (.bin .leq none (.tmp 13) (.cst (.int .u8 90)))), (some (12, true))⟩,
          ⟨(some 15), (.op (.pick (.tmp 12) (.tmp 14) (.cst (.bool false)))), none⟩,
          ⟨(some 3), (.op (.mv (.tmp 15))), none⟩] [])
        (.cond (.tmp 3)
          .skip
          (.region [
            ⟨(some 16), (.op (.mv (.tmp 0))), none⟩,
            ⟨(some 17), (.op (.bin .geq none (.tmp 16) (.cst (.int .u8 48)))), none⟩,
            ⟨(some 18), (.op (.mv (.tmp 17))), none⟩,
            ⟨(some 19), (.op (.mv (.tmp 0))), (some (18, true))⟩,
            ⟨(some 20), (.op (.bin .leq none (.tmp 19) (.cst (.int .u8 57)))), (some (18, true))⟩,
            ⟨(some 21), (.op (.pick (.tmp 18) (.tmp 20) (.cst (.bool false)))), none⟩,
            ⟨(some 3), (.op (.mv (.tmp 21))), none⟩] [])))))
      (.cond (.tmp 3)
        (.seq (.region [
          ⟨(some 2), (.op (.mv (.cst (.bool true)))), none⟩] [])
        .ret)
        .skip)))
    (.seq (.region [
      ⟨(some 22), (.op (.mv (.tmp 0))), none⟩,
      ⟨(some 23), (.call (.cst (.func (.func 59) [] [])) [(.cst (.str [45, 43, 47, 59, 46, 36, 95, 40, 41])), (.tmp 22)]), none⟩,
      ⟨(some 24), (.op (.bin .geq none (.tmp 23) (.cst (.int .i64 0)))), none⟩,
      ⟨(some 2), (.op (.mv (.tmp 24))), none⟩] [])
    .ret)))⟩
theorem c52 : cFn Tryd.prog [] Tryd.f52 = some h52 := by kernel_rfl
/-- strings.IndexByte -/
def h59 : HFn :=
  ⟨8, [(.tmp 4)],
    (.seq (.region [
      ⟨(some 4), (.op (.mv (.cst (.int .i64 0)))), none⟩] [])
    (.seq (.region [
      ⟨(some 5), (.op (.mv (.tmp 0))), none⟩,
      ⟨(some 6), (.op (.mv (.tmp 1))), none⟩,
      ⟨(some 7), (.call (.cst (.func (.func 68) [] [])) [(.tmp 5), (.tmp 6)]), none⟩,
      ⟨(some 4), (.op (.mv (.tmp 7))), none⟩] [])
    .ret))⟩
theorem c59 : cFn Tryd.prog [] Tryd.f59 = some h59 := by kernel_rfl
/-- internal/stringslite.IndexByte -/
def h68 : HFn :=
  ⟨8, [(.tmp 4)],
    (.seq (.region [
      ⟨(some 4), (.op (.mv (.cst (.int .i64 0)))), none⟩] [])
    (.seq (.region [
      ⟨(some 5), (.op (.mv (.tmp 0))), none⟩,
      ⟨(some 6), (.op (.mv (.tmp 1))), none⟩,
      ⟨(some 7), (.call (.cst (.func (.func 73) [] [])) [(.tmp 5), (.tmp 6)]), none⟩,
      ⟨(some 4), (.op (.mv (.tmp 7))), none⟩] [])
    .ret))⟩
theorem c68 : cFn Tryd.prog [] Tryd.f68 = some h68 := by kernel_rfl
def F : FuncId → Option HFn
  | 35 => some h35
  | 37 => some h37
  | 52 => some h52
  | 59 => some h59
  | 68 => some h68
  | _ => none
theorem F_ok : FOk Tryd.prog F := by
  intro f hf h
  unfold F at h
  split at h
  · simp at h; subst h; exact ⟨_, [], Tryd.func35, c35⟩
  · simp at h; subst h; exact ⟨_, [], Tryd.func37, c37⟩
  · simp at h; subst h; exact ⟨_, [], Tryd.func52, c52⟩
  · simp at h; subst h; exact ⟨_, [], Tryd.func59, c59⟩
  · simp at h; subst h; exact ⟨_, [], Tryd.func68, c68⟩
  · simp at h
end Go.Proofs.YthihchoccpnfeaaDoor
namespace Go.Proofs.YthihchoccpnfeaaDoor
open Go Go.HL
namespace V

def X : FuncId → Option (List HV → HS → Option (HV × HS))
  | 73 => some xIndexByte
  | _ => none

theorem X_ok : XOk Tryd.prog X := by
  intro f g h
  unfold X at h
  split at h
  · simp at h; subst h; exact fun args hs v hs' h => xIndexByte_sound Tryd.func73 (by kernel_rfl) (by kernel_rfl) (by kernel_rfl) (by kernel_rfl) h
  · simp at h

theorem mixed : Tryd.prog.follows .mixedOrders = true := by kernel_rfl

/-- may a byte stand in a name? -/
def mayB (n : Nat) : Bool := (97 ≤ n && n ≤ 122) || (65 ≤ n && n ≤ 90) || (48 ≤ n && n ≤ 57) || [45, 43, 47, 59, 46, 36, 95, 40, 41].contains n

theorem may_runs : ((List.range 256).all fun n => match hcall F X 60 52 [.int .u8 n] [] with | some (v, _) => HV.eqb v (.bool (mayB n)) | none => false) = true := by kernel_rfl

theorem ok52 : okF Tryd.prog 52 := ⟨_, Tryd.func52, by kernel_rfl, by kernel_rfl⟩

theorem may (c : UInt8) (hs : HS) : HC Tryd.prog 52 [.int .u8 c.toNat] hs fun v hs' => v = .bool (mayB c.toNat) ∧ hs' = hs := by
  refine HC.frame (R := fun v => v = .bool (mayB c.toNat)) (by rfl) (fun v h => by subst h; rfl) ?_
  have h := List.all_eq_true.1 may_runs c.toNat (by simpa using c.toNat_lt)
  refine hcall_bool mixed F_ok X_ok (n := 60) rfl ?_
  split at h
  · rename_i v hs' hr
    rw [hr]
    simpa using h
  · simp at h

/-- what a valid name is. -/
def validL (s : List UInt8) : Bool := decide (1 ≤ s.length) && decide (s.length ≤ 200) && !(s[0]? == some 45) && s.all fun c => mayB c.toNat

/-- the frame of names.Valid at the loop's head. -/
def base9 (s : List UInt8) (i : Nat) : List HV :=
  [.str s, .undef, .bool false, .undef, .undef, .undef, .undef, .undef, .undef, .undef, .undef, .undef, .undef, .undef, .undef, .undef, .undef, .undef, .int .i64 s.length, .int .i64 i, .undef, .undef, .undef, .undef, .undef, .undef, .undef, .undef]

set_option maxRecDepth 100000
set_option maxHeartbeats 4000000

theorem valid_short : ((hcall F X 60 37 [.str []] []).map fun x => HV.eqb x.1 (.bool false)) = some true := by kernel_rfl

end V
end Go.Proofs.YthihchoccpnfeaaDoor
namespace Go.Proofs.YthihchoccpnfeaaDoor
open Go Go.HL
namespace V
set_option maxRecDepth 100000
set_option linter.unusedSimpArgs false
set_option maxHeartbeats 4000000

theorem pickF {fr : List HV} {hs : HS} {c x y : HX} {v : HV} (h : c.ev fr = .bool false) (hy : y.ev fr = v) : hop (.pick c x y) fr hs = some (v, hs) := by
  simp only [hop, h, hy]; rfl
theorem pickT {fr : List HV} {hs : HS} {c x y : HX} {v : HV} (h : c.ev fr = .bool true) (hx : x.ev fr = v) : hop (.pick c x y) fr hs = some (v, hs) := by
  simp only [hop, h, hx]; rfl

theorem hidx {s : List UInt8} {i : Nat} {c : UInt8} (h : s[i]? = some c) : hindexStr (.str s) (.int .i64 i) = some (.int .u8 c.toNat) := by
  simp [hindexStr, h]

theorem hadd1 {i : Nat} (h : i < 1000000) : hbin .add none (.int .i64 i) (.int .i64 1) = some (.int .i64 ((i + 1 : Nat) : Int)) := by
  have h0 : hbin .add none (.int .i64 i) (.int .i64 1) = some (.int .i64 (wr .i64 ((i : Int) + 1))) := rfl
  have h1 : wr .i64 ((i : Int) + 1) = ((i + 1 : Nat) : Int) := by
    show ((i : Int) + 1 + 9223372036854775808) % 18446744073709551616 - 9223372036854775808 = _
    omega
  rw [h0, h1]

theorem validL_true {c : UInt8} {r : List UInt8} (h1 : 1 ≤ (c :: r).length) (h2 : (c :: r).length ≤ 200) (h3 : decide ((c.toNat : Int) = 45) = false) (h4 : ∀ (k : Nat) (d : UInt8), (c :: r)[k]? = some d → mayB d.toNat = true) : validL (c :: r) = true := by
  have hne : ((c :: r)[0]? == some 45) = false := by
    have : c ≠ 45 := by
      rintro rfl
      revert h3
      decide
    simpa using this
  have hall : ((c :: r).all fun c => mayB c.toNat) = true := List.all_eq_true.2 fun x hx => by
    obtain ⟨k, hk⟩ := List.getElem?_of_mem hx
    exact h4 k x hk
  unfold validL
  rw [decide_eq_true h1, decide_eq_true h2, hne, hall]
  rfl

theorem validL_false {s : List UInt8} {i : Nat} {c : UInt8} (hc : s[i]? = some c) (hm : mayB c.toNat = false) : validL s = false := by
  have : (s.all fun c => mayB c.toNat) = false := List.all_eq_false.2 ⟨c, List.mem_of_getElem? hc, by simp [hm]⟩
  unfold validL
  rw [this, Bool.and_false]

def I9 (s : List UInt8) (n : Nat) (fr : List HV) (hs : HS) : Prop :=
  ∃ i, i ≤ s.length ∧ n = s.length - i ∧ hs = [] ∧ (∀ k c, k < i → s[k]? = some c → mayB c.toNat = true) ∧ Less (base9 s i) fr

theorem valid9 (s : List UInt8) : HC Tryd.prog 37 [.str s] [] fun v _ => v = .bool (validL s) := by
  cases s with
  | nil => exact hcall_bool mixed F_ok X_ok rfl valid_short
  | cons c r =>
  have h1 : decide (((c :: r).length : Int) < 1) = false := decide_eq_false (by simp; omega)
  refine HC.body Tryd.func37 c37 ?_
  refine HW.seq (HW.region (HL.op rfl (HL.nil ?_)))
  try simp only [killFr, List.foldl, put, frame0, h37, List.length, List.replicate, Nat.sub, List.append, List.set, HX.ev, List.getElem?_cons_succ, List.getElem?_cons_zero, Option.getD_some, HAppend.hAppend, Append.append]
  refine HW.seq ?_
  refine HW.seq (HW.region ?_)
  refine HL.op rfl ?_
  try simp only [killFr, List.foldl, put, frame0, h37, List.length, List.replicate, Nat.sub, List.append, List.set, HX.ev, List.getElem?_cons_succ, List.getElem?_cons_zero, Option.getD_some, HAppend.hAppend, Append.append]
  refine HL.op rfl ?_
  try simp only [killFr, List.foldl, put, frame0, h37, List.length, List.replicate, Nat.sub, List.append, List.set, HX.ev, List.getElem?_cons_succ, List.getElem?_cons_zero, Option.getD_some, HAppend.hAppend, Append.append]
  refine HL.op (v := .bool false) (congrArg (fun b => some (HV.bool b, _)) h1) ?_
  try simp only [killFr, List.foldl, put, frame0, h37, List.length, List.replicate, Nat.sub, List.append, List.set, HX.ev, List.getElem?_cons_succ, List.getElem?_cons_zero, Option.getD_some, HAppend.hAppend, Append.append]
  refine HL.op rfl ?_
  try simp only [killFr, List.foldl, put, frame0, h37, List.length, List.replicate, Nat.sub, List.append, List.set, HX.ev, List.getElem?_cons_succ, List.getElem?_cons_zero, Option.getD_some, HAppend.hAppend, Append.append]
  refine HL.opIf rfl rfl ?_
  try simp only [killFr, List.foldl, put, frame0, h37, List.length, List.replicate, Nat.sub, List.append, List.set, HX.ev, List.getElem?_cons_succ, List.getElem?_cons_zero, Option.getD_some, HAppend.hAppend, Append.append]
  refine HL.opIf rfl rfl ?_
  try simp only [killFr, List.foldl, put, frame0, h37, List.length, List.replicate, Nat.sub, List.append, List.set, HX.ev, List.getElem?_cons_succ, List.getElem?_cons_zero, Option.getD_some, HAppend.hAppend, Append.append]
  refine HL.opIf (v := .bool (decide (((c :: r).length : Int) > 200))) rfl rfl ?_
  try simp only [killFr, List.foldl, put, frame0, h37, List.length, List.replicate, Nat.sub, List.append, List.set, HX.ev, List.getElem?_cons_succ, List.getElem?_cons_zero, Option.getD_some, HAppend.hAppend, Append.append]
  refine HL.op (pickF rfl rfl) ?_
  try simp only [killFr, List.foldl, put, frame0, h37, List.length, List.replicate, Nat.sub, List.append, List.set, HX.ev, List.getElem?_cons_succ, List.getElem?_cons_zero, Option.getD_some, HAppend.hAppend, Append.append]
  refine HL.op rfl ?_
  try simp only [killFr, List.foldl, put, frame0, h37, List.length, List.replicate, Nat.sub, List.append, List.set, HX.ev, List.getElem?_cons_succ, List.getElem?_cons_zero, Option.getD_some, HAppend.hAppend, Append.append]
  cases h2 : decide (((c :: r).length : Int) > 200) with
  | true =>
    refine HL.opNot rfl ?_
    try simp only [killFr, List.foldl, put, frame0, h37, List.length, List.replicate, Nat.sub, List.append, List.set, HX.ev, List.getElem?_cons_succ, List.getElem?_cons_zero, Option.getD_some, HAppend.hAppend, Append.append]
    refine HL.opNot rfl ?_
    try simp only [killFr, List.foldl, put, frame0, h37, List.length, List.replicate, Nat.sub, List.append, List.set, HX.ev, List.getElem?_cons_succ, List.getElem?_cons_zero, Option.getD_some, HAppend.hAppend, Append.append]
    refine HL.opNot rfl ?_
    try simp only [killFr, List.foldl, put, frame0, h37, List.length, List.replicate, Nat.sub, List.append, List.set, HX.ev, List.getElem?_cons_succ, List.getElem?_cons_zero, Option.getD_some, HAppend.hAppend, Append.append]
    refine HL.op (pickT rfl rfl) (HL.nil ?_)
    try simp only [killFr, List.foldl, put, frame0, h37, List.length, List.replicate, Nat.sub, List.append, List.set, HX.ev, List.getElem?_cons_succ, List.getElem?_cons_zero, Option.getD_some, HAppend.hAppend, Append.append]
    refine HW.cond (t := true) rfl (HW.seq (HW.region (HL.op rfl (HL.nil (HW.ret ?_)))))
    try simp only [killFr, List.foldl, put, frame0, h37, List.length, List.replicate, Nat.sub, List.append, List.set, HX.ev, List.getElem?_cons_succ, List.getElem?_cons_zero, Option.getD_some, HAppend.hAppend, Append.append]
    refine ⟨rfl, _, rfl, ?_⟩
    have hl : (c :: r).length > 200 := by have := of_decide_eq_true h2; omega
    have : validL (c :: r) = false := by
      unfold validL
      rw [decide_eq_false (p := (c :: r).length ≤ 200) (by omega)]
      simp
    rw [this]; rfl
  | false =>
    have hl : (c :: r).length ≤ 200 := by have := of_decide_eq_false h2; omega
    refine HL.opIf rfl rfl ?_
    try simp only [killFr, List.foldl, put, frame0, h37, List.length, List.replicate, Nat.sub, List.append, List.set, HX.ev, List.getElem?_cons_succ, List.getElem?_cons_zero, Option.getD_some, HAppend.hAppend, Append.append]
    refine HL.opIf (v := .int .u8 c.toNat) rfl rfl ?_
    try simp only [killFr, List.foldl, put, frame0, h37, List.length, List.replicate, Nat.sub, List.append, List.set, HX.ev, List.getElem?_cons_succ, List.getElem?_cons_zero, Option.getD_some, HAppend.hAppend, Append.append]
    refine HL.opIf (v := .bool (decide ((c.toNat : Int) = 45))) rfl rfl ?_
    try simp only [killFr, List.foldl, put, frame0, h37, List.length, List.replicate, Nat.sub, List.append, List.set, HX.ev, List.getElem?_cons_succ, List.getElem?_cons_zero, Option.getD_some, HAppend.hAppend, Append.append]
    refine HL.op (pickF rfl rfl) (HL.nil ?_)
    try simp only [killFr, List.foldl, put, frame0, h37, List.length, List.replicate, Nat.sub, List.append, List.set, HX.ev, List.getElem?_cons_succ, List.getElem?_cons_zero, Option.getD_some, HAppend.hAppend, Append.append]
    cases h3 : decide ((c.toNat : Int) = 45) with
    | true =>
      refine HW.cond (t := true) rfl (HW.seq (HW.region (HL.op rfl (HL.nil (HW.ret ?_)))))
      try simp only [killFr, List.foldl, put, frame0, h37, List.length, List.replicate, Nat.sub, List.append, List.set, HX.ev, List.getElem?_cons_succ, List.getElem?_cons_zero, Option.getD_some, HAppend.hAppend, Append.append]
      refine ⟨rfl, _, rfl, ?_⟩
      have hc : c = 45 := by
        have := of_decide_eq_true h3
        apply UInt8.toNat_inj.1
        show c.toNat = 45
        omega
      subst hc
      have : validL (45 :: r) = false := by simp [validL]
      rw [this]; rfl
    | false =>
      refine HW.cond (t := false) rfl (HW.skip ?_)
      show HW Tryd.prog _ _ _ _
      refine HW.seq (HW.seq (HW.region ?_))
      refine HL.op rfl ?_
      try simp only [killFr, List.foldl, put, frame0, h37, List.length, List.replicate, Nat.sub, List.append, List.set, HX.ev, List.getElem?_cons_succ, List.getElem?_cons_zero, Option.getD_some, HAppend.hAppend, Append.append]
      refine HL.op rfl ?_
      try simp only [killFr, List.foldl, put, frame0, h37, List.length, List.replicate, Nat.sub, List.append, List.set, HX.ev, List.getElem?_cons_succ, List.getElem?_cons_zero, Option.getD_some, HAppend.hAppend, Append.append]
      refine HL.op rfl (HL.nil ?_)
      try simp only [killFr, List.foldl, put, frame0, h37, List.length, List.replicate, Nat.sub, List.append, List.set, HX.ev, List.getElem?_cons_succ, List.getElem?_cons_zero, Option.getD_some, HAppend.hAppend, Append.append]
      show HW Tryd.prog _ _ _ _
      refine HW.block (HW.loop (I9 (c :: r)) (c :: r).length ⟨0, by simp, by simp, rfl, fun k c h => absurd h (by omega), ?_⟩ ?_)
      · unfold base9
        repeat first | exact Less.nil | refine Less.undef _ ?_ | refine Less.keep _ ?_
      rintro n fr hs ⟨i, hi, hn, rfl, hpre, hL⟩
      refine HW.less hL ?_
      unfold base9
      refine HW.seq (HW.region (HL.op (v := .bool (decide ((i : Int) < ((c :: r).length : Nat)))) rfl (HL.nil ?_)))
      try simp only [killFr, List.foldl, put, frame0, h37, List.length, List.replicate, Nat.sub, List.append, List.set, HX.ev, List.getElem?_cons_succ, List.getElem?_cons_zero, Option.getD_some, HAppend.hAppend, Append.append]
      cases h4 : decide ((i : Int) < ((c :: r).length : Nat)) with
      | false =>
        have hil : i = (c :: r).length := by have := of_decide_eq_false h4; omega
        refine HW.seq (HW.cond (t := false) rfl (HW.exit ?_))
        simp only [HThen, HBlock, if_true]
        refine HW.seq (HW.region (HL.op rfl (HL.nil (HW.ret ?_))))
        try simp only [killFr, List.foldl, put, frame0, h37, List.length, List.replicate, Nat.sub, List.append, List.set, HX.ev, List.getElem?_cons_succ, List.getElem?_cons_zero, Option.getD_some, HAppend.hAppend, Append.append]
        refine ⟨rfl, _, rfl, ?_⟩
        have : validL (c :: r) = true := validL_true (by simp) hl h3 fun k d hk => hpre k d (by have := lt_of_get hk; omega) hk
        rw [this]; rfl
      | true =>
        have hil : i < (c :: r).length := by have := of_decide_eq_true h4; omega
        obtain ⟨c', hc'⟩ : ∃ c', (c :: r)[i]? = some c' := ⟨_, List.getElem?_eq_getElem hil⟩
        refine HW.seq (HW.cond (t := true) rfl (HW.skip ?_))
        show HW Tryd.prog _ _ _ _
        refine HW.seq (HW.block (HW.seq (HW.region ?_)))
        refine HL.op rfl ?_
        try simp only [killFr, List.foldl, put, frame0, h37, List.length, List.replicate, Nat.sub, List.append, List.set, HX.ev, List.getElem?_cons_succ, List.getElem?_cons_zero, Option.getD_some, HAppend.hAppend, Append.append]
        refine HL.op rfl (HL.nil ?_)
        try simp only [killFr, List.foldl, put, frame0, h37, List.length, List.replicate, Nat.sub, List.append, List.set, HX.ev, List.getElem?_cons_succ, List.getElem?_cons_zero, Option.getD_some, HAppend.hAppend, Append.append]
        show HW Tryd.prog _ _ _ _
        refine HW.seq (HW.region ?_)
        refine HL.op rfl ?_
        try simp only [killFr, List.foldl, put, frame0, h37, List.length, List.replicate, Nat.sub, List.append, List.set, HX.ev, List.getElem?_cons_succ, List.getElem?_cons_zero, Option.getD_some, HAppend.hAppend, Append.append]
        refine HL.op rfl ?_
        try simp only [killFr, List.foldl, put, frame0, h37, List.length, List.replicate, Nat.sub, List.append, List.set, HX.ev, List.getElem?_cons_succ, List.getElem?_cons_zero, Option.getD_some, HAppend.hAppend, Append.append]
        refine HL.op (v := .int .u8 c'.toNat) (congrArg (same []) (hidx hc')) ?_
        try simp only [killFr, List.foldl, put, frame0, h37, List.length, List.replicate, Nat.sub, List.append, List.set, HX.ev, List.getElem?_cons_succ, List.getElem?_cons_zero, Option.getD_some, HAppend.hAppend, Append.append]
        refine HL.call (g := 52) (xs := [.int .u8 c'.toNat]) rfl (HC.call ok52 (may c' []) ?_)
        rintro v hs' ⟨rfl, rfl⟩
        try simp only [killFr, List.foldl, put, frame0, h37, List.length, List.replicate, Nat.sub, List.append, List.set, HX.ev, List.getElem?_cons_succ, List.getElem?_cons_zero, Option.getD_some, HAppend.hAppend, Append.append]
        refine HL.op (v := .bool (!mayB c'.toNat)) rfl (HL.nil ?_)
        try simp only [killFr, List.foldl, put, frame0, h37, List.length, List.replicate, Nat.sub, List.append, List.set, HX.ev, List.getElem?_cons_succ, List.getElem?_cons_zero, Option.getD_some, HAppend.hAppend, Append.append]
        show HW Tryd.prog _ _ _ _
        cases hm : mayB c'.toNat with
        | false =>
          refine HW.cond (t := true) rfl (HW.seq (HW.region (HL.op rfl (HL.nil (HW.ret ?_)))))
          try simp only [killFr, List.foldl, put, frame0, h37, List.length, List.replicate, Nat.sub, List.append, List.set, HX.ev, List.getElem?_cons_succ, List.getElem?_cons_zero, Option.getD_some, HAppend.hAppend, Append.append]
          refine ⟨rfl, _, rfl, ?_⟩
          have : validL (c :: r) = false := validL_false hc' hm
          rw [this]; rfl
        | true =>
          refine HW.cond (t := false) rfl (HW.skip ?_)
          show HW Tryd.prog _ _ _ _
          refine HW.region ?_
          refine HL.op (v := .int .i64 ((i + 1 : Nat) : Int)) (congrArg (same []) (hadd1 (by omega))) ?_
          try simp only [killFr, List.foldl, put, frame0, h37, List.length, List.replicate, Nat.sub, List.append, List.set, HX.ev, List.getElem?_cons_succ, List.getElem?_cons_zero, Option.getD_some, HAppend.hAppend, Append.append]
          refine HL.op rfl (HL.nil ?_)
          try simp only [killFr, List.foldl, put, frame0, h37, List.length, List.replicate, Nat.sub, List.append, List.set, HX.ev, List.getElem?_cons_succ, List.getElem?_cons_zero, Option.getD_some, HAppend.hAppend, Append.append]
          refine ⟨(c :: r).length - (i + 1), by omega, i + 1, by omega, rfl, rfl, ?_, ?_⟩
          · intro k d hk hd
            rcases Nat.lt_or_ge k i with h | h
            · exact hpre k d h hd
            · have : k = i := by omega
              subst this
              rw [hc'] at hd; cases hd; exact hm
          · unfold base9
            repeat first | exact Less.nil | refine Less.undef _ ?_ | refine Less.keep _ ?_
end V
end Go.Proofs.YthihchoccpnfeaaDoor
namespace Go.Proofs
open Go.Shelf
def Tryd.laysM171_ren : Go.Shelf.Ren := ⟨fun | 171 => 53 | 243 => 60 | 246 => 69 | 283 => 74 | 284 => 75 | 285 => 76 | 286 => 77 | 129 => 80 | 317 => 79 | 318 => 81 | 319 => 82 | 320 => 83 | 337 => 84 | 338 => 85 | n => n, fun | 3 => 3 | 9 => 9 | 2 => 2 | 4 => 4 | 171 => 105 | 0 => 0 | 53 => 106 | 37 => 22 | 5 => 5 | 173 => 109 | 212 => 113 | 51 => 114 | 20 => 20 | 213 => 115 | 46 => 117 | 232 => 120 | 233 => 121 | n => n, fun | 17 => 1 | 18 => 2 | 19 => 3 | n => n⟩
theorem Tryd.laysM171 : Go.Proofs.LaysM.n171 Tryd.prog Tryd.laysM171_ren :=
  { mixed := by kernel_rfl
    f129 := Tryd.func80.trans (congrArg some (by kernel_rfl))
    f171 := Tryd.func53.trans (congrArg some (by kernel_rfl))
    f243 := Tryd.func60.trans (congrArg some (by kernel_rfl))
    f246 := Tryd.func69.trans (congrArg some (by kernel_rfl))
    f283 := Tryd.func74.trans (congrArg some (by kernel_rfl))
    f284 := Tryd.func75.trans (congrArg some (by kernel_rfl))
    f285 := Tryd.func76.trans (congrArg some (by kernel_rfl))
    f286 := Tryd.func77.trans (congrArg some (by kernel_rfl))
    f317 := Tryd.func79.trans (congrArg some (by kernel_rfl))
    f318 := Tryd.func81.trans (congrArg some (by kernel_rfl))
    f319 := Tryd.func82.trans (congrArg some (by kernel_rfl))
    f320 := Tryd.func83.trans (congrArg some (by kernel_rfl))
    f337 := Tryd.func84.trans (congrArg some (by kernel_rfl))
    f338 := Tryd.func85.trans (congrArg some (by kernel_rfl))
    t0 := Tryd.underlying0
    a0 := Tryd.isAgg0
    z0 := Tryd.sizeOf0
    v0 := Tryd.zeroValue0
    t2 := Tryd.underlying2
    a2 := Tryd.isAgg2
    z2 := Tryd.sizeOf2
    v2 := Tryd.zeroValue2
    t3 := Tryd.underlying3
    a3 := Tryd.isAgg3
    z3 := Tryd.sizeOf3
    v3 := Tryd.zeroValue3
    t4 := Tryd.underlying4
    a4 := Tryd.isAgg4
    z4 := Tryd.sizeOf4
    v4 := Tryd.zeroValue4
    t5 := Tryd.underlying5
    a5 := Tryd.isAgg5
    z5 := Tryd.sizeOf5
    v5 := Tryd.zeroValue5
    t9 := Tryd.underlying9
    a9 := Tryd.isAgg9
    z9 := Tryd.sizeOf9
    v9 := Tryd.zeroValue9
    t20 := Tryd.underlying20
    a20 := Tryd.isAgg20
    z20 := Tryd.sizeOf20
    v20 := Tryd.zeroValue20
    t37 := Tryd.underlying22
    a37 := Tryd.isAgg22
    z37 := Tryd.sizeOf22
    v37 := Tryd.zeroValue22
    t46 := Tryd.underlying117
    a46 := Tryd.isAgg117
    z46 := Tryd.sizeOf117
    v46 := Tryd.zeroValue117
    t51 := Tryd.underlying114
    a51 := Tryd.isAgg114
    z51 := Tryd.sizeOf114
    v51 := Tryd.zeroValue114
    t53 := Tryd.underlying106
    a53 := Tryd.isAgg106
    z53 := Tryd.sizeOf106
    v53 := Tryd.zeroValue106
    t171 := Tryd.underlying105
    a171 := Tryd.isAgg105
    z171 := Tryd.sizeOf105
    v171 := Tryd.zeroValue105
    t173 := Tryd.underlying109
    a173 := Tryd.isAgg109
    z173 := Tryd.sizeOf109
    v173 := Tryd.zeroValue109
    t212 := Tryd.underlying113
    a212 := Tryd.isAgg113
    z212 := Tryd.sizeOf113
    v212 := Tryd.zeroValue113
    t213 := Tryd.underlying115
    a213 := Tryd.isAgg115
    z213 := Tryd.sizeOf115
    t232 := Tryd.underlying120
    a232 := Tryd.isAgg120
    z232 := Tryd.sizeOf120
    v232 := Tryd.zeroValue120
    t233 := Tryd.underlying121
    a233 := Tryd.isAgg121
    z233 := Tryd.sizeOf121
    v233 := Tryd.zeroValue121
    g17 := by kernel_rfl
    g18 := by kernel_rfl
    g19 := by kernel_rfl
    i0 := by kernel_rfl
    i2 := by kernel_rfl
    i3 := by kernel_rfl
    i4 := by kernel_rfl
    i5 := by kernel_rfl
    i9 := by kernel_rfl
    i20 := by kernel_rfl
    i37 := by kernel_rfl
    i46 := by kernel_rfl
    i51 := by kernel_rfl
    i53 := by kernel_rfl
    i171 := by kernel_rfl
    i173 := by kernel_rfl
    i212 := by kernel_rfl
    i232 := by kernel_rfl
    i233 := by kernel_rfl
    m17 := by kernel_rfl
    m18 := by kernel_rfl
    m19 := by kernel_rfl }
end Go.Proofs
namespace Go.Proofs.YthihchoccpnfeaaDoor
open Go Go.HL Go.Shelf V
namespace A
set_option maxRecDepth 100000
set_option maxHeartbeats 4000000
set_option linter.unusedSimpArgs false

/-- the words of the kinds; none of kind 0. -/
def words : List (List UInt8) := [[], [73, 78, 83, 69, 82, 84, 69, 68], [85, 83, 73, 78, 71], [82, 69, 83, 69, 82, 86, 69, 68], [68, 69, 65, 68, 76, 73, 78, 69, 95, 83, 79, 79, 78], [84, 73, 77, 69, 68, 95, 79, 85, 84], [68, 69, 76, 69, 84, 69, 68], [82, 69, 76, 69, 65, 83, 69, 68], [66, 85, 82, 73, 69, 68], [84, 79, 85, 67, 72, 69, 68], [87, 65, 84, 67, 72, 73, 78, 71], [78, 79, 84, 95, 73, 71, 78, 79, 82, 69, 68], [70, 79, 85, 78, 68], [75, 73, 67, 75, 69, 68], [75, 73, 67, 75, 69, 68], [80, 65, 85, 83, 69, 68], [79, 75], [78, 79, 84, 95, 70, 79, 85, 78, 68], [79, 85, 84, 95, 79, 70, 95, 77, 69, 77, 79, 82, 89], [66, 65, 68, 95, 70, 79, 82, 77, 65, 84], [85, 78, 75, 78, 79, 87, 78, 95, 67, 79, 77, 77, 65, 78, 68], [69, 88, 80, 69, 67, 84, 69, 68, 95, 67, 82, 76, 70], [74, 79, 66, 95, 84, 79, 79, 95, 66, 73, 71], [68, 82, 65, 73, 78, 73, 78, 71]]
def wordL (k : Int) : List UInt8 := if k < 1 ∨ 24 ≤ k then [] else (words[k.toNat]?).getD []
theorem ok35 : okF Tryd.prog 35 := ⟨_, Tryd.func35, by kernel_rfl, by kernel_rfl⟩
theorem ok36 : okF Tryd.prog 36 := ⟨_, Tryd.func36, by kernel_rfl, by kernel_rfl⟩
theorem ok37 : okF Tryd.prog 37 := ⟨_, Tryd.func37, by kernel_rfl, by kernel_rfl⟩
theorem ok38 : okF Tryd.prog 38 := ⟨_, Tryd.func38, by kernel_rfl, by kernel_rfl⟩
theorem ok53 : okF Tryd.prog 53 := ⟨_, Tryd.func53, by kernel_rfl, by kernel_rfl⟩
theorem word_runs : ((List.range 24).all fun n => match hcall F X 60 35 [.int .i64 (n : Nat)] [] with | some (v, _) => HV.eqb v (.str ((words[n]?).getD [])) | none => false) = true := by kernel_rfl
theorem word35 (k : Int) (hs : HS) : HC Tryd.prog 35 [.int .i64 k] hs fun v hs' => v = .str (wordL k) ∧ hs' = hs := by
  refine HC.frame (R := fun v => v = .str (wordL k)) (by rfl) (fun v h => by subst h; rfl) ?_
  by_cases hk : k < 1 ∨ 24 ≤ k
  · have hw : wordL k = [] := by unfold wordL; rw [if_pos hk]
    rw [hw]
    have hbu : hbuild (List.replicate 24 (.str [])) ((List.range 23).map fun i => (i + 1, 1, .str ((words[i + 1]?).getD []))) = some (.agg (words.map HV.str)) := by kernel_rfl
    simp only [words, List.map_cons, List.map_nil, List.replicate, List.range, List.range.loop, List.getElem?_cons_succ, List.getElem?_cons_zero, Option.getD_some, Nat.reduceAdd] at hbu
    refine HC.wp mixed Tryd.func35 c35 ?_
    rcases hk with hk | hk
    · have h1 : decide (k < 1) = true := by simpa using hk
      simp -implicitDefEqProofs (disch := first | omega | decide | rfl | exact Nat.le_of_ble_eq_true rfl | assumption) only [vwp_skip, vwp_ret, vwp_exit, vwp_lab, vwp_seq, vwp_cond, vwp_block, vwp_scope, vwp_region, vwp_draw, vwp_loop, vwp_range, vcnd_tt, vcnd_ff, vthen_normal, vthen_ret, vthen_exit, vblock_normal, vblock_ret, vblock_exit, vreg_nil, vreg_cons, vhl_nil, vhl_op, vhl_guard, vguard_tt, vguard_ff, vguard_tf, vguard_ft, vguard_no, vact_op, vop_some, vput_some, vput_none, vsame_sm, vunit_sm, vget_nil, vget_cons, vget_some,
    vo_mv, vo_bin, vo_un, vo_ext, vo_len, vo_idxS, vo_idxStr, vo_load, vo_pick, vo_append, vo_bslice, evp, vo_nilc, vo_faddr, vo_store, vo_sliceSl, vo_sliceStr, vo_cInt, vo_copy, vo_mkSlice, vo_box, vo_build, vo_b2s, vb2s_sl, vb2s_nil, vcInt, vnil_ptr, vo_mkMap, vo_mkfn, vo_lookup, vo_mapUpd, vo_del, vdel_some, vo_rangeMap, vo_entry, vfaddr_ptr, beq_self_eq_true, eq_self, decide_true, decide_false, vb_lss, vb_leq, vb_gtr, vb_geq, vb_eql, vb_neq, vb_seql, vb_sneq, vb_beql, vb_bneq, vun_not, vlen_str, vlen_sl, vlen_nil, vext_tup, HX.ev, List.length_cons, List.length_nil, List.append_nil, List.nil_append, List.cons_append, List.set_cons_succ, List.set_cons_zero, List.getElem?_cons_succ, List.getElem?_cons_zero, Option.getD_some, Option.map_some, Option.map_none, List.map_cons, List.map_nil, if_true, Bool.not_true, Bool.not_false, Bool.false_eq_true, if_false, va_load, va_ld, va_loadA, va_ldA, va_store, va_st1, va_stn, va_kill0, va_killS, va_box1, va_boxA, get_base, get_base0, set_base, set_base0, List.length_append, Nat.reduceAdd, Nat.zero_add, List.append_assoc, vo_s2b, vo_minmax, va_min2, va_max2, va_minl, List.drop_zero, List.drop_succ_cons, List.take_succ_cons, List.take_zero, h35, hbu, h1, vo_pick, List.all_cons, List.all_nil, HV.one, Bool.and_true, frame0, List.replicate, Nat.sub]
      exact ⟨rfl, _, rfl, rfl⟩
    · have h1 : decide (k < 1) = false := by simp; omega
      have h2 : decide (24 ≤ k) = true := by simpa using hk
      simp -implicitDefEqProofs (disch := first | omega | decide | rfl | exact Nat.le_of_ble_eq_true rfl | assumption) only [vwp_skip, vwp_ret, vwp_exit, vwp_lab, vwp_seq, vwp_cond, vwp_block, vwp_scope, vwp_region, vwp_draw, vwp_loop, vwp_range, vcnd_tt, vcnd_ff, vthen_normal, vthen_ret, vthen_exit, vblock_normal, vblock_ret, vblock_exit, vreg_nil, vreg_cons, vhl_nil, vhl_op, vhl_guard, vguard_tt, vguard_ff, vguard_tf, vguard_ft, vguard_no, vact_op, vop_some, vput_some, vput_none, vsame_sm, vunit_sm, vget_nil, vget_cons, vget_some,
    vo_mv, vo_bin, vo_un, vo_ext, vo_len, vo_idxS, vo_idxStr, vo_load, vo_pick, vo_append, vo_bslice, evp, vo_nilc, vo_faddr, vo_store, vo_sliceSl, vo_sliceStr, vo_cInt, vo_copy, vo_mkSlice, vo_box, vo_build, vo_b2s, vb2s_sl, vb2s_nil, vcInt, vnil_ptr, vo_mkMap, vo_mkfn, vo_lookup, vo_mapUpd, vo_del, vdel_some, vo_rangeMap, vo_entry, vfaddr_ptr, beq_self_eq_true, eq_self, decide_true, decide_false, vb_lss, vb_leq, vb_gtr, vb_geq, vb_eql, vb_neq, vb_seql, vb_sneq, vb_beql, vb_bneq, vun_not, vlen_str, vlen_sl, vlen_nil, vext_tup, HX.ev, List.length_cons, List.length_nil, List.append_nil, List.nil_append, List.cons_append, List.set_cons_succ, List.set_cons_zero, List.getElem?_cons_succ, List.getElem?_cons_zero, Option.getD_some, Option.map_some, Option.map_none, List.map_cons, List.map_nil, if_true, Bool.not_true, Bool.not_false, Bool.false_eq_true, if_false, va_load, va_ld, va_loadA, va_ldA, va_store, va_st1, va_stn, va_kill0, va_killS, va_box1, va_boxA, get_base, get_base0, set_base, set_base0, List.length_append, Nat.reduceAdd, Nat.zero_add, List.append_assoc, vo_s2b, vo_minmax, va_min2, va_max2, va_minl, List.drop_zero, List.drop_succ_cons, List.take_succ_cons, List.take_zero, h35, hbu, h1, h2, List.all_cons, List.all_nil, HV.one, Bool.and_true, vo_pick, frame0, List.replicate, Nat.sub]
      exact ⟨rfl, _, rfl, rfl⟩
  · have h := List.all_eq_true.1 word_runs k.toNat (by simp; omega)
    have hk' : ((k.toNat : Nat) : Int) = k := by omega
    rw [hk'] at h
    have hw : wordL k = (words[k.toNat]?).getD [] := by unfold wordL; rw [if_neg hk]
    rw [hw]
    split at h
    · rename_i v hs' hr
      have hv := HV.eqb_eq _ _ h
      subst hv
      exact (hcall_HC mixed F_ok X_ok (n := 60) rfl hr).mono fun v1 _ ⟨h1, _⟩ => h1
    · simp at h

/-- how many bytes the body of a kind may have. -/
def mostI (k : Int) : Int := if k = 16 then 4294967295 else 65535
theorem most36 (k : Int) (hs : HS) : HC Tryd.prog 36 [.int .i64 k] hs fun v hs' => v = .int .i64 (mostI k) ∧ hs' = hs := by
  refine HC.wp mixed Tryd.func36 c36 ?_
  obtain ⟨b, hb⟩ := exB (decide (k = 16))
  simp -implicitDefEqProofs (disch := first | omega | decide | rfl | exact Nat.le_of_ble_eq_true rfl | assumption) only [vwp_skip, vwp_ret, vwp_exit, vwp_lab, vwp_seq, vwp_cond, vwp_block, vwp_scope, vwp_region, vwp_draw, vwp_loop, vwp_range, vcnd_tt, vcnd_ff, vthen_normal, vthen_ret, vthen_exit, vblock_normal, vblock_ret, vblock_exit, vreg_nil, vreg_cons, vhl_nil, vhl_op, vhl_guard, vguard_tt, vguard_ff, vguard_tf, vguard_ft, vguard_no, vact_op, vop_some, vput_some, vput_none, vsame_sm, vunit_sm, vget_nil, vget_cons, vget_some,
    vo_mv, vo_bin, vo_un, vo_ext, vo_len, vo_idxS, vo_idxStr, vo_load, vo_pick, vo_append, vo_bslice, evp, vo_nilc, vo_faddr, vo_store, vo_sliceSl, vo_sliceStr, vo_cInt, vo_copy, vo_mkSlice, vo_box, vo_build, vo_b2s, vb2s_sl, vb2s_nil, vcInt, vnil_ptr, vo_mkMap, vo_mkfn, vo_lookup, vo_mapUpd, vo_del, vdel_some, vo_rangeMap, vo_entry, vfaddr_ptr, beq_self_eq_true, eq_self, decide_true, decide_false, vb_lss, vb_leq, vb_gtr, vb_geq, vb_eql, vb_neq, vb_seql, vb_sneq, vb_beql, vb_bneq, vun_not, vlen_str, vlen_sl, vlen_nil, vext_tup, HX.ev, List.length_cons, List.length_nil, List.append_nil, List.nil_append, List.cons_append, List.set_cons_succ, List.set_cons_zero, List.getElem?_cons_succ, List.getElem?_cons_zero, Option.getD_some, Option.map_some, Option.map_none, List.map_cons, List.map_nil, if_true, Bool.not_true, Bool.not_false, Bool.false_eq_true, if_false, va_load, va_ld, va_loadA, va_ldA, va_store, va_st1, va_stn, va_kill0, va_killS, va_box1, va_boxA, get_base, get_base0, set_base, set_base0, List.length_append, Nat.reduceAdd, Nat.zero_add, List.append_assoc, vo_s2b, vo_minmax, va_min2, va_max2, va_minl, List.drop_zero, List.drop_succ_cons, List.take_succ_cons, List.take_zero, h36, hb, frame0, List.replicate, Nat.sub]
  cases b
  · have : ¬ k = 16 := of_decide_eq_false hb
    simp -implicitDefEqProofs (disch := first | omega | decide | rfl | exact Nat.le_of_ble_eq_true rfl | assumption) only [vwp_skip, vwp_ret, vwp_exit, vwp_lab, vwp_seq, vwp_cond, vwp_block, vwp_scope, vwp_region, vwp_draw, vwp_loop, vwp_range, vcnd_tt, vcnd_ff, vthen_normal, vthen_ret, vthen_exit, vblock_normal, vblock_ret, vblock_exit, vreg_nil, vreg_cons, vhl_nil, vhl_op, vhl_guard, vguard_tt, vguard_ff, vguard_tf, vguard_ft, vguard_no, vact_op, vop_some, vput_some, vput_none, vsame_sm, vunit_sm, vget_nil, vget_cons, vget_some,
    vo_mv, vo_bin, vo_un, vo_ext, vo_len, vo_idxS, vo_idxStr, vo_load, vo_pick, vo_append, vo_bslice, evp, vo_nilc, vo_faddr, vo_store, vo_sliceSl, vo_sliceStr, vo_cInt, vo_copy, vo_mkSlice, vo_box, vo_build, vo_b2s, vb2s_sl, vb2s_nil, vcInt, vnil_ptr, vo_mkMap, vo_mkfn, vo_lookup, vo_mapUpd, vo_del, vdel_some, vo_rangeMap, vo_entry, vfaddr_ptr, beq_self_eq_true, eq_self, decide_true, decide_false, vb_lss, vb_leq, vb_gtr, vb_geq, vb_eql, vb_neq, vb_seql, vb_sneq, vb_beql, vb_bneq, vun_not, vlen_str, vlen_sl, vlen_nil, vext_tup, HX.ev, List.length_cons, List.length_nil, List.append_nil, List.nil_append, List.cons_append, List.set_cons_succ, List.set_cons_zero, List.getElem?_cons_succ, List.getElem?_cons_zero, Option.getD_some, Option.map_some, Option.map_none, List.map_cons, List.map_nil, if_true, Bool.not_true, Bool.not_false, Bool.false_eq_true, if_false, va_load, va_ld, va_loadA, va_ldA, va_store, va_st1, va_stn, va_kill0, va_killS, va_box1, va_boxA, get_base, get_base0, set_base, set_base0, List.length_append, Nat.reduceAdd, Nat.zero_add, List.append_assoc, vo_s2b, vo_minmax, va_min2, va_max2, va_minl, List.drop_zero, List.drop_succ_cons, List.take_succ_cons, List.take_zero]
    have e : mostI k = 65535 := by unfold mostI; rw [if_neg this]
    exact ⟨rfl, _, rfl, by rw [e]; rfl, trivial⟩
  · have : k = 16 := of_decide_eq_true hb
    simp -implicitDefEqProofs (disch := first | omega | decide | rfl | exact Nat.le_of_ble_eq_true rfl | assumption) only [vwp_skip, vwp_ret, vwp_exit, vwp_lab, vwp_seq, vwp_cond, vwp_block, vwp_scope, vwp_region, vwp_draw, vwp_loop, vwp_range, vcnd_tt, vcnd_ff, vthen_normal, vthen_ret, vthen_exit, vblock_normal, vblock_ret, vblock_exit, vreg_nil, vreg_cons, vhl_nil, vhl_op, vhl_guard, vguard_tt, vguard_ff, vguard_tf, vguard_ft, vguard_no, vact_op, vop_some, vput_some, vput_none, vsame_sm, vunit_sm, vget_nil, vget_cons, vget_some,
    vo_mv, vo_bin, vo_un, vo_ext, vo_len, vo_idxS, vo_idxStr, vo_load, vo_pick, vo_append, vo_bslice, evp, vo_nilc, vo_faddr, vo_store, vo_sliceSl, vo_sliceStr, vo_cInt, vo_copy, vo_mkSlice, vo_box, vo_build, vo_b2s, vb2s_sl, vb2s_nil, vcInt, vnil_ptr, vo_mkMap, vo_mkfn, vo_lookup, vo_mapUpd, vo_del, vdel_some, vo_rangeMap, vo_entry, vfaddr_ptr, beq_self_eq_true, eq_self, decide_true, decide_false, vb_lss, vb_leq, vb_gtr, vb_geq, vb_eql, vb_neq, vb_seql, vb_sneq, vb_beql, vb_bneq, vun_not, vlen_str, vlen_sl, vlen_nil, vext_tup, HX.ev, List.length_cons, List.length_nil, List.append_nil, List.nil_append, List.cons_append, List.set_cons_succ, List.set_cons_zero, List.getElem?_cons_succ, List.getElem?_cons_zero, Option.getD_some, Option.map_some, Option.map_none, List.map_cons, List.map_nil, if_true, Bool.not_true, Bool.not_false, Bool.false_eq_true, if_false, va_load, va_ld, va_loadA, va_ldA, va_store, va_st1, va_stn, va_kill0, va_killS, va_box1, va_boxA, get_base, get_base0, set_base, set_base0, List.length_append, Nat.reduceAdd, Nat.zero_add, List.append_assoc, vo_s2b, vo_minmax, va_min2, va_max2, va_minl, List.drop_zero, List.drop_succ_cons, List.take_succ_cons, List.take_zero]
    have e : mostI k = 4294967295 := by unfold mostI; rw [if_pos this]
    exact ⟨rfl, _, rfl, by rw [e]; rfl, trivial⟩

theorem valid37 (s : List UInt8) (hs : HS) : HC Tryd.prog 37 [.str s] hs fun v hs' => v = .bool (validL s) ∧ hs' = hs :=
  HC.frame (R := fun v => v = .bool (validL s)) rfl (fun v h => by subst h; rfl) (valid9 s)

/-! ### numbers -/
theorem itoa53 {hs : HS} (ht : hasTab hs 1 .u64 Lib.pow10Tab = true) (n : Int) (h0 : -9223372036854775808 ≤ n) (h1 : n ≤ 9223372036854775807) : HCall Tryd.prog 53 [.int .i64 n] hs fun v hs' => v = .str (Lib.itoa n) ∧ hs' = hs :=
  xItoa_sound (g := 1) ok53 (by kernel_rfl)
    (fun n w h0 h1 ht => (Any.strconv_Itoa Tryd.laysM171 n h0 h1 w ht).mono fun e w' ⟨he, k, os, hw⟩ => ⟨he, hw ▸ Lib.below_grow _ w (Nat.le_refl _) k os⟩)
    (by
      have hc : hasTab hs 1 .u64 Lib.pow10Tab = true ∧ -9223372036854775808 ≤ n ∧ n ≤ 9223372036854775807 := ⟨ht, h0, h1⟩
      show (if _ then _ else _) = _
      rw [if_pos hc])
/-- a number, printed; nothing of one below 0. -/
def ansPr (n : Int) : List UInt8 := if n < 0 then [] else Lib.decDigits n.toNat
theorem print38 {hs : HS} (ht : hasTab hs 1 .u64 Lib.pow10Tab = true) (n : Int) (h0 : -9223372036854775808 ≤ n) (h1 : n ≤ 9223372036854775807) : HC Tryd.prog 38 [.int .i64 n] hs fun v hs' => v = .str (ansPr n) ∧ hs' = hs := by
  refine HC.wp mixed Tryd.func38 c38 ?_
  obtain ⟨b, hb⟩ := exB (decide (n < 0))
  simp -implicitDefEqProofs (disch := first | omega | decide | rfl | exact Nat.le_of_ble_eq_true rfl | assumption) only [vwp_skip, vwp_ret, vwp_exit, vwp_lab, vwp_seq, vwp_cond, vwp_block, vwp_scope, vwp_region, vwp_draw, vwp_loop, vwp_range, vcnd_tt, vcnd_ff, vthen_normal, vthen_ret, vthen_exit, vblock_normal, vblock_ret, vblock_exit, vreg_nil, vreg_cons, vhl_nil, vhl_op, vhl_guard, vguard_tt, vguard_ff, vguard_tf, vguard_ft, vguard_no, vact_op, vop_some, vput_some, vput_none, vsame_sm, vunit_sm, vget_nil, vget_cons, vget_some,
    vo_mv, vo_bin, vo_un, vo_ext, vo_len, vo_idxS, vo_idxStr, vo_load, vo_pick, vo_append, vo_bslice, evp, vo_nilc, vo_faddr, vo_store, vo_sliceSl, vo_sliceStr, vo_cInt, vo_copy, vo_mkSlice, vo_box, vo_build, vo_b2s, vb2s_sl, vb2s_nil, vcInt, vnil_ptr, vo_mkMap, vo_mkfn, vo_lookup, vo_mapUpd, vo_del, vdel_some, vo_rangeMap, vo_entry, vfaddr_ptr, beq_self_eq_true, eq_self, decide_true, decide_false, vb_lss, vb_leq, vb_gtr, vb_geq, vb_eql, vb_neq, vb_seql, vb_sneq, vb_beql, vb_bneq, vun_not, vlen_str, vlen_sl, vlen_nil, vext_tup, HX.ev, List.length_cons, List.length_nil, List.append_nil, List.nil_append, List.cons_append, List.set_cons_succ, List.set_cons_zero, List.getElem?_cons_succ, List.getElem?_cons_zero, Option.getD_some, Option.map_some, Option.map_none, List.map_cons, List.map_nil, if_true, Bool.not_true, Bool.not_false, Bool.false_eq_true, if_false, va_load, va_ld, va_loadA, va_ldA, va_store, va_st1, va_stn, va_kill0, va_killS, va_box1, va_boxA, get_base, get_base0, set_base, set_base0, List.length_append, Nat.reduceAdd, Nat.zero_add, List.append_assoc, vo_s2b, vo_minmax, va_min2, va_max2, va_minl, List.drop_zero, List.drop_succ_cons, List.take_succ_cons, List.take_zero, h38, hb, frame0, List.replicate, Nat.sub]
  cases b
  · have hn : ¬ n < 0 := of_decide_eq_false hb
    simp -implicitDefEqProofs (disch := first | omega | decide | rfl | exact Nat.le_of_ble_eq_true rfl | assumption) only [vwp_skip, vwp_ret, vwp_exit, vwp_lab, vwp_seq, vwp_cond, vwp_block, vwp_scope, vwp_region, vwp_draw, vwp_loop, vwp_range, vcnd_tt, vcnd_ff, vthen_normal, vthen_ret, vthen_exit, vblock_normal, vblock_ret, vblock_exit, vreg_nil, vreg_cons, vhl_nil, vhl_op, vhl_guard, vguard_tt, vguard_ff, vguard_tf, vguard_ft, vguard_no, vact_op, vop_some, vput_some, vput_none, vsame_sm, vunit_sm, vget_nil, vget_cons, vget_some,
    vo_mv, vo_bin, vo_un, vo_ext, vo_len, vo_idxS, vo_idxStr, vo_load, vo_pick, vo_append, vo_bslice, evp, vo_nilc, vo_faddr, vo_store, vo_sliceSl, vo_sliceStr, vo_cInt, vo_copy, vo_mkSlice, vo_box, vo_build, vo_b2s, vb2s_sl, vb2s_nil, vcInt, vnil_ptr, vo_mkMap, vo_mkfn, vo_lookup, vo_mapUpd, vo_del, vdel_some, vo_rangeMap, vo_entry, vfaddr_ptr, beq_self_eq_true, eq_self, decide_true, decide_false, vb_lss, vb_leq, vb_gtr, vb_geq, vb_eql, vb_neq, vb_seql, vb_sneq, vb_beql, vb_bneq, vun_not, vlen_str, vlen_sl, vlen_nil, vext_tup, HX.ev, List.length_cons, List.length_nil, List.append_nil, List.nil_append, List.cons_append, List.set_cons_succ, List.set_cons_zero, List.getElem?_cons_succ, List.getElem?_cons_zero, Option.getD_some, Option.map_some, Option.map_none, List.map_cons, List.map_nil, if_true, Bool.not_true, Bool.not_false, Bool.false_eq_true, if_false, va_load, va_ld, va_loadA, va_ldA, va_store, va_st1, va_stn, va_kill0, va_killS, va_box1, va_boxA, get_base, get_base0, set_base, set_base0, List.length_append, Nat.reduceAdd, Nat.zero_add, List.append_assoc, vo_s2b, vo_minmax, va_min2, va_max2, va_minl, List.drop_zero, List.drop_succ_cons, List.take_succ_cons, List.take_zero]
    refine vcall_ofC rfl (itoa53 ht n h0 h1) ?_
    rintro _ _ ⟨rfl, rfl⟩
    simp -implicitDefEqProofs (disch := first | omega | decide | rfl | exact Nat.le_of_ble_eq_true rfl | assumption) only [vwp_skip, vwp_ret, vwp_exit, vwp_lab, vwp_seq, vwp_cond, vwp_block, vwp_scope, vwp_region, vwp_draw, vwp_loop, vwp_range, vcnd_tt, vcnd_ff, vthen_normal, vthen_ret, vthen_exit, vblock_normal, vblock_ret, vblock_exit, vreg_nil, vreg_cons, vhl_nil, vhl_op, vhl_guard, vguard_tt, vguard_ff, vguard_tf, vguard_ft, vguard_no, vact_op, vop_some, vput_some, vput_none, vsame_sm, vunit_sm, vget_nil, vget_cons, vget_some,
    vo_mv, vo_bin, vo_un, vo_ext, vo_len, vo_idxS, vo_idxStr, vo_load, vo_pick, vo_append, vo_bslice, evp, vo_nilc, vo_faddr, vo_store, vo_sliceSl, vo_sliceStr, vo_cInt, vo_copy, vo_mkSlice, vo_box, vo_build, vo_b2s, vb2s_sl, vb2s_nil, vcInt, vnil_ptr, vo_mkMap, vo_mkfn, vo_lookup, vo_mapUpd, vo_del, vdel_some, vo_rangeMap, vo_entry, vfaddr_ptr, beq_self_eq_true, eq_self, decide_true, decide_false, vb_lss, vb_leq, vb_gtr, vb_geq, vb_eql, vb_neq, vb_seql, vb_sneq, vb_beql, vb_bneq, vun_not, vlen_str, vlen_sl, vlen_nil, vext_tup, HX.ev, List.length_cons, List.length_nil, List.append_nil, List.nil_append, List.cons_append, List.set_cons_succ, List.set_cons_zero, List.getElem?_cons_succ, List.getElem?_cons_zero, Option.getD_some, Option.map_some, Option.map_none, List.map_cons, List.map_nil, if_true, Bool.not_true, Bool.not_false, Bool.false_eq_true, if_false, va_load, va_ld, va_loadA, va_ldA, va_store, va_st1, va_stn, va_kill0, va_killS, va_box1, va_boxA, get_base, get_base0, set_base, set_base0, List.length_append, Nat.reduceAdd, Nat.zero_add, List.append_assoc, vo_s2b, vo_minmax, va_min2, va_max2, va_minl, List.drop_zero, List.drop_succ_cons, List.take_succ_cons, List.take_zero]
    have e : ansPr n = Lib.itoa n := by unfold ansPr Lib.itoa; rw [if_neg hn, if_neg hn]
    exact ⟨rfl, _, rfl, by rw [e]; rfl, trivial⟩
  · have hn : n < 0 := of_decide_eq_true hb
    simp -implicitDefEqProofs (disch := first | omega | decide | rfl | exact Nat.le_of_ble_eq_true rfl | assumption) only [vwp_skip, vwp_ret, vwp_exit, vwp_lab, vwp_seq, vwp_cond, vwp_block, vwp_scope, vwp_region, vwp_draw, vwp_loop, vwp_range, vcnd_tt, vcnd_ff, vthen_normal, vthen_ret, vthen_exit, vblock_normal, vblock_ret, vblock_exit, vreg_nil, vreg_cons, vhl_nil, vhl_op, vhl_guard, vguard_tt, vguard_ff, vguard_tf, vguard_ft, vguard_no, vact_op, vop_some, vput_some, vput_none, vsame_sm, vunit_sm, vget_nil, vget_cons, vget_some,
    vo_mv, vo_bin, vo_un, vo_ext, vo_len, vo_idxS, vo_idxStr, vo_load, vo_pick, vo_append, vo_bslice, evp, vo_nilc, vo_faddr, vo_store, vo_sliceSl, vo_sliceStr, vo_cInt, vo_copy, vo_mkSlice, vo_box, vo_build, vo_b2s, vb2s_sl, vb2s_nil, vcInt, vnil_ptr, vo_mkMap, vo_mkfn, vo_lookup, vo_mapUpd, vo_del, vdel_some, vo_rangeMap, vo_entry, vfaddr_ptr, beq_self_eq_true, eq_self, decide_true, decide_false, vb_lss, vb_leq, vb_gtr, vb_geq, vb_eql, vb_neq, vb_seql, vb_sneq, vb_beql, vb_bneq, vun_not, vlen_str, vlen_sl, vlen_nil, vext_tup, HX.ev, List.length_cons, List.length_nil, List.append_nil, List.nil_append, List.cons_append, List.set_cons_succ, List.set_cons_zero, List.getElem?_cons_succ, List.getElem?_cons_zero, Option.getD_some, Option.map_some, Option.map_none, List.map_cons, List.map_nil, if_true, Bool.not_true, Bool.not_false, Bool.false_eq_true, if_false, va_load, va_ld, va_loadA, va_ldA, va_store, va_st1, va_stn, va_kill0, va_killS, va_box1, va_boxA, get_base, get_base0, set_base, set_base0, List.length_append, Nat.reduceAdd, Nat.zero_add, List.append_assoc, vo_s2b, vo_minmax, va_min2, va_max2, va_minl, List.drop_zero, List.drop_succ_cons, List.take_succ_cons, List.take_zero]
    have e : ansPr n = [] := by unfold ansPr; rw [if_pos hn]
    exact ⟨rfl, _, rfl, by rw [e]; rfl, trivial⟩
end A
end Go.Proofs.YthihchoccpnfeaaDoor
namespace Go.Proofs.YthihchoccpnfeaaDoor
open Go Go.HL Go.Shelf V
namespace A
set_option maxRecDepth 100000
set_option maxHeartbeats 40000000
set_option linter.unusedSimpArgs false
theorem ok11 : okF Tryd.prog 11 := ⟨_, Tryd.func11, by kernel_rfl, by kernel_rfl⟩
/-- are a reply's fields as its kind wants them? -/
def idB (k id : Int) : Bool := if k = 3 ∨ k = 12 ∨ k = 1 then decide (1 ≤ id) && decide (id ≤ 1099511627776) else decide (id = 0)
def numB (k n : Int) : Bool := if k = 10 ∨ k = 13 then decide (0 ≤ n) && decide (n ≤ 4294967295) else decide (n = 0)
def tubeB (k : Int) (t : List UInt8) : Bool := if k = 2 then validL t else t == []
def bodyB (k : Int) (n : Nat) : Bool := if k = 3 ∨ k = 12 ∨ k = 16 then decide ((n : Int) ≤ mostI k) else decide ((n : Int) = 0)
def checkF (k id num : Int) (t : List UInt8) (n : Nat) : Int := if wordL k = [] then 80 else if idB k id && numB k num && tubeB k t && bodyB k n then 0 else 81

theorem check11 {hs : HS} {bv : HV} {n : Nat} (h1 : bv.one = true) (h2 : bv.cells = [bv]) (hl : ∀ g, hlenK g .slice bv = some (.int .i64 (n : Nat))) (k id num : Int) (t : List UInt8) :
    HC Tryd.prog 11 [.agg [.int .i64 k, .int .i64 id, .int .i64 num, .str t, bv]] hs fun v hs' => v = .int .i64 (checkF k id num t n) ∧ hs' = hs := by
  refine HC.drop (Q := fun v => v = .int .i64 (checkF k id num t n)) ?_
  have hbo : hbox hs (.agg [.int .i64 k, .int .i64 id, .int .i64 num, .str t, bv]) = some (.ptr hs.length 0, hs ++ [some (.cells 1 [.int .i64 k, .int .i64 id, .int .i64 num, .str t, bv] false false [])]) := va_boxA (by simp only [List.all_cons, List.all_nil, h1]; rfl)
  refine HC.wp mixed Tryd.func11 c11 ?_
  simp -implicitDefEqProofs (disch := first | omega | decide | rfl | exact Nat.le_of_ble_eq_true rfl | assumption) only [vwp_skip, vwp_ret, vwp_exit, vwp_lab, vwp_seq, vwp_cond, vwp_block, vwp_scope, vwp_region, vwp_draw, vwp_loop, vwp_range, vcnd_tt, vcnd_ff, vthen_normal, vthen_ret, vthen_exit, vblock_normal, vblock_ret, vblock_exit, vreg_nil, vreg_cons, vhl_nil, vhl_op, vhl_guard, vguard_tt, vguard_ff, vguard_tf, vguard_ft, vguard_no, vact_op, vop_some, vput_some, vput_none, vsame_sm, vunit_sm, vget_nil, vget_cons, vget_some,
    vo_mv, vo_bin, vo_un, vo_ext, vo_len, vo_idxS, vo_idxStr, vo_load, vo_pick, vo_append, vo_bslice, evp, vo_nilc, vo_faddr, vo_store, vo_sliceSl, vo_sliceStr, vo_cInt, vo_copy, vo_mkSlice, vo_box, vo_build, vo_b2s, vb2s_sl, vb2s_nil, vcInt, vnil_ptr, vo_mkMap, vo_mkfn, vo_lookup, vo_mapUpd, vo_del, vdel_some, vo_rangeMap, vo_entry, vfaddr_ptr, beq_self_eq_true, eq_self, decide_true, decide_false, vb_lss, vb_leq, vb_gtr, vb_geq, vb_eql, vb_neq, vb_seql, vb_sneq, vb_beql, vb_bneq, vun_not, vlen_str, vlen_sl, vlen_nil, vext_tup, HX.ev, List.length_cons, List.length_nil, List.append_nil, List.nil_append, List.cons_append, List.set_cons_succ, List.set_cons_zero, List.getElem?_cons_succ, List.getElem?_cons_zero, Option.getD_some, Option.map_some, Option.map_none, List.map_cons, List.map_nil, if_true, Bool.not_true, Bool.not_false, Bool.false_eq_true, if_false, va_load, va_ld, va_loadA, va_ldA, va_store, va_st1, va_stn, va_kill0, va_killS, va_box1, va_boxA, get_base, get_base0, set_base, set_base0, List.length_append, Nat.reduceAdd, Nat.zero_add, List.append_assoc, vo_s2b, vo_minmax, va_min2, va_max2, va_minl, List.drop_zero, List.drop_succ_cons, List.take_succ_cons, List.take_zero, vdr_nil, vdr_cons, vdr_op, vdr_some, vdr_loud, vdr_lsome, HOp.looks, vholds_cons, vholds_nil, implies_true, true_and, and_true, vres_tmp, vres_tmp2, vres_none, vres_cell1, vres_k, vres_cell2, vres_k2, vend_ret, vend_normal, vex_some, vdr_guard, vdg_tt, vdg_ff, vdg_tf, vdg_ft, vdg_no, vo_pick, h11, hbo, frame0, List.replicate, Nat.sub]
  refine vcall_of ok35 rfl (word35 k _) ?_
  rintro _ _ ⟨rfl, rfl⟩
  clear hbo
  repeat' first
    | simp -implicitDefEqProofs (disch := first | omega | decide | rfl | exact Nat.le_of_ble_eq_true rfl | assumption) only [vwp_skip, vwp_ret, vwp_exit, vwp_lab, vwp_seq, vwp_cond, vwp_block, vwp_scope, vwp_region, vwp_draw, vwp_loop, vwp_range, vcnd_tt, vcnd_ff, vthen_normal, vthen_ret, vthen_exit, vblock_normal, vblock_ret, vblock_exit, vreg_nil, vreg_cons, vhl_nil, vhl_op, vhl_guard, vguard_tt, vguard_ff, vguard_tf, vguard_ft, vguard_no, vact_op, vop_some, vput_some, vput_none, vsame_sm, vunit_sm, vget_nil, vget_cons, vget_some,
    vo_mv, vo_bin, vo_un, vo_ext, vo_len, vo_idxS, vo_idxStr, vo_load, vo_pick, vo_append, vo_bslice, evp, vo_nilc, vo_faddr, vo_store, vo_sliceSl, vo_sliceStr, vo_cInt, vo_copy, vo_mkSlice, vo_box, vo_build, vo_b2s, vb2s_sl, vb2s_nil, vcInt, vnil_ptr, vo_mkMap, vo_mkfn, vo_lookup, vo_mapUpd, vo_del, vdel_some, vo_rangeMap, vo_entry, vfaddr_ptr, beq_self_eq_true, eq_self, decide_true, decide_false, vb_lss, vb_leq, vb_gtr, vb_geq, vb_eql, vb_neq, vb_seql, vb_sneq, vb_beql, vb_bneq, vun_not, vlen_str, vlen_sl, vlen_nil, vext_tup, HX.ev, List.length_cons, List.length_nil, List.append_nil, List.nil_append, List.cons_append, List.set_cons_succ, List.set_cons_zero, List.getElem?_cons_succ, List.getElem?_cons_zero, Option.getD_some, Option.map_some, Option.map_none, List.map_cons, List.map_nil, if_true, Bool.not_true, Bool.not_false, Bool.false_eq_true, if_false, va_load, va_ld, va_loadA, va_ldA, va_store, va_st1, va_stn, va_kill0, va_killS, va_box1, va_boxA, get_base, get_base0, set_base, set_base0, List.length_append, Nat.reduceAdd, Nat.zero_add, List.append_assoc, vo_s2b, vo_minmax, va_min2, va_max2, va_minl, List.drop_zero, List.drop_succ_cons, List.take_succ_cons, List.take_zero, vdr_nil, vdr_cons, vdr_op, vdr_some, vdr_loud, vdr_lsome, HOp.looks, vholds_cons, vholds_nil, implies_true, true_and, and_true, vres_tmp, vres_tmp2, vres_none, vres_cell1, vres_k, vres_cell2, vres_k2, vend_ret, vend_normal, vex_some, vdr_guard, vdg_tt, vdg_ff, vdg_tf, vdg_ft, vdg_no, vo_pick, *]
    | refine condK_cases (fun h => ?_) (fun h => ?_)
    | refine guardK_cases (fun h => ?_) (fun h => ?_)
    | refine dgK_cases (fun h => ?_) (fun h => ?_)
    | (refine vcall_of ok36 rfl (most36 _ _) ?_; rintro _ _ ⟨rfl, rfl⟩)
    | (refine vdr_call ok36 rfl (most36 _ _) ?_; rintro _ _ ⟨rfl, rfl⟩)
    | (refine vcall_of ok37 rfl (valid37 _ _) ?_; rintro _ _ ⟨rfl, rfl⟩)
    | (refine vdr_call ok37 rfl (valid37 _ _) ?_; rintro _ _ ⟨rfl, rfl⟩)
    | refine hwp_draw mixed rfl ?_

  all_goals
    refine ⟨⟨_, rfl⟩, rfl, congrArg _ ?_⟩
    simp_all [checkF, idB, numB, tubeB, bodyB]
    try (intros; omega)
end A
end Go.Proofs.YthihchoccpnfeaaDoor
namespace Go.Proofs.YthihchoccpnfeaaDoor
open Go Go.HL Go.Shelf V
namespace A
set_option maxRecDepth 100000
set_option maxHeartbeats 40000000
set_option linter.unusedSimpArgs false
theorem ok12 : okF Tryd.prog 12 := ⟨_, Tryd.func12, by kernel_rfl, by kernel_rfl⟩
/-- a reply's bytes. -/
def putF (k id num : Int) (t b : List UInt8) : List UInt8 :=
  if k = 3 ∨ k = 12 then wordL k ++ (32 :: ansPr id) ++ (32 :: (ansPr (b.length : Nat) ++ [13, 10])) ++ b ++ [13, 10]
  else if k = 16 then wordL k ++ (32 :: (ansPr (b.length : Nat) ++ [13, 10])) ++ b ++ [13, 10]
  else if k = 1 then wordL k ++ (32 :: ansPr id) ++ [13, 10]
  else if k = 2 then wordL k ++ (32 :: t) ++ [13, 10]
  else if k = 10 ∨ k = 13 then wordL k ++ (32 :: ansPr num) ++ [13, 10]
  else wordL k ++ [13, 10]
theorem word_len (k : Int) : (wordL k).length ≤ 15 := by
  unfold wordL
  split
  · simp
  · have h : words.all (fun w => decide (w.length ≤ 15)) = true := by decide
    cases hw : words[k.toNat]? with
    | none => simp
    | some w =>
      have := List.all_eq_true.1 h w (List.mem_of_getElem? hw)
      simpa using this
theorem pr_len {n : Int} (h1 : n ≤ 9223372036854775807) : (ansPr n).length ≤ 21 := by
  unfold ansPr
  split
  · simp
  · rename_i h
    have e : Lib.itoa n = Lib.decDigits n.toNat := by unfold Lib.itoa; rw [if_neg h]
    rw [← e]; exact Lib.itoa_length_le n (by omega) h1
theorem valid_len {t : List UInt8} (h : validL t = true) : t.length ≤ 200 := by
  unfold validL at h
  simp only [Bool.and_eq_true, decide_eq_true_eq] at h
  exact h.1.1.2
theorem body_len {k : Int} {n : Nat} (h : bodyB k n = true) : n ≤ 4294967295 := by
  unfold bodyB mostI at h
  split at h <;> (try split at h) <;> simp at h <;> omega

theorem leaf12 {hs L : HS} {j len : Nat} {w Y : List UInt8} {olds : List Nat} (hL : L[j]? = some (some (.cells 1 (bcells w) false true olds))) (ho : ∀ q ∈ olds, ∃ i, q = hs.length + i ∧ i ≠ j) (hw : Y = w) (hlen : len = w.length) :
    ∃ L' offs, hs ++ L = hs ++ L' ∧ okOffs L'.length offs = true ∧ rv (relRho hs.length offs) (.tup [.slice (hs.length + j) 0 len none, .int .i64 0]) = .tup [.slice hs.length 0 Y.length none, .int .i64 0] ∧ hs ++ HL.pickT hs.length offs L' = hs ++ [some (.cells 1 (bcells Y) false true [])] := by
  subst hw hlen
  obtain ⟨t1, t2, t3⟩ := tailB (hs := hs) (len := Y.length) hL ho
  refine ⟨L, [j], rfl, t1, ?_, by rw [t3]⟩
  have hp : relRho hs.length [j] (hs.length + j) = some hs.length := by rw [relRho_off]; simp [posIn]
  simp [rv, renV, renL, hp]

theorem put12 {hs : HS} {bv : HV} {b : List UInt8} (h1 : bv.one = true) (h2 : bv.cells = [bv]) (hl : ∀ g, hlenK g .slice bv = some (.int .i64 (b.length : Nat))) (hb : ∀ L, takeCells (hs ++ L) 1 bv = some (b.length, bcells b)) (ht : ∀ L, hasTab (hs ++ L) 1 .u64 Lib.pow10Tab = true)
    (k id num : Int) (hid : -9223372036854775808 ≤ id ∧ id ≤ 9223372036854775807) (hnum : -9223372036854775808 ≤ num ∧ num ≤ 9223372036854775807) (t : List UInt8) (htl : t.length ≤ 140737488351232) :
    HC Tryd.prog 12 [.agg [.int .i64 k, .int .i64 id, .int .i64 num, .str t, bv]] hs fun v hs' => if checkF k id num t b.length = 0 then v = .tup [.slice hs.length 0 (putF k id num t b).length none, .int .i64 0] ∧ hs' = hs ++ [some (.cells 1 (bcells (putF k id num t b)) false true [])] else v = .tup [.nilSlice, .int .i64 (checkF k id num t b.length)] ∧ hs' = hs := by
  refine HC.tail ?_
  have hbo : hbox hs (.agg [.int .i64 k, .int .i64 id, .int .i64 num, .str t, bv]) = some (.ptr hs.length 0, hs ++ [some (.cells 1 [.int .i64 k, .int .i64 id, .int .i64 num, .str t, bv] false false [])]) := va_boxA (by simp only [List.all_cons, List.all_nil, h1]; rfl)
  refine HC.wp mixed Tryd.func12 c12 ?_
  simp -implicitDefEqProofs (disch := first | omega | decide | exact rfl | exact Nat.le_of_ble_eq_true rfl | assumption | (simp only [List.length_append, List.length_cons, List.length_nil, List.drop_zero, List.length_drop] <;> omega)) only [vwp_skip, vwp_ret, vwp_exit, vwp_lab, vwp_seq, vwp_cond, vwp_block, vwp_scope, vwp_region, vwp_draw, vwp_loop, vwp_range, vcnd_tt, vcnd_ff, vthen_normal, vthen_ret, vthen_exit, vblock_normal, vblock_ret, vblock_exit, vreg_nil, vreg_cons, vhl_nil, vhl_op, vhl_guard, vguard_tt, vguard_ff, vguard_tf, vguard_ft, vguard_no, vact_op, vop_some, vput_some, vput_none, vsame_sm, vunit_sm, vget_nil, vget_cons, vget_some,
    vo_mv, vo_bin, vo_un, vo_ext, vo_len, vo_idxS, vo_idxStr, vo_load, vo_pick, vo_append, vo_bslice, evp, vo_nilc, vo_faddr, vo_store, vo_sliceSl, vo_sliceStr, vo_cInt, vo_copy, vo_mkSlice, vo_box, vo_build, vo_b2s, vb2s_sl, vb2s_nil, vcInt, vnil_ptr, vo_mkMap, vo_mkfn, vo_lookup, vo_mapUpd, vo_del, vdel_some, vo_rangeMap, vo_entry, vfaddr_ptr, beq_self_eq_true, eq_self, decide_true, decide_false, vb_lss, vb_leq, vb_gtr, vb_geq, vb_eql, vb_neq, vb_seql, vb_sneq, vb_beql, vb_bneq, vun_not, vlen_str, vlen_sl, vlen_nil, vext_tup, HX.ev, List.length_cons, List.length_nil, List.append_nil, List.nil_append, List.cons_append, List.set_cons_succ, List.set_cons_zero, List.getElem?_cons_succ, List.getElem?_cons_zero, Option.getD_some, Option.map_some, Option.map_none, List.map_cons, List.map_nil, if_true, Bool.not_true, Bool.not_false, Bool.false_eq_true, if_false, va_load, va_ld, va_loadA, va_ldA, va_store, va_st1, va_stn, va_kill0, va_killS, va_box1, va_boxA, get_base, get_base0, set_base, set_base0, List.length_append, Nat.reduceAdd, Nat.zero_add, List.append_assoc, vo_s2b, vo_minmax, va_min2, va_max2, va_minl, List.drop_zero, List.drop_succ_cons, List.take_succ_cons, List.take_zero, vdr_nil, vdr_cons, vdr_op, vdr_some, vdr_loud, vdr_lsome, HOp.looks, vholds_cons, vholds_nil, implies_true, true_and, and_true, vres_tmp, vres_tmp2, vres_none, vres_cell1, vres_k, vres_cell2, vres_k2, vend_ret, vend_normal, vex_some, vdr_guard, vdg_tt, vdg_ff, vdg_tf, vdg_ft, vdg_no, vo_pick, va_s2b, va_takeS, va_takeN, va_app, va_apB, va_ap0, vsadd, Nat.reduceEqDiff, h12, hbo, frame0, List.replicate, Nat.sub]
  refine vcall_of ok11 rfl (check11 h1 h2 hl k id num t) ?_
  rintro _ _ ⟨rfl, rfl⟩
  clear hbo
  obtain ⟨c, hc⟩ : ∃ c, c = checkF k id num t b.length := ⟨_, rfl⟩
  rw [← hc]
  obtain ⟨bc, hbc⟩ := exB (decide (c = 0))
  simp -implicitDefEqProofs (disch := first | omega | decide | exact rfl | exact Nat.le_of_ble_eq_true rfl | assumption | (simp only [List.length_append, List.length_cons, List.length_nil, List.drop_zero, List.length_drop] <;> omega)) only [vwp_skip, vwp_ret, vwp_exit, vwp_lab, vwp_seq, vwp_cond, vwp_block, vwp_scope, vwp_region, vwp_draw, vwp_loop, vwp_range, vcnd_tt, vcnd_ff, vthen_normal, vthen_ret, vthen_exit, vblock_normal, vblock_ret, vblock_exit, vreg_nil, vreg_cons, vhl_nil, vhl_op, vhl_guard, vguard_tt, vguard_ff, vguard_tf, vguard_ft, vguard_no, vact_op, vop_some, vput_some, vput_none, vsame_sm, vunit_sm, vget_nil, vget_cons, vget_some,
    vo_mv, vo_bin, vo_un, vo_ext, vo_len, vo_idxS, vo_idxStr, vo_load, vo_pick, vo_append, vo_bslice, evp, vo_nilc, vo_faddr, vo_store, vo_sliceSl, vo_sliceStr, vo_cInt, vo_copy, vo_mkSlice, vo_box, vo_build, vo_b2s, vb2s_sl, vb2s_nil, vcInt, vnil_ptr, vo_mkMap, vo_mkfn, vo_lookup, vo_mapUpd, vo_del, vdel_some, vo_rangeMap, vo_entry, vfaddr_ptr, beq_self_eq_true, eq_self, decide_true, decide_false, vb_lss, vb_leq, vb_gtr, vb_geq, vb_eql, vb_neq, vb_seql, vb_sneq, vb_beql, vb_bneq, vun_not, vlen_str, vlen_sl, vlen_nil, vext_tup, HX.ev, List.length_cons, List.length_nil, List.append_nil, List.nil_append, List.cons_append, List.set_cons_succ, List.set_cons_zero, List.getElem?_cons_succ, List.getElem?_cons_zero, Option.getD_some, Option.map_some, Option.map_none, List.map_cons, List.map_nil, if_true, Bool.not_true, Bool.not_false, Bool.false_eq_true, if_false, va_load, va_ld, va_loadA, va_ldA, va_store, va_st1, va_stn, va_kill0, va_killS, va_box1, va_boxA, get_base, get_base0, set_base, set_base0, List.length_append, Nat.reduceAdd, Nat.zero_add, List.append_assoc, vo_s2b, vo_minmax, va_min2, va_max2, va_minl, List.drop_zero, List.drop_succ_cons, List.take_succ_cons, List.take_zero, vdr_nil, vdr_cons, vdr_op, vdr_some, vdr_loud, vdr_lsome, HOp.looks, vholds_cons, vholds_nil, implies_true, true_and, and_true, vres_tmp, vres_tmp2, vres_none, vres_cell1, vres_k, vres_cell2, vres_k2, vend_ret, vend_normal, vex_some, vdr_guard, vdg_tt, vdg_ff, vdg_tf, vdg_ft, vdg_no, vo_pick, va_s2b, va_takeS, va_takeN, va_app, va_apB, va_ap0, vsadd, Nat.reduceEqDiff, hbc]
  cases bc
  case false =>
    have hc0 : ¬ c = 0 := of_decide_eq_false hbc
    simp -implicitDefEqProofs (disch := first | omega | decide | exact rfl | exact Nat.le_of_ble_eq_true rfl | assumption | (simp only [List.length_append, List.length_cons, List.length_nil, List.drop_zero, List.length_drop] <;> omega)) only [vwp_skip, vwp_ret, vwp_exit, vwp_lab, vwp_seq, vwp_cond, vwp_block, vwp_scope, vwp_region, vwp_draw, vwp_loop, vwp_range, vcnd_tt, vcnd_ff, vthen_normal, vthen_ret, vthen_exit, vblock_normal, vblock_ret, vblock_exit, vreg_nil, vreg_cons, vhl_nil, vhl_op, vhl_guard, vguard_tt, vguard_ff, vguard_tf, vguard_ft, vguard_no, vact_op, vop_some, vput_some, vput_none, vsame_sm, vunit_sm, vget_nil, vget_cons, vget_some,
    vo_mv, vo_bin, vo_un, vo_ext, vo_len, vo_idxS, vo_idxStr, vo_load, vo_pick, vo_append, vo_bslice, evp, vo_nilc, vo_faddr, vo_store, vo_sliceSl, vo_sliceStr, vo_cInt, vo_copy, vo_mkSlice, vo_box, vo_build, vo_b2s, vb2s_sl, vb2s_nil, vcInt, vnil_ptr, vo_mkMap, vo_mkfn, vo_lookup, vo_mapUpd, vo_del, vdel_some, vo_rangeMap, vo_entry, vfaddr_ptr, beq_self_eq_true, eq_self, decide_true, decide_false, vb_lss, vb_leq, vb_gtr, vb_geq, vb_eql, vb_neq, vb_seql, vb_sneq, vb_beql, vb_bneq, vun_not, vlen_str, vlen_sl, vlen_nil, vext_tup, HX.ev, List.length_cons, List.length_nil, List.append_nil, List.nil_append, List.cons_append, List.set_cons_succ, List.set_cons_zero, List.getElem?_cons_succ, List.getElem?_cons_zero, Option.getD_some, Option.map_some, Option.map_none, List.map_cons, List.map_nil, if_true, Bool.not_true, Bool.not_false, Bool.false_eq_true, if_false, va_load, va_ld, va_loadA, va_ldA, va_store, va_st1, va_stn, va_kill0, va_killS, va_box1, va_boxA, get_base, get_base0, set_base, set_base0, List.length_append, Nat.reduceAdd, Nat.zero_add, List.append_assoc, vo_s2b, vo_minmax, va_min2, va_max2, va_minl, List.drop_zero, List.drop_succ_cons, List.take_succ_cons, List.take_zero, vdr_nil, vdr_cons, vdr_op, vdr_some, vdr_loud, vdr_lsome, HOp.looks, vholds_cons, vholds_nil, implies_true, true_and, and_true, vres_tmp, vres_tmp2, vres_none, vres_cell1, vres_k, vres_cell2, vres_k2, vend_ret, vend_normal, vex_some, vdr_guard, vdg_tt, vdg_ff, vdg_tf, vdg_ft, vdg_no, vo_pick, va_s2b, va_takeS, va_takeN, va_app, va_apB, va_ap0, vsadd, Nat.reduceEqDiff]
    refine ⟨_, [], rfl, rfl, ?_⟩
    rw [if_neg hc0]
    exact ⟨rfl, by simp [HL.pickT]⟩
  have hc0 : c = 0 := of_decide_eq_true hbc
  rw [hc0]
  simp -implicitDefEqProofs (disch := first | omega | decide | exact rfl | exact Nat.le_of_ble_eq_true rfl | assumption | (simp only [List.length_append, List.length_cons, List.length_nil, List.drop_zero, List.length_drop] <;> omega)) only [vwp_skip, vwp_ret, vwp_exit, vwp_lab, vwp_seq, vwp_cond, vwp_block, vwp_scope, vwp_region, vwp_draw, vwp_loop, vwp_range, vcnd_tt, vcnd_ff, vthen_normal, vthen_ret, vthen_exit, vblock_normal, vblock_ret, vblock_exit, vreg_nil, vreg_cons, vhl_nil, vhl_op, vhl_guard, vguard_tt, vguard_ff, vguard_tf, vguard_ft, vguard_no, vact_op, vop_some, vput_some, vput_none, vsame_sm, vunit_sm, vget_nil, vget_cons, vget_some,
    vo_mv, vo_bin, vo_un, vo_ext, vo_len, vo_idxS, vo_idxStr, vo_load, vo_pick, vo_append, vo_bslice, evp, vo_nilc, vo_faddr, vo_store, vo_sliceSl, vo_sliceStr, vo_cInt, vo_copy, vo_mkSlice, vo_box, vo_build, vo_b2s, vb2s_sl, vb2s_nil, vcInt, vnil_ptr, vo_mkMap, vo_mkfn, vo_lookup, vo_mapUpd, vo_del, vdel_some, vo_rangeMap, vo_entry, vfaddr_ptr, beq_self_eq_true, eq_self, decide_true, decide_false, vb_lss, vb_leq, vb_gtr, vb_geq, vb_eql, vb_neq, vb_seql, vb_sneq, vb_beql, vb_bneq, vun_not, vlen_str, vlen_sl, vlen_nil, vext_tup, HX.ev, List.length_cons, List.length_nil, List.append_nil, List.nil_append, List.cons_append, List.set_cons_succ, List.set_cons_zero, List.getElem?_cons_succ, List.getElem?_cons_zero, Option.getD_some, Option.map_some, Option.map_none, List.map_cons, List.map_nil, if_true, Bool.not_true, Bool.not_false, Bool.false_eq_true, if_false, va_load, va_ld, va_loadA, va_ldA, va_store, va_st1, va_stn, va_kill0, va_killS, va_box1, va_boxA, get_base, get_base0, set_base, set_base0, List.length_append, Nat.reduceAdd, Nat.zero_add, List.append_assoc, vo_s2b, vo_minmax, va_min2, va_max2, va_minl, List.drop_zero, List.drop_succ_cons, List.take_succ_cons, List.take_zero, vdr_nil, vdr_cons, vdr_op, vdr_some, vdr_loud, vdr_lsome, HOp.looks, vholds_cons, vholds_nil, implies_true, true_and, and_true, vres_tmp, vres_tmp2, vres_none, vres_cell1, vres_k, vres_cell2, vres_k2, vend_ret, vend_normal, vex_some, vdr_guard, vdg_tt, vdg_ff, vdg_tf, vdg_ft, vdg_no, vo_pick, va_s2b, va_takeS, va_takeN, va_app, va_apB, va_ap0, vsadd, Nat.reduceEqDiff]
  refine vcall_of ok35 rfl (word35 k _) ?_
  rintro _ _ ⟨rfl, rfl⟩
  rw [hc] at hc0
  have hok : wordL k ≠ [] ∧ idB k id = true ∧ numB k num = true ∧ tubeB k t = true ∧ bodyB k b.length = true := by
    unfold checkF at hc0
    split at hc0
    · simp at hc0
    · rename_i hw
      split at hc0
      · rename_i hh
        simp only [Bool.and_eq_true] at hh
        exact ⟨hw, hh.1.1.1, hh.1.1.2, hh.1.2, hh.2⟩
      · simp at hc0
  obtain ⟨q1, q2, q3, q4, q5⟩ := hok
  have wl := word_len k
  have il := pr_len hid.2
  have nl := pr_len hnum.2
  have bl2 := body_len q5
  have bl := pr_len (n := ((b.length : Nat) : Int)) (by omega)
  have w0 : (wordL k).length ≠ 0 := fun e => q1 (List.eq_nil_of_length_eq_zero e)
  have p1 := fun L => print38 (ht L) id hid.1 hid.2
  have p2 := fun L => print38 (ht L) num hnum.1 hnum.2
  have p3 := fun L => print38 (ht L) ((b.length : Nat) : Int) (by omega) (by omega)
  clear hbc hc q1 q2 q3 q4 q5
  have p4 := fun L => print38 (ht L) 0 (by omega) (by omega)
  have zl := pr_len (n := 0) (by omega)
  by_cases hb0 : b.length = 0
  all_goals
    repeat' first
      | simp -implicitDefEqProofs (disch := first | omega | decide | exact rfl | exact Nat.le_of_ble_eq_true rfl | assumption | (simp only [List.length_append, List.length_cons, List.length_nil, List.drop_zero, List.length_drop] <;> omega)) only [vwp_skip, vwp_ret, vwp_exit, vwp_lab, vwp_seq, vwp_cond, vwp_block, vwp_scope, vwp_region, vwp_draw, vwp_loop, vwp_range, vcnd_tt, vcnd_ff, vthen_normal, vthen_ret, vthen_exit, vblock_normal, vblock_ret, vblock_exit, vreg_nil, vreg_cons, vhl_nil, vhl_op, vhl_guard, vguard_tt, vguard_ff, vguard_tf, vguard_ft, vguard_no, vact_op, vop_some, vput_some, vput_none, vsame_sm, vunit_sm, vget_nil, vget_cons, vget_some,
    vo_mv, vo_bin, vo_un, vo_ext, vo_len, vo_idxS, vo_idxStr, vo_load, vo_pick, vo_append, vo_bslice, evp, vo_nilc, vo_faddr, vo_store, vo_sliceSl, vo_sliceStr, vo_cInt, vo_copy, vo_mkSlice, vo_box, vo_build, vo_b2s, vb2s_sl, vb2s_nil, vcInt, vnil_ptr, vo_mkMap, vo_mkfn, vo_lookup, vo_mapUpd, vo_del, vdel_some, vo_rangeMap, vo_entry, vfaddr_ptr, beq_self_eq_true, eq_self, decide_true, decide_false, vb_lss, vb_leq, vb_gtr, vb_geq, vb_eql, vb_neq, vb_seql, vb_sneq, vb_beql, vb_bneq, vun_not, vlen_str, vlen_sl, vlen_nil, vext_tup, HX.ev, List.length_cons, List.length_nil, List.append_nil, List.nil_append, List.cons_append, List.set_cons_succ, List.set_cons_zero, List.getElem?_cons_succ, List.getElem?_cons_zero, Option.getD_some, Option.map_some, Option.map_none, List.map_cons, List.map_nil, if_true, Bool.not_true, Bool.not_false, Bool.false_eq_true, if_false, va_load, va_ld, va_loadA, va_ldA, va_store, va_st1, va_stn, va_kill0, va_killS, va_box1, va_boxA, get_base, get_base0, set_base, set_base0, List.length_append, Nat.reduceAdd, Nat.zero_add, List.append_assoc, vo_s2b, vo_minmax, va_min2, va_max2, va_minl, List.drop_zero, List.drop_succ_cons, List.take_succ_cons, List.take_zero, vdr_nil, vdr_cons, vdr_op, vdr_some, vdr_loud, vdr_lsome, HOp.looks, vholds_cons, vholds_nil, implies_true, true_and, and_true, vres_tmp, vres_tmp2, vres_none, vres_cell1, vres_k, vres_cell2, vres_k2, vend_ret, vend_normal, vex_some, vdr_guard, vdg_tt, vdg_ff, vdg_tf, vdg_ft, vdg_no, vo_pick, va_s2b, va_takeS, va_takeN, va_app, va_apB, va_ap0, vsadd, Nat.reduceEqDiff, *]
      | refine condK_cases (fun h => ?_) (fun h => ?_)
      | refine guardK_cases (fun h => ?_) (fun h => ?_)
      | refine dgK_cases (fun h => ?_) (fun h => ?_)
      | (refine vcall_of ok38 rfl (p1 _) ?_; rintro _ _ ⟨rfl, rfl⟩)
      | (refine vdr_call ok38 rfl (p1 _) ?_; rintro _ _ ⟨rfl, rfl⟩)
      | (refine vcall_of ok38 rfl (p2 _) ?_; rintro _ _ ⟨rfl, rfl⟩)
      | (refine vdr_call ok38 rfl (p2 _) ?_; rintro _ _ ⟨rfl, rfl⟩)
      | (refine vcall_of ok38 rfl (p3 _) ?_; rintro _ _ ⟨rfl, rfl⟩)
      | (refine vdr_call ok38 rfl (p3 _) ?_; rintro _ _ ⟨rfl, rfl⟩)
      | (refine vcall_of ok38 rfl (p4 _) ?_; rintro _ _ ⟨rfl, rfl⟩)
      | (refine vdr_call ok38 rfl (p4 _) ?_; rintro _ _ ⟨rfl, rfl⟩)
      | refine hwp_draw mixed rfl ?_

  all_goals
    first
    | refine leaf12 (j := 2) rfl ?_ ?_ ?_
    | refine leaf12 (j := 3) rfl ?_ ?_ ?_
    | refine leaf12 (j := 4) rfl ?_ ?_ ?_
    | refine leaf12 (j := 5) rfl ?_ ?_ ?_
    | trace_state
    · simp
    · clear hb ht p1 p2 p3 p4 hl
      simp_all [putF]
    · simp only [List.length_append, List.length_cons, List.length_nil]
      try omega
end A
end Go.Proofs.YthihchoccpnfeaaDoor
namespace Go.Proofs.YthihchoccpnfeaaDoor
open Go Go.HL Go.Shelf V
namespace A
set_option maxRecDepth 100000
set_option linter.unusedSimpArgs false

/-! numbers -/
theorem dec_big {m : Nat} (h : ¬ m < 10) : Lib.decDigits m = Lib.decDigits (m / 10) ++ [UInt8.ofNat (48 + m % 10)] := by rw [Lib.decDigits, dif_neg h]
def isDig (c : UInt8) : Bool := decide (48 ≤ c.toNat) && decide (c.toNat ≤ 57)
def val (l : List UInt8) : Nat := l.foldl (fun a c => 10 * a + (c.toNat - 48)) 0
theorem of48 {d : Nat} (h : d < 10) : (UInt8.ofNat (48 + d)).toNat = 48 + d := by
  have : (UInt8.ofNat (48 + d)).toNat = (48 + d) % 256 := rfl
  omega
/-! what stands behind the word -/
def tailF (k id num : Int) (t b : List UInt8) : List UInt8 :=
  if k = 3 ∨ k = 12 then 32 :: (ansPr id ++ 32 :: (ansPr (b.length : Nat) ++ 13 :: 10 :: (b ++ [13, 10])))
  else if k = 16 then 32 :: (ansPr (b.length : Nat) ++ 13 :: 10 :: (b ++ [13, 10]))
  else if k = 1 then 32 :: (ansPr id ++ 13 :: [10])
  else if k = 2 then 32 :: (t ++ 13 :: [10])
  else if k = 10 ∨ k = 13 then 32 :: (ansPr num ++ 13 :: [10])
  else 13 :: [10]
theorem put_eq (k id num : Int) (t b : List UInt8) : putF k id num t b = wordL k ++ tailF k id num t b := by
  unfold putF tailF
  repeat' split
  all_goals simp
def delim (k : Int) : UInt8 := if k = 3 ∨ k = 12 ∨ k = 16 ∨ k = 1 ∨ k = 2 ∨ k = 10 ∨ k = 13 then 32 else 13
theorem tail_eq (k id num : Int) (t b : List UInt8) : ∃ R, tailF k id num t b = delim k :: R := by
  unfold tailF delim
  by_cases h1 : k = 3 ∨ k = 12
  · rw [if_pos h1, if_pos (by omega)]; exact ⟨_, rfl⟩
  by_cases h2 : k = 16
  · rw [if_neg h1, if_pos h2, if_pos (by omega)]; exact ⟨_, rfl⟩
  by_cases h3 : k = 1
  · rw [if_neg h1, if_neg h2, if_pos h3, if_pos (by omega)]; exact ⟨_, rfl⟩
  by_cases h4 : k = 2
  · rw [if_neg h1, if_neg h2, if_neg h3, if_pos h4, if_pos (by omega)]; exact ⟨_, rfl⟩
  by_cases h5 : k = 10 ∨ k = 13
  · rw [if_neg h1, if_neg h2, if_neg h3, if_neg h4, if_pos h5, if_pos (by omega)]; exact ⟨_, rfl⟩
  · rw [if_neg h1, if_neg h2, if_neg h3, if_neg h4, if_neg h5, if_neg (by omega)]; exact ⟨_, rfl⟩
structure May (k id num : Int) (t b : List UInt8) : Prop where
  w : wordL k ≠ []
  id_ : idB k id = true
  num_ : numB k num = true
  t_ : tubeB k t = true
  b_ : bodyB k b.length = true
end A
end Go.Proofs.YthihchoccpnfeaaDoor
namespace Go.Proofs.YthihchoccpnfeaaDoor
open Go Go.HL Go.Shelf V
namespace A
set_option maxRecDepth 100000
set_option linter.unusedSimpArgs false
/-- over a text: how many bytes; did it fail? -/
def txtR : List UInt8 → List UInt8 → Nat × Bool
  | [], _ => (0, false)
  | _ :: _, [] => (0, true)
  | x :: s, c :: r => if c = x then ((txtR s r).1 + 1, (txtR s r).2) else (0, true)
def txtF (b s : List UInt8) (c : Nat × Bool) : Nat × Bool := if c.2 then c else (c.1 + (txtR s (b.drop c.1)).1, (txtR s (b.drop c.1)).2)
/-- over a number: how many bytes, which. -/
def numR (least most : Nat) : List UInt8 → Nat → Bool → Nat × Nat
  | [], n, _ => (0, n)
  | c :: r, n, first => if isDig c = true then
      (if most < 10 * n + (c.toNat - 48) ∨ 10 * n + (c.toNat - 48) < least ∨ (first = false ∧ n = 0) then (0, n)
       else ((numR least most r (10 * n + (c.toNat - 48)) false).1 + 1, (numR least most r (10 * n + (c.toNat - 48)) false).2))
    else (0, n)
def numF (b : List UInt8) (least most : Nat) (c : Nat × Bool) : (Nat × Bool) × Nat :=
  if c.2 then (c, 0) else ((c.1 + (numR least most (b.drop c.1) 0 true).1, (numR least most (b.drop c.1) 0 true).1 == 0), (numR least most (b.drop c.1) 0 true).2)
def nameGo (r : List UInt8) (k : Nat) : Nat := if h : k < r.length ∧ validL (r.take (k + 1)) = true then nameGo r (k + 1) else k
  termination_by r.length - k
def nameF (b : List UInt8) (c : Nat × Bool) : (Nat × Bool) × List UInt8 :=
  if c.2 then (c, []) else ((c.1 + nameGo (b.drop c.1) 0, nameGo (b.drop c.1) 0 == 0), (b.drop c.1).take (nameGo (b.drop c.1) 0))
def bytesF (b : List UInt8) (n : Nat) (c : Nat × Bool) : (Nat × Bool) × List UInt8 :=
  if c.2 then (c, []) else if b.length - c.1 < n then ((b.length, true), []) else ((c.1 + n, false), (b.drop c.1).take n)
/-- a text -/
theorem txtR_le : ∀ (s r : List UInt8), (txtR s r).1 ≤ r.length ∧ (txtR s r).1 ≤ s.length
  | [], r => by simp [txtR]
  | _ :: _, [] => by simp [txtR]
  | x :: s, c :: r => by
    unfold txtR
    have := txtR_le s r
    split
    · simp only [List.length_cons]; omega
    · simp
theorem txtR_ok : ∀ {s r : List UInt8}, (txtR s r).2 = false → (txtR s r).1 = s.length ∧ r = s ++ r.drop s.length
  | [], r, _ => by simp [txtR]
  | _ :: _, [], h => by simp [txtR] at h
  | x :: s, c :: r, h => by
    unfold txtR at h ⊢
    split at h
    · rename_i e
      obtain ⟨h1, h2⟩ := txtR_ok (s := s) (r := r) h
      rw [if_pos e]
      refine ⟨by simp [h1], ?_⟩
      rw [e, List.length_cons, List.drop_succ_cons, List.cons_append, ← h2]
    · cases h
theorem txtR_ext : ∀ {s r t : List UInt8}, (txtR s r).1 < r.length ∨ (txtR s r).2 = false → txtR s (r ++ t) = txtR s r
  | [], r, t, _ => by simp [txtR]
  | _ :: _, [], t, h => by simp [txtR] at h
  | x :: s, c :: r, t, h => by
    rw [List.cons_append]
    unfold txtR at h ⊢
    split
    · rename_i e
      rw [if_pos e] at h
      rw [txtR_ext (s := s) (r := r) (t := t) (by simpa using h)]
    · rfl
/-- numbers -/
theorem numR_le (least most : Nat) : ∀ (r : List UInt8) (n : Nat) (f : Bool), (numR least most r n f).1 ≤ r.length
  | [], n, f => by simp [numR]
  | c :: r, n, f => by
    unfold numR
    have := numR_le least most r (10 * n + (c.toNat - 48)) false
    split
    · split
      · simp
      · simp only [List.length_cons]; omega
    · simp
theorem numR_ext (least most : Nat) : ∀ {r t : List UInt8} {n : Nat} {f : Bool}, (numR least most r n f).1 < r.length → numR least most (r ++ t) n f = numR least most r n f
  | [], t, n, f, h => by simp [numR] at h
  | c :: r, t, n, f, h => by
    rw [List.cons_append]
    unfold numR at h ⊢
    split
    · rename_i e
      rw [if_pos e] at h
      split
      · rfl
      · rename_i e2
        rw [if_neg e2] at h
        rw [numR_ext least most (r := r) (t := t) (by simpa using h)]
    · rfl
theorem dec_next {n : Nat} {c : UInt8} (hn : 1 ≤ n) (hc : isDig c = true) : Lib.decDigits (10 * n + (c.toNat - 48)) = Lib.decDigits n ++ [c] := by
  simp only [isDig, Bool.and_eq_true, decide_eq_true_eq] at hc
  rw [dec_big (by omega), show (10 * n + (c.toNat - 48)) / 10 = n by omega, show (10 * n + (c.toNat - 48)) % 10 = c.toNat - 48 by omega]
  congr 2
  apply UInt8.toNat_inj.1
  rw [of48 (by omega)]; omega
theorem dec_one {c : UInt8} (hc : isDig c = true) : Lib.decDigits (c.toNat - 48) = [c] := by
  simp only [isDig, Bool.and_eq_true, decide_eq_true_eq] at hc
  rw [Lib.decDigits_one (by omega)]
  congr 1
  apply UInt8.toNat_inj.1
  rw [of48 (by omega)]; omega
theorem numR_more (least most : Nat) : ∀ {r : List UInt8} {n k v : Nat}, 1 ≤ n → numR least most r n false = (k, v) → Lib.decDigits v = Lib.decDigits n ++ r.take k ∧ (v = n ∨ (least ≤ v ∧ v ≤ most))
  | [], n, k, v, hn, h => by
    simp only [numR, Prod.mk.injEq] at h
    obtain ⟨rfl, rfl⟩ := h
    simp
  | c :: r, n, k, v, hn, h => by
    unfold numR at h
    split at h
    · rename_i e
      split at h
      · simp only [Prod.mk.injEq] at h
        obtain ⟨rfl, rfl⟩ := h
        simp
      · rename_i e2
        simp only [Prod.mk.injEq] at h
        obtain ⟨rfl, rfl⟩ := h
        obtain ⟨h1, h2⟩ := numR_more least most (r := r) (n := 10 * n + (c.toNat - 48)) (k := _) (v := _) (by omega) rfl
        rw [dec_next hn e] at h1
        refine ⟨by rw [h1]; simp, .inr ?_⟩
        rcases h2 with h2 | h2
        · rw [h2]; omega
        · exact h2
    · simp only [Prod.mk.injEq] at h
      obtain ⟨rfl, rfl⟩ := h
      simp
theorem numR_zero (least most : Nat) (r : List UInt8) : numR least most r 0 false = (0, 0) := by
  cases r with
  | nil => simp [numR]
  | cons c r => unfold numR; split <;> simp
theorem numR_ok {least most : Nat} {r : List UInt8} {k v : Nat} (h : numR least most r 0 true = (k, v)) (hk : k ≠ 0) : Lib.decDigits v = r.take k ∧ least ≤ v ∧ v ≤ most := by
  cases r with
  | nil => simp [numR] at h; omega
  | cons c r =>
    unfold numR at h
    split at h
    · rename_i e
      split at h
      · simp only [Prod.mk.injEq] at h; omega
      · rename_i e2
        simp only [Prod.mk.injEq, Nat.mul_zero, Nat.zero_add] at h e2
        obtain ⟨rfl, rfl⟩ := h
        by_cases hd : c.toNat - 48 = 0
        · rw [hd, numR_zero]
          rw [hd] at e2
          have := dec_one e
          rw [hd] at this
          refine ⟨by simpa using this, by omega, by omega⟩
        · obtain ⟨h1, h2⟩ := numR_more least most (r := r) (n := c.toNat - 48) (k := _) (v := _) (by omega) rfl
          rw [dec_one e] at h1
          refine ⟨by rw [h1]; simp, ?_⟩
          rcases h2 with h2 | h2
          · rw [h2]; omega
          · exact h2
    · simp only [Prod.mk.injEq] at h; omega
end A
end Go.Proofs.YthihchoccpnfeaaDoor
namespace Go.Proofs.YthihchoccpnfeaaDoor
open Go Go.HL Go.Shelf V
namespace A
set_option maxRecDepth 100000
set_option linter.unusedSimpArgs false
/-- an operation of a cursor: goes on, stays once it failed; what it said of a beginning stays if it did not come to the end. -/
structure Op (f : List UInt8 → Nat × Bool → Nat × Bool) : Prop where
  mono : ∀ b c, c.1 ≤ b.length → c.1 ≤ (f b c).1
  le : ∀ b c, c.1 ≤ b.length → (f b c).1 ≤ b.length
  stay : ∀ b c, c.2 = true → f b c = c
  ext : ∀ b t c, c.1 ≤ b.length → (f b c).1 < b.length → f (b ++ t) c = f b c
theorem drop_ext {b t : List UInt8} {k : Nat} (h : k ≤ b.length) : (b ++ t).drop k = b.drop k ++ t := by
  rw [List.drop_append, show k - b.length = 0 by omega, List.drop_zero]
theorem op_txt (s : List UInt8) : Op fun b c => txtF b s c := by
  refine ⟨fun b c h0 => ?_, fun b c h => ?_, fun b c h => ?_, fun b t c h h2 => ?_⟩
  · unfold txtF; split <;> simp
  · unfold txtF
    have := (txtR_le s (b.drop c.1)).1
    rw [List.length_drop] at this
    split
    · exact h
    · simp only; omega
  · unfold txtF; rw [if_pos h]
  · unfold txtF at h2 ⊢
    split
    · rfl
    · rename_i hc
      rw [if_neg hc] at h2
      simp only at h2
      rw [drop_ext h, txtR_ext (.inl (by rw [List.length_drop]; omega))]
theorem txt_ext {b s t : List UInt8} {c : Nat × Bool} (h : c.1 ≤ b.length) (h2 : (txtF b s c).2 = false) : txtF (b ++ t) s c = txtF b s c := by
  unfold txtF at h2 ⊢
  split
  · rfl
  · rename_i hc
    rw [if_neg hc] at h2
    rw [drop_ext h, txtR_ext (.inr h2)]
theorem txt_ok {b s : List UInt8} {c : Nat × Bool} (h2 : (txtF b s c).2 = false) : c.2 = false ∧ (txtF b s c).1 = c.1 + s.length ∧ b.drop c.1 = s ++ b.drop (c.1 + s.length) := by
  unfold txtF at h2 ⊢
  by_cases hc : c.2 = true
  · rw [if_pos hc, hc] at h2; cases h2
  · rw [if_neg hc] at h2 ⊢
    obtain ⟨h3, h4⟩ := txtR_ok h2
    refine ⟨by simpa using hc, by simp only; omega, ?_⟩
    rw [List.drop_drop] at h4
    exact h4
theorem op_num (least most : Nat) : Op fun b c => (numF b least most c).1 := by
  refine ⟨fun b c h0 => ?_, fun b c h => ?_, fun b c h => ?_, fun b t c h h2 => ?_⟩
  · unfold numF; split <;> simp
  · unfold numF
    have := numR_le least most (b.drop c.1) 0 true
    rw [List.length_drop] at this
    split
    · exact h
    · simp only; omega
  · unfold numF; rw [if_pos h]
  · unfold numF at h2 ⊢
    split
    · rfl
    · rename_i hc
      rw [if_neg hc] at h2
      simp only at h2
      rw [drop_ext h, numR_ext least most (by rw [List.length_drop]; omega)]
theorem num_ext {b t : List UInt8} {least most : Nat} {c : Nat × Bool} (h : c.1 ≤ b.length) (h2 : (numF b least most c).1.1 < b.length) : numF (b ++ t) least most c = numF b least most c := by
  unfold numF at h2 ⊢
  split
  · rfl
  · rename_i hc
    rw [if_neg hc] at h2
    simp only at h2
    rw [drop_ext h, numR_ext least most (by rw [List.length_drop]; omega)]
theorem num_ok {b : List UInt8} {least most : Nat} {c : Nat × Bool} (h2 : (numF b least most c).1.2 = false) : c.2 = false ∧ least ≤ (numF b least most c).2 ∧ (numF b least most c).2 ≤ most ∧ (numF b least most c).1.1 = c.1 + (Lib.decDigits (numF b least most c).2).length ∧ b.drop c.1 = Lib.decDigits (numF b least most c).2 ++ b.drop (numF b least most c).1.1 := by
  unfold numF at h2 ⊢
  by_cases hc : c.2 = true
  · rw [if_pos hc] at h2; simp only at h2; rw [hc] at h2; cases h2
  · rw [if_neg hc] at h2 ⊢
    simp only [beq_eq_false_iff_ne] at h2
    have hle := numR_le least most (b.drop c.1) 0 true
    obtain ⟨h3, h4, h5⟩ := numR_ok (k := (numR least most (b.drop c.1) 0 true).1) (v := (numR least most (b.drop c.1) 0 true).2) rfl h2
    refine ⟨by simpa using hc, h4, h5, ?_, ?_⟩
    · simp only; rw [h3, List.length_take]; omega
    · simp only; rw [h3, ← List.drop_drop, List.take_append_drop]
/-- names -/
theorem nameGo_ge (r : List UInt8) (k : Nat) : k ≤ nameGo r k := by
  unfold nameGo
  split
  · have := nameGo_ge r (k + 1); omega
  · exact Nat.le_refl _
  termination_by r.length - k
theorem nameGo_le (r : List UInt8) (k : Nat) (h : k ≤ r.length) : nameGo r k ≤ r.length := by
  unfold nameGo
  split
  · rename_i hc; exact nameGo_le r (k + 1) (by omega)
  · exact h
  termination_by r.length - k
theorem nameGo_valid (r : List UInt8) (k : Nat) (h : k = 0 ∨ validL (r.take k) = true) : nameGo r k = 0 ∨ validL (r.take (nameGo r k)) = true := by
  unfold nameGo
  split
  · rename_i hc; exact nameGo_valid r (k + 1) (.inr hc.2)
  · exact h
  termination_by r.length - k
theorem nameGo_ext (r t : List UInt8) (k : Nat) (h : nameGo r k < r.length) : nameGo (r ++ t) k = nameGo r k := by
  have hk := nameGo_ge r k
  unfold nameGo at h ⊢
  split at h
  · rename_i hc
    rw [dif_pos ⟨by rw [List.length_append]; omega, by rw [List.take_append_of_le_length (by omega)]; exact hc.2⟩, dif_pos hc]
    exact nameGo_ext r t (k + 1) h
  · rename_i hc
    rw [dif_neg hc, dif_neg]
    rintro ⟨h1, h2⟩
    rw [List.take_append_of_le_length (by omega)] at h2
    exact hc ⟨h, h2⟩
  termination_by r.length - k
theorem op_name : Op fun b c => (nameF b c).1 := by
  refine ⟨fun b c h0 => ?_, fun b c h => ?_, fun b c h => ?_, fun b t c h h2 => ?_⟩
  · unfold nameF; split <;> simp
  · unfold nameF
    have := nameGo_le (b.drop c.1) 0 (Nat.zero_le _)
    rw [List.length_drop] at this
    split
    · exact h
    · simp only; omega
  · unfold nameF; rw [if_pos h]
  · unfold nameF at h2 ⊢
    split
    · rfl
    · rename_i hc
      rw [if_neg hc] at h2
      simp only at h2
      rw [drop_ext h, nameGo_ext _ _ _ (by rw [List.length_drop]; omega)]
theorem name_ext {b t : List UInt8} {c : Nat × Bool} (h : c.1 ≤ b.length) (h2 : (nameF b c).1.1 < b.length) : nameF (b ++ t) c = nameF b c := by
  unfold nameF at h2 ⊢
  split
  · rfl
  · rename_i hc
    rw [if_neg hc] at h2
    simp only at h2
    rw [drop_ext h, nameGo_ext _ _ _ (by rw [List.length_drop]; omega), List.take_append_of_le_length (by rw [List.length_drop]; omega)]
theorem name_ok {b : List UInt8} {c : Nat × Bool} (h2 : (nameF b c).1.2 = false) : c.2 = false ∧ validL (nameF b c).2 = true ∧ (nameF b c).1.1 = c.1 + (nameF b c).2.length ∧ b.drop c.1 = (nameF b c).2 ++ b.drop (nameF b c).1.1 := by
  unfold nameF at h2 ⊢
  by_cases hc : c.2 = true
  · rw [if_pos hc] at h2; simp only at h2; rw [hc] at h2; cases h2
  · rw [if_neg hc] at h2 ⊢
    simp only [beq_eq_false_iff_ne] at h2
    have hle := nameGo_le (b.drop c.1) 0 (Nat.zero_le _)
    refine ⟨by simpa using hc, (nameGo_valid (b.drop c.1) 0 (.inl rfl)).resolve_left h2, ?_, ?_⟩
    · simp only; rw [List.length_take]; omega
    · simp only; rw [← List.drop_drop, List.take_append_drop]
/-- bytes -/
theorem op_bytes (n : Nat) : Op fun b c => (bytesF b n c).1 := by
  refine ⟨fun b c h0 => ?_, fun b c h => ?_, fun b c h => ?_, fun b t c h h2 => ?_⟩
  · unfold bytesF
    split
    · exact Nat.le_refl _
    · split
      · exact h0
      · simp
  · unfold bytesF
    split
    · exact h
    · split
      · simp
      · simp only; omega
  · unfold bytesF; rw [if_pos h]
  · unfold bytesF at h2 ⊢
    split
    · rfl
    · rename_i hc
      rw [if_neg hc] at h2
      split at h2
      · simp at h2
      · rename_i h3
        rw [if_neg (by rw [List.length_append]; omega), if_neg h3]
theorem bytes_ext {b t : List UInt8} {n : Nat} {c : Nat × Bool} (h : c.1 ≤ b.length) (h2 : (bytesF b n c).1.1 < b.length) : bytesF (b ++ t) n c = bytesF b n c := by
  unfold bytesF at h2 ⊢
  split
  · rfl
  · rename_i hc
    rw [if_neg hc] at h2
    split at h2
    · simp at h2
    · rename_i h3
      rw [if_neg (by rw [List.length_append]; omega), if_neg h3, drop_ext h, List.take_append_of_le_length (by rw [List.length_drop]; omega)]
theorem bytes_ok {b : List UInt8} {n : Nat} {c : Nat × Bool} (h : c.1 ≤ b.length) (h2 : (bytesF b n c).1.2 = false) : c.2 = false ∧ (bytesF b n c).2.length = n ∧ (bytesF b n c).1.1 = c.1 + n ∧ b.drop c.1 = (bytesF b n c).2 ++ b.drop (c.1 + n) := by
  unfold bytesF at h2 ⊢
  by_cases hc : c.2 = true
  · rw [if_pos hc] at h2; simp only at h2; rw [hc] at h2; cases h2
  · rw [if_neg hc] at h2 ⊢
    split at h2
    · cases h2
    · rename_i h3
      rw [if_neg h3]
      refine ⟨by simpa using hc, by simp; omega, rfl, ?_⟩
      rw [← List.drop_drop, List.take_append_drop]
end A
end Go.Proofs.YthihchoccpnfeaaDoor
namespace Go.Proofs.YthihchoccpnfeaaDoor
open Go Go.HL Go.Shelf V
namespace A
set_option maxRecDepth 100000
set_option linter.unusedSimpArgs false
structure Fm where
  c : Nat × Bool
  id : Nat
  num : Nat
  tube : List UInt8
  body : List UInt8
def mostN (k : Int) : Nat := if k = 16 then 4294967295 else 65535
theorem mostN_eq (k : Int) : mostI k = (mostN k : Nat) := by unfold mostI mostN; split <;> rfl
def numberF (b : List UInt8) (least most : Nat) (c : Nat × Bool) : (Nat × Bool) × Nat := numF b least most (txtF b [32] c)
/-- a number of bytes, and the bytes. -/
def sizedF (k : Int) (b : List UInt8) (c : Nat × Bool) : (Nat × Bool) × List UInt8 := bytesF b (numberF b 0 (mostN k) c).2 (txtF b [13, 10] (numberF b 0 (mostN k) c).1)
def fieldsF (k : Int) (b : List UInt8) (c : Nat × Bool) : Fm :=
  if k = 3 ∨ k = 12 then ⟨(sizedF k b (numberF b 1 1099511627776 c).1).1, (numberF b 1 1099511627776 c).2, 0, [], (sizedF k b (numberF b 1 1099511627776 c).1).2⟩
  else if k = 16 then ⟨(sizedF k b c).1, 0, 0, [], (sizedF k b c).2⟩
  else if k = 1 then ⟨(numberF b 1 1099511627776 c).1, (numberF b 1 1099511627776 c).2, 0, [], []⟩
  else if k = 2 then ⟨(nameF b (txtF b [32] c)).1, 0, 0, (nameF b (txtF b [32] c)).2, []⟩
  else if k = 10 ∨ k = 13 then ⟨(numberF b 0 4294967295 c).1, 0, (numberF b 0 4294967295 c).2, [], []⟩
  else ⟨c, 0, 0, [], []⟩
def formF (k : Int) (b : List UInt8) : Fm := { fieldsF k b (txtF b (wordL k) (0, false)) with c := txtF b [13, 10] (fieldsF k b (txtF b (wordL k) (0, false))).c }
theorem op_number (least most : Nat) : Op fun b c => (numberF b least most c).1 := by
  refine ⟨fun b c h0 => ?_, fun b c h => ?_, fun b c h => ?_, fun b t c h h2 => ?_⟩
  · exact Nat.le_trans ((op_txt [32]).mono b c h0) ((op_num least most).mono b _ ((op_txt [32]).le b c h0))
  · exact (op_num least most).le b _ ((op_txt [32]).le b c h)
  · unfold numberF
    rw [(op_txt [32]).stay b c h]
    exact (op_num least most).stay b c h
  · have h3 := (op_txt [32]).le b c h
    have h4 := (op_num least most).mono b _ h3
    unfold numberF at h2 ⊢
    try simp only at h4 h2
    rw [(op_txt [32]).ext b t c h (by first | omega | (simp only; omega))]
    exact (op_num least most).ext b t _ h3 h2
theorem number_ext {b t : List UInt8} {least most : Nat} {c : Nat × Bool} (h : c.1 ≤ b.length) (h2 : (numberF b least most c).1.1 < b.length) : numberF (b ++ t) least most c = numberF b least most c := by
  have h3 := (op_txt [32]).le b c h
  have h4 := (op_num least most).mono b _ h3
  unfold numberF at h2 ⊢
  try simp only at h4 h2
  rw [(op_txt [32]).ext b t c h (by first | omega | (simp only; omega))]
  exact num_ext h3 h2
theorem op_sized (k : Int) : Op fun b c => (sizedF k b c).1 := by
  refine ⟨fun b c h0 => ?_, fun b c h => ?_, fun b c h => ?_, fun b t c h h2 => ?_⟩
  · have h1 := (op_number 0 (mostN k)).mono b c h0
    have h2 := (op_number 0 (mostN k)).le b c h0
    have h3 := (op_txt [13, 10]).mono b _ h2
    have h4 := (op_txt [13, 10]).le b _ h2
    exact Nat.le_trans h1 (Nat.le_trans h3 ((op_bytes _).mono b _ h4))
  · exact (op_bytes _).le b _ ((op_txt [13, 10]).le b _ ((op_number 0 (mostN k)).le b c h))
  · have e1 : (numberF b 0 (mostN k) c).1 = c := (op_number 0 (mostN k)).stay b c h
    unfold sizedF
    rw [e1, (op_txt [13, 10]).stay b c h]
    exact (op_bytes _).stay b c h
  · have h3 := (op_number 0 (mostN k)).le b c h
    have h4 := (op_txt [13, 10]).mono b _ h3
    have h5 := (op_txt [13, 10]).le b _ h3
    have h6 := (op_bytes (numberF b 0 (mostN k) c).2).mono b _ h5
    unfold sizedF at h2 ⊢
    try simp only at h4 h6 h2
    rw [number_ext h (by omega), (op_txt [13, 10]).ext b t _ h3 (by first | omega | (simp only; omega))]
    exact (op_bytes _).ext b t _ h5 h2
theorem sized_ext {k : Int} {b t : List UInt8} {c : Nat × Bool} (h : c.1 ≤ b.length) (h2 : (sizedF k b c).1.1 < b.length) : sizedF k (b ++ t) c = sizedF k b c := by
  have h3 := (op_number 0 (mostN k)).le b c h
  have h4 := (op_txt [13, 10]).mono b _ h3
  have h5 := (op_txt [13, 10]).le b _ h3
  have h6 := (op_bytes (numberF b 0 (mostN k) c).2).mono b _ h5
  unfold sizedF at h2 ⊢
  try simp only at h4 h6 h2
  rw [number_ext h (by omega), (op_txt [13, 10]).ext b t _ h3 (by first | omega | (simp only; omega))]
  exact bytes_ext h5 h2
theorem op_fields (k : Int) : Op fun b c => (fieldsF k b c).c := by
  unfold fieldsF
  by_cases c1 : k = 3 ∨ k = 12
  · simp only [if_pos c1]
    refine ⟨fun b c h0 => ?_, fun b c h => ?_, fun b c h => ?_, fun b t c h h2 => ?_⟩
    · exact Nat.le_trans ((op_number 1 1099511627776).mono b c h0) ((op_sized k).mono b _ ((op_number 1 1099511627776).le b c h0))
    · exact (op_sized k).le b _ ((op_number 1 1099511627776).le b c h)
    · have e := (op_number 1 1099511627776).stay b c h
      try simp only at e
      rw [e]
      exact (op_sized k).stay b c h
    · have h3 := (op_number 1 1099511627776).le b c h
      have h4 := (op_sized k).mono b _ h3
      try simp only at h4 h2
      rw [number_ext h (by first | omega | (simp only; omega))]
      exact (op_sized k).ext b t _ h3 h2
  · by_cases c2 : k = 16
    · simp only [if_neg c1, if_pos c2]; exact op_sized k
    · by_cases c3 : k = 1
      · simp only [if_neg c1, if_neg c2, if_pos c3]; exact op_number _ _
      · by_cases c4 : k = 2
        · simp only [if_neg c1, if_neg c2, if_neg c3, if_pos c4]
          refine ⟨fun b c h0 => ?_, fun b c h => ?_, fun b c h => ?_, fun b t c h h2 => ?_⟩
          · exact Nat.le_trans ((op_txt [32]).mono b c h0) (op_name.mono b _ ((op_txt [32]).le b c h0))
          · exact op_name.le b _ ((op_txt [32]).le b c h)
          · have e := (op_txt [32]).stay b c h
            try simp only at e
            rw [e]
            exact op_name.stay b c h
          · have h3 := (op_txt [32]).le b c h
            have h4 := op_name.mono b _ h3
            try simp only at h4 h2
            rw [(op_txt [32]).ext b t c h (by first | omega | (simp only; omega))]
            exact op_name.ext b t _ h3 h2
        · by_cases c5 : k = 10 ∨ k = 13
          · simp only [if_neg c1, if_neg c2, if_neg c3, if_neg c4, if_pos c5]; exact op_number _ _
          · simp only [if_neg c1, if_neg c2, if_neg c3, if_neg c4, if_neg c5]
            exact ⟨fun _ _ _ => Nat.le_refl _, fun _ _ h => h, fun _ _ _ => rfl, fun _ _ _ _ _ => rfl⟩
theorem fields_ext {k : Int} {b t : List UInt8} {c : Nat × Bool} (h : c.1 ≤ b.length) (h2 : (fieldsF k b c).c.1 < b.length) : fieldsF k (b ++ t) c = fieldsF k b c := by
  unfold fieldsF at h2 ⊢
  by_cases c1 : k = 3 ∨ k = 12
  · simp only [if_pos c1] at h2 ⊢
    have h3 := (op_number 1 1099511627776).le b c h
    have h4 := (op_sized k).mono b _ h3
    try simp only at h4
    rw [number_ext h (by omega), sized_ext h3 h2]
  · by_cases c2 : k = 16
    · simp only [if_neg c1, if_pos c2] at h2 ⊢
      rw [sized_ext h h2]
    · by_cases c3 : k = 1
      · simp only [if_neg c1, if_neg c2, if_pos c3] at h2 ⊢
        rw [number_ext h h2]
      · by_cases c4 : k = 2
        · simp only [if_neg c1, if_neg c2, if_neg c3, if_pos c4] at h2 ⊢
          have h3 := (op_txt [32]).le b c h
          have h4 := op_name.mono b _ h3
          try simp only at h4
          rw [(op_txt [32]).ext b t c h (by first | omega | (simp only; omega)), name_ext h3 h2]
        · by_cases c5 : k = 10 ∨ k = 13
          · simp only [if_neg c1, if_neg c2, if_neg c3, if_neg c4, if_pos c5] at h2 ⊢
            rw [number_ext h h2]
          · simp only [if_neg c1, if_neg c2, if_neg c3, if_neg c4, if_neg c5]
theorem form_le (k : Int) (b : List UInt8) : (formF k b).c.1 ≤ b.length :=
  (op_txt [13, 10]).le b _ ((op_fields k).le b _ ((op_txt (wordL k)).le b (0, false) (Nat.zero_le _)))
/-- what is said of a beginning stays, if it did not come to the end, or is whole. -/
theorem form_ext {k : Int} {b t : List UInt8} (h : (formF k b).c.1 < b.length ∨ (formF k b).c.2 = false) : formF k (b ++ t) = formF k b := by
  have h0 := (op_txt (wordL k)).le b (0, false) (Nat.zero_le _)
  have h1 := (op_fields k).mono b _ h0
  have h2 := (op_fields k).le b _ h0
  have h3 := (op_txt [13, 10]).mono b _ h2
  try simp only at h0 h1 h2 h3
  unfold formF at h ⊢
  try simp only at h
  have key : (fieldsF k b (txtF b (wordL k) (0, false))).c.1 < b.length ∧ txtF (b ++ t) [13, 10] (fieldsF k b (txtF b (wordL k) (0, false))).c = txtF b [13, 10] (fieldsF k b (txtF b (wordL k) (0, false))).c := by
    rcases h with h | h
    · exact ⟨by omega, (op_txt [13, 10]).ext b t _ h2 h⟩
    · obtain ⟨e1, e2, e3⟩ := txt_ok h
      have := congrArg List.length e3
      simp only [List.length_append, List.length_cons, List.length_nil, List.length_drop] at this
      exact ⟨by omega, txt_ext h2 h⟩
  rw [(op_txt (wordL k)).ext b t (0, false) (Nat.zero_le _) (by first | omega | (simp only; omega)), fields_ext h0 key.1, key.2]
end A
end Go.Proofs.YthihchoccpnfeaaDoor
namespace Go.Proofs.YthihchoccpnfeaaDoor
open Go Go.HL Go.Shelf V
namespace A
set_option maxRecDepth 100000
set_option linter.unusedSimpArgs false
theorem ansPr_nat (n : Nat) : ansPr (n : Nat) = Lib.decDigits n := by
  unfold ansPr; rw [if_neg (by omega), Int.toNat_natCast]
theorem number_ok {b : List UInt8} {least most : Nat} {c : Nat × Bool} (h : (numberF b least most c).1.2 = false) : c.2 = false ∧ least ≤ (numberF b least most c).2 ∧ (numberF b least most c).2 ≤ most ∧
    (numberF b least most c).1.1 = c.1 + (32 :: ansPr ((numberF b least most c).2 : Nat)).length ∧ b.drop c.1 = 32 :: ansPr ((numberF b least most c).2 : Nat) ++ b.drop (numberF b least most c).1.1 := by
  unfold numberF at h ⊢
  obtain ⟨h1, h2, h3, h4, h5⟩ := num_ok h
  obtain ⟨g1, g2, g3⟩ := txt_ok h1
  rw [ansPr_nat]
  refine ⟨g1, h2, h3, by rw [h4, g2]; simp; omega, ?_⟩
  rw [g2] at h5
  rw [g3]
  simp only [List.length_singleton, List.singleton_append, List.cons_append, List.nil_append] at h5 ⊢
  rw [h5]
theorem sized_ok {k : Int} {b : List UInt8} {c : Nat × Bool} (hc : c.1 ≤ b.length) (h : (sizedF k b c).1.2 = false) : c.2 = false ∧ (sizedF k b c).2.length ≤ mostN k ∧
    (sizedF k b c).1.1 = c.1 + (32 :: (ansPr ((sizedF k b c).2.length : Nat) ++ 13 :: 10 :: (sizedF k b c).2)).length ∧ b.drop c.1 = 32 :: (ansPr ((sizedF k b c).2.length : Nat) ++ 13 :: 10 :: ((sizedF k b c).2 ++ b.drop (sizedF k b c).1.1)) := by
  have l1 := (op_number 0 (mostN k)).le b c hc
  have l2 := (op_txt [13, 10]).le b _ l1
  unfold sizedF at h ⊢
  obtain ⟨h1, h2, h3, h4⟩ := bytes_ok l2 h
  obtain ⟨g1, g2, g3⟩ := txt_ok h1
  obtain ⟨k1, _, k3, k4, k5⟩ := number_ok g1
  rw [h2]
  refine ⟨k1, k3, ?_, ?_⟩
  · rw [h3, g2, k4]
    simp only [List.length_cons, List.length_append, List.length_nil, h2]; omega
  · rw [h3, k5, g3]
    rw [g2] at h4 ⊢
    simp only [List.length_cons, List.length_nil, Nat.zero_add, Nat.reduceAdd, List.cons_append, List.nil_append, List.append_assoc] at h4 ⊢
    rw [h4]
/-- what is read is a reply that may be, and its bytes. -/
theorem form_ok {k : Int} {b : List UInt8} (hw : wordL k ≠ []) (h : (formF k b).c.2 = false) :
    checkF k (formF k b).id (formF k b).num (formF k b).tube (formF k b).body.length = 0 ∧ (formF k b).c.1 = (putF k (formF k b).id (formF k b).num (formF k b).tube (formF k b).body).length ∧
    b = putF k (formF k b).id (formF k b).num (formF k b).tube (formF k b).body ++ b.drop (formF k b).c.1 := by
  have l0 := (op_txt (wordL k)).le b (0, false) (Nat.zero_le _)
  obtain ⟨h1, h2, h3⟩ := txt_ok h
  have hcf : ∀ (id num : Int) (t : List UInt8) (n : Nat), idB k id = true → numB k num = true → tubeB k t = true → bodyB k n = true → checkF k id num t n = 0 := by
    intro id num t n a1 a2 a3 a4
    unfold checkF
    rw [if_neg hw, a1, a2, a3, a4]; rfl
  have word : ∀ c, txtF b (wordL k) (0, false) = c → c.2 = false → c.1 = (wordL k).length ∧ b = wordL k ++ b.drop (wordL k).length := by
    intro c e hc
    rw [← e] at hc ⊢
    obtain ⟨_, g2, g3⟩ := txt_ok hc
    simp only [Nat.zero_add, List.drop_zero] at g2 g3
    exact ⟨g2, g3⟩
  have hN : (formF k b).c.1 = (fieldsF k b (txtF b (wordL k) (0, false))).c.1 + 2 := h2
  unfold formF at hN ⊢
  simp only at hN ⊢
  rw [hN, put_eq]
  unfold fieldsF at h1 h3 ⊢
  have id0 : ¬ (k = 3 ∨ k = 12 ∨ k = 1) → idB k (0 : Nat) = true := fun h => by unfold idB; rw [if_neg h]; rfl
  have num0 : ¬ (k = 10 ∨ k = 13) → numB k (0 : Nat) = true := fun h => by unfold numB; rw [if_neg h]; rfl
  have tube0 : k ≠ 2 → tubeB k [] = true := fun h => by unfold tubeB; rw [if_neg h]; rfl
  have body0 : ¬ (k = 3 ∨ k = 12 ∨ k = 16) → bodyB k ([] : List UInt8).length = true := fun h => by unfold bodyB; rw [if_neg h]; rfl
  generalize hc0 : txtF b (wordL k) (0, false) = c0 at *
  by_cases c1 : k = 3 ∨ k = 12
  · simp only [if_pos c1] at h1 h3 ⊢
    have l1 := (op_number 1 1099511627776).le b c0 l0
    obtain ⟨s1, s2, s3, s4⟩ := sized_ok l1 h1
    obtain ⟨n1, n2, n3, n4, n5⟩ := number_ok s1
    obtain ⟨w1, w2⟩ := word c0 rfl n1
    refine ⟨hcf _ _ _ _ ?_ (num0 (by omega)) (tube0 (by omega)) ?_, ?_, ?_⟩
    · unfold idB; rw [if_pos (by omega)]; simp; omega
    · unfold bodyB; rw [if_pos (by omega), mostN_eq]; simp; omega
    · unfold tailF
      rw [if_pos c1, s3, n4, w1]
      simp only [List.length_append, List.length_cons, List.length_nil]; omega
    · rw [s4, h3] at n5
      unfold tailF
      rw [if_pos c1]
      simp only [List.length_cons, List.length_nil, Nat.zero_add, Nat.reduceAdd, List.cons_append, List.nil_append, List.append_assoc, List.append_nil] at n5 ⊢
      rw [w1] at n5
      rw [n5] at w2
      exact w2
  · by_cases c2 : k = 16
    · simp only [if_neg c1, if_pos c2] at h1 h3 ⊢
      obtain ⟨n1, s2, s3, s4⟩ := sized_ok l0 h1
      obtain ⟨w1, w2⟩ := word c0 rfl n1
      refine ⟨hcf _ _ _ _ (id0 (by omega)) (num0 (by omega)) (tube0 (by omega)) ?_, ?_, ?_⟩
      · unfold bodyB; rw [if_pos (by omega), mostN_eq]; simp; omega
      · unfold tailF
        rw [if_neg c1, if_pos c2, s3, w1]
        simp only [List.length_append, List.length_cons, List.length_nil]; omega
      · rw [h3] at s4
        unfold tailF
        rw [if_neg c1, if_pos c2]
        simp only [List.length_cons, List.length_nil, Nat.zero_add, Nat.reduceAdd, List.cons_append, List.nil_append, List.append_assoc] at s4 ⊢
        rw [w1] at s4
        rw [s4] at w2
        exact w2
    · by_cases c3 : k = 1
      · simp only [if_neg c1, if_neg c2, if_pos c3] at h1 h3 ⊢
        obtain ⟨n1, n2, n3, n4, n5⟩ := number_ok h1
        obtain ⟨w1, w2⟩ := word c0 rfl n1
        refine ⟨hcf _ _ _ _ ?_ (num0 (by omega)) (tube0 (by omega)) (body0 (by omega)), ?_, ?_⟩
        · unfold idB; rw [if_pos (by omega)]; simp; omega
        · unfold tailF
          rw [if_neg c1, if_neg c2, if_pos c3, n4, w1]
          simp only [List.length_append, List.length_cons, List.length_nil]; omega
        · rw [h3] at n5
          unfold tailF
          rw [if_neg c1, if_neg c2, if_pos c3]
          simp only [List.length_cons, List.length_nil, Nat.zero_add, Nat.reduceAdd, List.cons_append, List.nil_append, List.append_assoc] at n5 ⊢
          rw [w1] at n5
          rw [n5] at w2
          exact w2
      · by_cases c4 : k = 2
        · simp only [if_neg c1, if_neg c2, if_neg c3, if_pos c4] at h1 h3 ⊢
          obtain ⟨n0, n2, n3, n4⟩ := name_ok h1
          obtain ⟨n1, m2, m3⟩ := txt_ok n0
          obtain ⟨w1, w2⟩ := word c0 rfl n1
          refine ⟨hcf _ _ _ _ (id0 (by omega)) (num0 (by omega)) ?_ (body0 (by omega)), ?_, ?_⟩
          · unfold tubeB; rw [if_pos c4]; exact n2
          · unfold tailF
            rw [if_neg c1, if_neg c2, if_neg c3, if_pos c4, n3, m2, w1]
            simp only [List.length_append, List.length_cons, List.length_nil]; omega
          · rw [h3] at n4
            rw [← m2, n4] at m3
            unfold tailF
            rw [if_neg c1, if_neg c2, if_neg c3, if_pos c4]
            simp only [List.length_cons, List.length_nil, Nat.zero_add, Nat.reduceAdd, List.cons_append, List.nil_append, List.append_assoc] at m3 ⊢
            rw [w1] at m3
            rw [m3] at w2
            exact w2
        · by_cases c5 : k = 10 ∨ k = 13
          · simp only [if_neg c1, if_neg c2, if_neg c3, if_neg c4, if_pos c5] at h1 h3 ⊢
            obtain ⟨n1, n2, n3, n4, n5⟩ := number_ok h1
            obtain ⟨w1, w2⟩ := word c0 rfl n1
            refine ⟨hcf _ _ _ _ (id0 (by omega)) ?_ (tube0 (by omega)) (body0 (by omega)), ?_, ?_⟩
            · unfold numB; rw [if_pos c5]; simp; omega
            · unfold tailF
              rw [if_neg c1, if_neg c2, if_neg c3, if_neg c4, if_pos c5, n4, w1]
              simp only [List.length_append, List.length_cons, List.length_nil]; omega
            · rw [h3] at n5
              unfold tailF
              rw [if_neg c1, if_neg c2, if_neg c3, if_neg c4, if_pos c5]
              simp only [List.length_cons, List.length_nil, Nat.zero_add, Nat.reduceAdd, List.cons_append, List.nil_append, List.append_assoc] at n5 ⊢
              rw [w1] at n5
              rw [n5] at w2
              exact w2
          · simp only [if_neg c1, if_neg c2, if_neg c3, if_neg c4, if_neg c5] at h1 h3 ⊢
            obtain ⟨w1, w2⟩ := word c0 rfl h1
            refine ⟨hcf _ _ _ _ (id0 (by omega)) (num0 (by omega)) (tube0 (by omega)) (body0 (by omega)), ?_, ?_⟩
            · unfold tailF
              rw [if_neg c1, if_neg c2, if_neg c3, if_neg c4, if_neg c5, w1]
              simp only [List.length_append, List.length_cons, List.length_nil]
            · unfold tailF
              rw [if_neg c1, if_neg c2, if_neg c3, if_neg c4, if_neg c5]
              simp only [List.length_cons, List.length_nil, Nat.zero_add, Nat.reduceAdd, List.cons_append, List.nil_append, List.append_assoc] at h3 ⊢
              rw [w1] at h3 ⊢
              rw [h3] at w2
              exact w2
end A
end Go.Proofs.YthihchoccpnfeaaDoor
namespace Go.Proofs.YthihchoccpnfeaaDoor
open Go Go.HL Go.Shelf V
namespace A
set_option maxRecDepth 100000
set_option linter.unusedSimpArgs false
theorem check_all {k id num : Int} {t : List UInt8} {n : Nat} (h : checkF k id num t n = 0) : wordL k ≠ [] ∧ idB k id = true ∧ numB k num = true ∧ tubeB k t = true ∧ bodyB k n = true := by
  unfold checkF at h
  by_cases hw : wordL k = []
  · rw [if_pos hw] at h; simp at h
  · rw [if_neg hw] at h
    by_cases c : (idB k id && numB k num && tubeB k t && bodyB k n) = true
    · simp only [Bool.and_eq_true] at c
      exact ⟨hw, c.1.1.1, c.1.1.2, c.1.2, c.2⟩
    · rw [if_neg c] at h; simp at h
/-- unlike kinds begin in unlike ways. -/
def lead (k : Int) : List UInt8 := wordL k ++ [delim k]
theorem leads_run : ((List.range 24).all fun i => (List.range 24).all fun j => i == 0 || j == 0 || i == j || (List.range 20).any fun p => match (lead (i : Nat))[p]?, (lead (j : Nat))[p]? with
  | some x, some y => !(x == y)
  | _, _ => false) = true := by kernel_rfl
theorem leads {k k' : Int} (h : 1 ≤ k ∧ k ≤ 23) (h' : 1 ≤ k' ∧ k' ≤ 23) (hne : k ≠ k') : ∃ (p : Nat) (x y : UInt8), (lead k)[p]? = some x ∧ (lead k')[p]? = some y ∧ x ≠ y := by
  obtain ⟨i, rfl⟩ := Int.eq_ofNat_of_zero_le (show 0 ≤ k by omega)
  obtain ⟨j, rfl⟩ := Int.eq_ofNat_of_zero_le (show 0 ≤ k' by omega)
  have h1 := List.all_eq_true.1 leads_run i (List.mem_range.2 (by omega))
  have h2 := List.all_eq_true.1 h1 j (List.mem_range.2 (by omega))
  have e1 : (i == 0) = false := by simp; omega
  have e2 : (j == 0) = false := by simp; omega
  have e3 : (i == j) = false := by simp; omega
  rw [e1, e2, e3, Bool.false_or, Bool.false_or, Bool.false_or, List.any_eq_true] at h2
  obtain ⟨p, _, hp⟩ := h2
  split at hp
  · rename_i x y hx hy
    exact ⟨p, x, y, hx, hy, by simpa using hp⟩
  · cases hp
theorem txtR_bad : ∀ {s r : List UInt8} {p : Nat} {x y : UInt8}, s[p]? = some y → r[p]? = some x → x ≠ y → (txtR s r).2 = true ∧ (txtR s r).1 ≤ p
  | [], r, p, x, y, h, _, _ => by simp at h
  | _ :: _, [], p, x, y, _, h, _ => by simp at h
  | a :: s, c :: r, 0, x, y, h1, h2, h3 => by
    simp only [List.getElem?_cons_zero, Option.some.injEq] at h1 h2
    subst h1 h2
    unfold txtR
    rw [if_neg h3]; simp
  | a :: s, c :: r, p + 1, x, y, h1, h2, h3 => by
    rw [List.getElem?_cons_succ] at h1 h2
    have := txtR_bad h1 h2 h3
    unfold txtR
    split
    · exact ⟨this.1, by simp only; omega⟩
    · exact ⟨rfl, by simp⟩
theorem fields_off {k : Int} {b : List UInt8} {c : Nat × Bool} (hd : delim k = 32) (h : (txtF b [32] c).2 = true) : (fieldsF k b c).c = txtF b [32] c := by
  have n : ∀ l m, (numberF b l m c).1 = txtF b [32] c := fun l m => (op_num l m).stay b _ h
  unfold fieldsF
  by_cases c1 : k = 3 ∨ k = 12
  · simp only [if_pos c1, n]
    exact (op_sized k).stay b _ h
  · by_cases c2 : k = 16
    · simp only [if_neg c1, if_pos c2]
      unfold sizedF
      rw [n, (op_txt [13, 10]).stay b _ h]
      exact (op_bytes _).stay b _ h
    · by_cases c3 : k = 1
      · simp only [if_neg c1, if_neg c2, if_pos c3, n]
      · by_cases c4 : k = 2
        · simp only [if_neg c1, if_neg c2, if_neg c3, if_pos c4]
          exact op_name.stay b _ h
        · by_cases c5 : k = 10 ∨ k = 13
          · simp only [if_neg c1, if_neg c2, if_neg c3, if_neg c4, if_pos c5, n]
          · unfold delim at hd
            rw [if_neg (by omega)] at hd
            cases hd
theorem fields_none {k : Int} {b : List UInt8} {c : Nat × Bool} (hd : delim k ≠ 32) : (fieldsF k b c).c = c := by
  unfold delim at hd
  have : ¬ (k = 3 ∨ k = 12 ∨ k = 16 ∨ k = 1 ∨ k = 2 ∨ k = 10 ∨ k = 13) := fun h => hd (if_pos h)
  unfold fieldsF
  rw [if_neg (by omega), if_neg (by omega), if_neg (by omega), if_neg (by omega), if_neg (by omega)]
/-- where one kind is whole, no other one comes as far. -/
theorem other {k k' : Int} {b : List UInt8} (hk : 1 ≤ k ∧ k ≤ 23) (hk' : 1 ≤ k' ∧ k' ≤ 23) (hne : k ≠ k') (hw : wordL k ≠ []) (h : (formF k b).c.2 = false) : (formF k' b).c.2 = true ∧ (formF k' b).c.1 < (formF k b).c.1 := by
  obtain ⟨_, h2, h3⟩ := form_ok hw h
  obtain ⟨R, hR⟩ := tail_eq k (formF k b).id (formF k b).num (formF k b).tube (formF k b).body
  obtain ⟨p, x, y, hx, hy, hxy⟩ := leads hk hk' hne
  have hb : b = lead k ++ (R ++ b.drop (formF k b).c.1) := by
    conv => lhs; rw [h3, put_eq, hR]
    unfold lead; simp
  have hpl := lt_of_get hx
  have hbx : b[p]? = some x := by rw [hb, List.getElem?_append_left hpl]; exact hx
  have hlt : p < (formF k b).c.1 := by
    rw [h2, put_eq, hR, List.length_append, List.length_cons]
    unfold lead at hpl
    rw [List.length_append, List.length_singleton] at hpl
    omega
  have fin : (formF k' b).c.2 = true ∧ (formF k' b).c.1 ≤ p := by
    unfold formF
    simp only
    have hpl' := lt_of_get hy
    unfold lead at hpl' hy
    rw [List.length_append, List.length_singleton] at hpl'
    have stay : ∀ c, txtF b (wordL k') (0, false) = c → c.2 = true → c.1 ≤ p → (txtF b [13, 10] (fieldsF k' b c).c).2 = true ∧ (txtF b [13, 10] (fieldsF k' b c).c).1 ≤ p := by
      intro c _ h1 h2
      have e1 : (fieldsF k' b c).c = c := (op_fields k').stay b c h1
      rw [e1, (op_txt [13, 10]).stay b c h1]
      exact ⟨h1, h2⟩
    have hc : txtF b (wordL k') (0, false) = ((txtR (wordL k') b).1, (txtR (wordL k') b).2) := by
      unfold txtF; simp
    by_cases hp : p < (wordL k').length
    · rw [List.getElem?_append_left hp] at hy
      obtain ⟨q1, q2⟩ := txtR_bad hy hbx hxy
      exact stay _ rfl (by rw [hc]; exact q1) (by rw [hc]; exact q2)
    · obtain rfl : p = (wordL k').length := by omega
      rw [List.getElem?_append_right (Nat.le_refl _), Nat.sub_self, List.getElem?_cons_zero] at hy
      cases hy
      have q2 := (txtR_le (wordL k') b).2
      cases q1 : (txtR (wordL k') b).2 with
      | true => exact stay _ rfl (by rw [hc]; exact q1) (by rw [hc]; exact q2)
      | false =>
        obtain ⟨q3, _⟩ := txtR_ok q1
        rw [hc, q1, q3]
        have bad : ∀ (z : UInt8) (s : List UInt8), z = delim k' → txtF b (z :: s) ((wordL k').length, false) = ((wordL k').length, true) := by
          intro z s hz
          have hd : (b.drop (wordL k').length)[0]? = some x := by rw [List.getElem?_drop]; exact hbx
          obtain ⟨t1, t2⟩ := txtR_bad (s := z :: s) (r := b.drop (wordL k').length) (p := 0) (y := z) rfl hd (by rw [hz]; exact hxy)
          unfold txtF
          rw [if_neg (by simp)]
          simp only
          rw [t1, show (txtR (z :: s) (b.drop (wordL k').length)).1 = 0 by omega]; rfl
        by_cases hd : delim k' = 32
        · have e := bad 32 [] hd.symm
          have e2 := fields_off (k := k') hd (show (txtF b [32] ((wordL k').length, false)).2 = true by rw [e])
          rw [e2, e, (op_txt [13, 10]).stay b _ rfl]
          exact ⟨rfl, Nat.le_refl _⟩
        · rw [fields_none hd]
          have h13 : (13 : UInt8) = delim k' := by
            unfold delim at hd ⊢
            split
            · rename_i hh; rw [if_pos hh] at hd; exact absurd rfl hd
            · rfl
          rw [bad 13 [10] h13]
          exact ⟨rfl, Nat.le_refl _⟩
  exact ⟨fin.1, by omega⟩
end A
end Go.Proofs.YthihchoccpnfeaaDoor
namespace Go.Proofs.YthihchoccpnfeaaDoor
open Go Go.HL Go.Shelf V
namespace A
set_option maxRecDepth 100000
set_option linter.unusedSimpArgs false
def kindsL : List Int := (List.range 23).map fun i => ((i : Nat) : Int) + 1
theorem mem_kinds {k : Int} : k ∈ kindsL ↔ 1 ≤ k ∧ k ≤ 23 := by
  unfold kindsL
  rw [List.mem_map]
  constructor
  · rintro ⟨i, hi, rfl⟩
    have := List.mem_range.1 hi
    omega
  · intro h
    exact ⟨(k - 1).toNat, List.mem_range.2 (by omega), by omega⟩
theorem words_run : ((List.range 24).all fun i => i == 0 || !(wordL (i : Nat) == [])) = true := by kernel_rfl
theorem word_ne {k : Int} (h : 1 ≤ k ∧ k ≤ 23) : wordL k ≠ [] := by
  obtain ⟨i, rfl⟩ := Int.eq_ofNat_of_zero_le (show 0 ≤ k by omega)
  have h1 := List.all_eq_true.1 words_run i (List.mem_range.2 (by omega))
  have e1 : (i == 0) = false := by simp; omega
  rw [e1, Bool.false_or] at h1
  simpa using h1
/-- the kind of which bytes are a whole reply, and more. -/
def firstK (b : List UInt8) : Option Int := kindsL.find? fun k => !(formF k b).c.2
theorem first_some {b : List UInt8} {k : Int} (h : firstK b = some k) : (1 ≤ k ∧ k ≤ 23) ∧ (formF k b).c.2 = false := by
  unfold firstK at h
  exact ⟨mem_kinds.1 (List.mem_of_find?_eq_some h), by simpa using List.find?_some h⟩
theorem first_of {b : List UInt8} {k : Int} (hk : 1 ≤ k ∧ k ≤ 23) (h : (formF k b).c.2 = false) : firstK b = some k := by
  cases hf : firstK b with
  | none =>
    unfold firstK at hf
    have := List.find?_eq_none.1 hf k (mem_kinds.2 hk)
    rw [h] at this
    exact absurd rfl this
  | some k' =>
    obtain ⟨h1, h2⟩ := first_some hf
    by_cases e : k' = k
    · rw [e]
    · have := (other h1 hk e (word_ne h1) h2).1
      rw [h] at this; cases this
theorem first_none {b : List UInt8} (h : firstK b = none) {k : Int} (hk : 1 ≤ k ∧ k ≤ 23) : (formF k b).c.2 = true := by
  unfold firstK at h
  have := List.find?_eq_none.1 h k (mem_kinds.2 hk)
  simpa using this
theorem none_of {b : List UInt8} (h : ∀ k : Int, 1 ≤ k ∧ k ≤ 23 → (formF k b).c.2 = true) : firstK b = none := by
  unfold firstK
  rw [List.find?_eq_none]
  intro k hk
  rw [h k (mem_kinds.1 hk)]; simp
/-- how far they are the beginning of some reply. -/
def farF (b : List UInt8) : Nat → Nat
  | 0 => 0
  | n + 1 => max (farF b n) (formF ((n : Nat) + 1) b).c.1
theorem far_ge {b : List UInt8} {k : Int} : ∀ {n : Nat}, 1 ≤ k → k ≤ (n : Nat) → (formF k b).c.1 ≤ farF b n
  | 0, h1, h2 => by omega
  | n + 1, h1, h2 => by
    unfold farF
    by_cases e : k = ((n : Nat) : Int) + 1
    · rw [e]; exact Nat.le_max_right _ _
    · have := far_ge (b := b) (k := k) (n := n) h1 (by omega)
      omega
theorem far_le (b : List UInt8) : ∀ n, farF b n ≤ b.length
  | 0 => Nat.zero_le _
  | n + 1 => by
    unfold farF
    have := far_le b n
    have := form_le ((n : Nat) + 1) b
    omega
theorem first_ext {b t : List UInt8} {k : Int} (h : firstK b = some k) : firstK (b ++ t) = some k ∧ formF k (b ++ t) = formF k b := by
  obtain ⟨h1, h2⟩ := first_some h
  have e := form_ext (t := t) (.inr h2)
  exact ⟨first_of h1 (by rw [e]; exact h2), e⟩
theorem none_ext {b t : List UInt8} (h : firstK b = none) (h2 : farF b 23 < b.length) : firstK (b ++ t) = none ∧ farF (b ++ t) 23 = farF b 23 := by
  have e : ∀ k : Int, 1 ≤ k ∧ k ≤ 23 → formF k (b ++ t) = formF k b := fun k hk => form_ext (.inl (by
    have := far_ge (b := b) (k := k) (n := 23) hk.1 (by omega)
    omega))
  refine ⟨none_of fun k hk => by rw [e k hk]; exact first_none h hk, ?_⟩
  have : ∀ n, n ≤ 23 → farF (b ++ t) n = farF b n := by
    intro n
    induction n with
    | zero => intro _; rfl
    | succ n ih =>
      intro hn
      unfold farF
      rw [ih (by omega), e _ (by omega)]
  exact this 23 (Nat.le_refl _)
/-- all that is told of bytes; are they wrong; what is left. -/
inductive Dec : List UInt8 → List (Int × Fm) → Bool → List UInt8 → Prop
  | more {b r : List UInt8} {k : Int} {l : List (Int × Fm)} {bad : Bool} : firstK b = some k → Dec (b.drop (formF k b).c.1) l bad r → Dec b ((k, formF k b) :: l) bad r
  | wait {b : List UInt8} : firstK b = none → ¬ farF b 23 < b.length → Dec b [] false b
  | bad {b : List UInt8} : firstK b = none → farF b 23 < b.length → Dec b [] true (b.take (farF b 23 + 1))
theorem Dec.det {b r r' : List UInt8} {l l' : List (Int × Fm)} {x x' : Bool} (h : Dec b l x r) (h' : Dec b l' x' r') : l = l' ∧ x = x' ∧ r = r' := by
  induction h generalizing l' x' r' with
  | more e _ ih =>
    cases h' with
    | more e' h2 =>
      rw [e] at e'; cases e'
      obtain ⟨h3, h4, h5⟩ := ih h2
      exact ⟨by rw [h3], h4, h5⟩
    | wait e' _ => rw [e] at e'; cases e'
    | bad e' _ => rw [e] at e'; cases e'
  | wait e h1 =>
    cases h' with
    | more e' _ => rw [e] at e'; cases e'
    | wait _ _ => exact ⟨rfl, rfl, rfl⟩
    | bad _ h2 => exact absurd h2 h1
  | bad e h1 =>
    cases h' with
    | more e' _ => rw [e] at e'; cases e'
    | wait _ h2 => exact absurd h1 h2
    | bad _ _ => exact ⟨rfl, rfl, rfl⟩
theorem Dec.app_bad {b r t : List UInt8} {l : List (Int × Fm)} {x : Bool} (h : Dec b l x r) (hx : x = true) : Dec (b ++ t) l true r := by
  induction h with
  | more e _ ih =>
    obtain ⟨e1, e2⟩ := first_ext (t := t) e
    rw [← e2]
    refine .more e1 ?_
    rw [e2, drop_ext (form_le _ _)]
    exact ih hx
  | wait e h1 => cases hx
  | bad e h1 =>
    obtain ⟨e1, e2⟩ := none_ext (t := t) e h1
    have := Dec.bad e1 (by rw [e2, List.length_append]; omega)
    rw [e2, List.take_append_of_le_length (by omega)] at this
    exact this
theorem Dec.app {b r t r' : List UInt8} {l l' : List (Int × Fm)} {x x' : Bool} (h : Dec b l x r) (hx : x = false) (h' : Dec (r ++ t) l' x' r') : Dec (b ++ t) (l ++ l') x' r' := by
  induction h with
  | more e _ ih =>
    obtain ⟨e1, e2⟩ := first_ext (t := t) e
    rw [List.cons_append, ← e2]
    refine .more e1 ?_
    rw [e2, drop_ext (form_le _ _)]
    exact ih hx h'
  | wait e h1 => exact h'
  | bad e h1 => cases hx
/-- a reply's bytes. -/
def outF (x : Int × Fm) : List UInt8 := putF x.1 x.2.id x.2.num x.2.tube x.2.body
theorem first_put {b : List UInt8} {k : Int} (h : firstK b = some k) : checkF k (formF k b).id (formF k b).num (formF k b).tube (formF k b).body.length = 0 ∧ (formF k b).c.1 = (outF (k, formF k b)).length ∧ b = outF (k, formF k b) ++ b.drop (formF k b).c.1 := by
  obtain ⟨h1, h2⟩ := first_some h
  exact form_ok (word_ne h1) h2
theorem put_long (k id num : Int) (t b : List UInt8) : 2 ≤ (putF k id num t b).length := by
  unfold putF
  repeat' split
  all_goals simp; try omega
end A
end Go.Proofs.YthihchoccpnfeaaDoor
namespace Go.Proofs.YthihchoccpnfeaaDoor
open Go Go.HL Go.Shelf V
namespace A
set_option maxRecDepth 100000
set_option maxHeartbeats 40000000
set_option linter.unusedSimpArgs false
attribute [local irreducible] pt My Ex Vw Gr GrK each grp exs Sat takeCells happend hbuildSlice hstore hbox hslice hmakeSlice hs2b hcopy HL.unit opC
theorem ok21 : okF Tryd.prog 21 := ⟨_, Tryd.func21, by kernel_rfl, by kernel_rfl⟩
theorem ok22 : okF Tryd.prog 22 := ⟨_, Tryd.func22, by kernel_rfl, by kernel_rfl⟩
theorem ok23 : okF Tryd.prog 23 := ⟨_, Tryd.func23, by kernel_rfl, by kernel_rfl⟩
theorem ok25 : okF Tryd.prog 25 := ⟨_, Tryd.func25, by kernel_rfl, by kernel_rfl⟩
theorem ok26 : okF Tryd.prog 26 := ⟨_, Tryd.func26, by kernel_rfl, by kernel_rfl⟩
theorem ok46 : okF Tryd.prog 46 := ⟨_, Tryd.func46, by kernel_rfl, by kernel_rfl⟩
theorem ok47 : okF Tryd.prog 47 := ⟨_, Tryd.func47, by kernel_rfl, by kernel_rfl⟩
theorem ok57 : okF Tryd.prog 57 := ⟨_, Tryd.func57, by kernel_rfl, by kernel_rfl⟩
theorem ok61 : okF Tryd.prog 61 := ⟨_, Tryd.func61, by kernel_rfl, by kernel_rfl⟩
theorem ok62 : okF Tryd.prog 62 := ⟨_, Tryd.func62, by kernel_rfl, by kernel_rfl⟩
theorem ok63 : okF Tryd.prog 63 := ⟨_, Tryd.func63, by kernel_rfl, by kernel_rfl⟩
theorem ok64 : okF Tryd.prog 64 := ⟨_, Tryd.func64, by kernel_rfl, by kernel_rfl⟩
theorem bc_get {b : List UInt8} {i : Nat} (h : i < b.length) : (bcells b)[i]? = some (.int .u8 (b[i].toNat)) := by simp [bcells, h]
theorem bc_drop (b : List UInt8) (n : Nat) : (bcells b).drop n = bcells (b.drop n) := by simp [bcells, List.map_drop]
theorem bc_take (b : List UInt8) (n : Nat) : (bcells b).take n = bcells (b.take n) := by simp [bcells, List.map_take]
theorem rd_cut {hs : HS} {v : HV} {n : Nat} {b : List UInt8} (R : Rd hs 1 v n (bcells b)) (hn : n = b.length) {lo hi : Nat} {vlo vhi : Option HV} (a : Lo lo vlo) (c : Hi hi n vhi) (h1 : lo ≤ hi) (h2 : hi ≤ n) :
    ∃ v', hslice v vlo vhi none = some v' ∧ Rd hs 1 v' (hi - lo) (bcells ((b.drop lo).take (hi - lo))) := by
  obtain ⟨v', e1, e2⟩ := R.cut a c h1 h2
  rw [Nat.mul_one, Nat.mul_one, bc_drop, bc_take] at e2
  exact ⟨v', e1, e2⟩
theorem u8eq (a b : UInt8) : decide ((a.toNat : Int) = (b.toNat : Int)) = (a == b) := by
  rw [Bool.eq_iff_iff, decide_eq_true_eq, beq_iff_eq]
  exact ⟨fun h => UInt8.toNat_inj.1 (by omega), fun h => by rw [h]⟩
/-- a cursor. -/
def CrP (p : Nat) (bv : HV) (c : Nat × Bool) : SA := pt p (.cells 1 [bv, .int .i64 (c.1 : Nat), .bool c.2] false false [])
theorem txtR_cc (x c : UInt8) (s r : List UInt8) : txtR (x :: s) (c :: r) = if c = x then ((txtR s r).1 + 1, (txtR s r).2) else (0, true) := by rw [txtR]
theorem txtR_cn (x : UInt8) (s : List UInt8) : txtR (x :: s) [] = (0, true) := by rw [txtR]
theorem txtR_n (r : List UInt8) : txtR [] r = (0, false) := by rw [txtR]
theorem numR_c (least most : Nat) (c : UInt8) (r : List UInt8) (n : Nat) (first : Bool) : numR least most (c :: r) n first = if isDig c = true then (if most < 10 * n + (c.toNat - 48) ∨ 10 * n + (c.toNat - 48) < least ∨ (first = false ∧ n = 0) then (0, n) else ((numR least most r (10 * n + (c.toNat - 48)) false).1 + 1, (numR least most r (10 * n + (c.toNat - 48)) false).2)) else (0, n) := by rw [numR]
theorem numR_n (least most n : Nat) (first : Bool) : numR least most [] n first = (0, n) := by rw [numR]
theorem text61 {hs : HS} {l : List SA} {p : Nat} {bv : HV} {b s : List UInt8} {c : Nat × Bool} (H : Sat hs (CrP p bv c :: l)) (R : Rdl l bv b.length (bcells b)) (hc : c.1 ≤ b.length) (hb : b.length < 4611686018427387904) (hs1 : s.length < 1000) :
    HC Tryd.prog 61 [.ptr p 0, .str s] hs fun _ hs' => Sat hs' (CrP p bv (txtF b s c) :: l) := by
  unfold CrP at H ⊢
  obtain ⟨at_, off⟩ := c
  simp only at H hc
  have lb := (R _ H.t).len
  refine HC.wp mixed Tryd.func61 c61 ?_
  first | have f0 := Sat.pf (H) | have f0 := trivial
  first | have f1 := Sat.pf (H.t) | have f1 := trivial
  first | have f2 := Sat.pf (H.t.t) | have f2 := trivial
  first | have f3 := Sat.pf (H.t.t.t) | have f3 := trivial
  first | have f4 := Sat.pf (H.t.t.t.t) | have f4 := trivial
  first | have f5 := Sat.pf (H.t.t.t.t.t) | have f5 := trivial
  repeat' first
    | ((with_reducible show Need _); refine need_of ?_; (first | have f0 := Sat.pf (H) | have f0 := trivial); (first | have f1 := Sat.pf (H.t) | have f1 := trivial); (first | have f2 := Sat.pf (H.t.t) | have f2 := trivial); (first | have f3 := Sat.pf (H.t.t.t) | have f3 := trivial); (first | have f4 := Sat.pf (H.t.t.t.t) | have f4 := trivial); (first | have f5 := Sat.pf (H.t.t.t.t.t) | have f5 := trivial))
    | simp -implicitDefEqProofs (disch := first | omega | decide | exact rfl | assumption | exact Nat.le_of_ble_eq_true rfl | exact One.c | exact One.o) only [vsA, vsB, eq_self, if_true, if_false, implies_true, false_implies, evp, HX.ev, Nat.reduceAdd, HOp.looks, Nat.reduceEqDiff, overw, Nat.reduceBEq, h61, lb, ub61, f0, f1, f2, f3, f4, f5, frame0, List.replicate, Nat.sub]
    | (refine condK_cases (fun h => ?_) (fun h => ?_) <;> (try simp only [h]) <;> (try simp only [athA, ne_eq] at h) <;> (try (exfalso; omega)))
    | (refine guardK_cases (fun h => ?_) (fun h => ?_) <;> (try simp only [h]) <;> (try simp only [athA, ne_eq] at h) <;> (try (exfalso; omega)))
    | (refine dgK_cases (fun h => ?_) (fun h => ?_) <;> (try simp only [h]) <;> (try simp only [athA, ne_eq] at h) <;> (try (exfalso; omega)))
    | (clear H f0 f1 f2 f3 f4 f5; (with_reducible intro v2 hs H); (try simp only [setA, overw, Nat.reduceAdd] at H); refine need ?_)
    | refine opC_K ?_
    | refine opC_D ?_
    | ((with_reducible show opC (unit (hstore _ _ _ _)) _); refine sl_store1 (by with_reducible first | exact H | exact H.p1 | exact H.p2 | exact H.p3 | exact H.p4 | exact H.p5) (Nat.le_of_ble_eq_true rfl) (by first | exact rfl | (simp only [f0, f1, f2, f3, f4, f5]; done) | (simp only [onA, *]; done)) (by first | exact rfl | (simp only [f0, f1, f2, f3, f4, f5]; done) | (simp only [onA, *]; done)) ?_)
    | ((with_reducible show opC (unit (hstore _ _ _ _)) _); refine sl_storeN (by with_reducible first | exact H | exact H.p1 | exact H.p2 | exact H.p3 | exact H.p4 | exact H.p5) rfl (Nat.le_of_ble_eq_true rfl) (by first | exact rfl | (simp only [f0, f1, f2, f3, f4, f5]; done) | (simp only [onA, *]; done)) ?_)
    | refine hwp_draw mixed rfl ?_
    | with_reducible intro hy

  cases off with
  | true =>
    have e : txtF b s (at_, true) = (at_, true) := by unfold txtF; rw [if_pos rfl]
    rw [e]
    refine HW.loopA mixed (fun i : Nat => (.ptr p 0 :: .str s :: .undef :: .undef :: .int .i64 (i : Nat) :: .undef :: .undef :: .undef :: .undef :: .undef :: .undef :: .undef :: .undef :: .undef :: .undef :: .undef :: .undef :: .undef :: .undef :: .undef :: .undef :: .undef :: .undef :: .undef :: .undef :: .undef :: .undef :: .undef :: .undef :: .undef :: .undef :: .undef :: .undef :: .undef :: .undef :: .undef :: .undef :: .undef :: .undef :: .undef :: .undef :: .undef :: .undef :: .undef :: .undef :: .undef :: .undef :: .undef :: .undef :: .undef :: .undef :: .undef :: .undef :: .undef :: [])) (fun _ => pt p (.cells 1 [bv, .int .i64 (at_ : Nat), .bool true] false false []) :: l) (fun i => s.length - i) (fun i => i ≤ s.length) 0 (by omega) (by (repeat first | exact Less.nil | refine Less.undef _ ?_ | refine Less.keep _ ?_)) H ?_
    clear H
    rintro i hs hi H
    first | have f0 := Sat.pf (H) | have f0 := trivial
    first | have f1 := Sat.pf (H.t) | have f1 := trivial
    first | have f2 := Sat.pf (H.t.t) | have f2 := trivial
    first | have f3 := Sat.pf (H.t.t.t) | have f3 := trivial
    first | have f4 := Sat.pf (H.t.t.t.t) | have f4 := trivial
    first | have f5 := Sat.pf (H.t.t.t.t.t) | have f5 := trivial
    repeat' first
      | ((with_reducible show Need _); refine need_of ?_; (first | have f0 := Sat.pf (H) | have f0 := trivial); (first | have f1 := Sat.pf (H.t) | have f1 := trivial); (first | have f2 := Sat.pf (H.t.t) | have f2 := trivial); (first | have f3 := Sat.pf (H.t.t.t) | have f3 := trivial); (first | have f4 := Sat.pf (H.t.t.t.t) | have f4 := trivial); (first | have f5 := Sat.pf (H.t.t.t.t.t) | have f5 := trivial))
      | simp -implicitDefEqProofs (disch := first | omega | decide | exact rfl | assumption | exact Nat.le_of_ble_eq_true rfl | exact One.c | exact One.o) only [vsA, vsB, eq_self, if_true, if_false, implies_true, false_implies, evp, HX.ev, Nat.reduceAdd, HOp.looks, Nat.reduceEqDiff, overw, Nat.reduceBEq, vadd1, ub61, f0, f1, f2, f3, f4, f5]
      | (refine condK_cases (fun h => ?_) (fun h => ?_) <;> (try simp only [h]) <;> (try simp only [athA, ne_eq] at h) <;> (try (exfalso; omega)))
      | (refine guardK_cases (fun h => ?_) (fun h => ?_) <;> (try simp only [h]) <;> (try simp only [athA, ne_eq] at h) <;> (try (exfalso; omega)))
      | (refine dgK_cases (fun h => ?_) (fun h => ?_) <;> (try simp only [h]) <;> (try simp only [athA, ne_eq] at h) <;> (try (exfalso; omega)))
      | (clear H f0 f1 f2 f3 f4 f5; (with_reducible intro v2 hs H); (try simp only [setA, overw, Nat.reduceAdd] at H); refine need ?_)
      | refine opC_K ?_
      | refine opC_D ?_
      | ((with_reducible show opC (unit (hstore _ _ _ _)) _); refine sl_store1 (by with_reducible first | exact H | exact H.p1 | exact H.p2 | exact H.p3 | exact H.p4 | exact H.p5) (Nat.le_of_ble_eq_true rfl) (by first | exact rfl | (simp only [f0, f1, f2, f3, f4, f5]; done) | (simp only [onA, *]; done)) (by first | exact rfl | (simp only [f0, f1, f2, f3, f4, f5]; done) | (simp only [onA, *]; done)) ?_)
      | ((with_reducible show opC (unit (hstore _ _ _ _)) _); refine sl_storeN (by with_reducible first | exact H | exact H.p1 | exact H.p2 | exact H.p3 | exact H.p4 | exact H.p5) rfl (Nat.le_of_ble_eq_true rfl) (by first | exact rfl | (simp only [f0, f1, f2, f3, f4, f5]; done) | (simp only [onA, *]; done)) ?_)
      | refine hwp_draw mixed rfl ?_
      | with_reducible intro hy

    all_goals exact H
  | false =>
    refine HW.loopA mixed (fun i : Nat => (.ptr p 0 :: .str s :: .undef :: .undef :: .int .i64 (i : Nat) :: .undef :: .undef :: .undef :: .undef :: .undef :: .undef :: .undef :: .undef :: .undef :: .undef :: .undef :: .undef :: .undef :: .undef :: .undef :: .undef :: .undef :: .undef :: .undef :: .undef :: .undef :: .undef :: .undef :: .undef :: .undef :: .undef :: .undef :: .undef :: .undef :: .undef :: .undef :: .undef :: .undef :: .undef :: .undef :: .undef :: .undef :: .undef :: .undef :: .undef :: .undef :: .undef :: .undef :: .undef :: .undef :: .undef :: .undef :: .undef :: .undef :: [])) (fun i => pt p (.cells 1 [bv, .int .i64 ((at_ + i : Nat) : Int), .bool false] false false []) :: l) (fun i => s.length - i)
      (fun i => i ≤ s.length ∧ at_ + i ≤ b.length ∧ txtR s (b.drop at_) = ((txtR (s.drop i) (b.drop (at_ + i))).1 + i, (txtR (s.drop i) (b.drop (at_ + i))).2)) 0 ⟨by omega, by omega, by simp⟩ (by (repeat first | exact Less.nil | refine Less.undef _ ?_ | refine Less.keep _ ?_)) H ?_
    clear H
    rintro i hs ⟨hi, ha, he⟩ H
    have fin : txtF b s (at_, false) = (at_ + (txtR s (b.drop at_)).1, (txtR s (b.drop at_)).2) := by unfold txtF; rw [if_neg (by simp)]
    by_cases h : i < s.length
    · have hsd : s.drop i = s[i] :: s.drop (i + 1) := List.drop_eq_getElem_cons h
      have g1 : hindexStr (.str s) (.int .i64 (i : Nat)) = some (.int .u8 (s[i].toNat)) := vidxStr_some (List.getElem?_eq_getElem h)
      by_cases h2 : at_ + i < b.length
      · have hbd : b.drop (at_ + i) = b[at_ + i] :: b.drop (at_ + i + 1) := List.drop_eq_getElem_cons h2
        obtain ⟨q, q1, q2⟩ := (R _ H.t).idx1 (bc_get h2) .i64
        have rb := (R _ H.t).sOk
        rw [hsd, hbd, txtR_cc] at he
        generalize b[at_ + i] = x at *
        generalize s[i] = y at *
        first | have f0 := Sat.pf (H) | have f0 := trivial
        first | have f1 := Sat.pf (H.t) | have f1 := trivial
        first | have f2 := Sat.pf (H.t.t) | have f2 := trivial
        first | have f3 := Sat.pf (H.t.t.t) | have f3 := trivial
        first | have f4 := Sat.pf (H.t.t.t.t) | have f4 := trivial
        first | have f5 := Sat.pf (H.t.t.t.t.t) | have f5 := trivial
        repeat' first
          | ((with_reducible show Need _); refine need_of ?_; (first | have f0 := Sat.pf (H) | have f0 := trivial); (first | have f1 := Sat.pf (H.t) | have f1 := trivial); (first | have f2 := Sat.pf (H.t.t) | have f2 := trivial); (first | have f3 := Sat.pf (H.t.t.t) | have f3 := trivial); (first | have f4 := Sat.pf (H.t.t.t.t) | have f4 := trivial); (first | have f5 := Sat.pf (H.t.t.t.t.t) | have f5 := trivial); (first | have rb := (R _ H.t).sOk | skip))
          | simp -implicitDefEqProofs (disch := first | omega | decide | exact rfl | assumption | exact Nat.le_of_ble_eq_true rfl | exact One.c | exact One.o) only [vsA, vsB, eq_self, if_true, if_false, implies_true, false_implies, evp, HX.ev, Nat.reduceAdd, HOp.looks, Nat.reduceEqDiff, overw, Nat.reduceBEq, lb, g1, q1, q2, rb, vadd1, u8eq, ub61, f0, f1, f2, f3, f4, f5]
          | (refine condK_cases (fun h => ?_) (fun h => ?_) <;> (try simp only [h]) <;> (try simp only [athA, ne_eq] at h) <;> (try (exfalso; omega)))
          | (refine guardK_cases (fun h => ?_) (fun h => ?_) <;> (try simp only [h]) <;> (try simp only [athA, ne_eq] at h) <;> (try (exfalso; omega)))
          | (refine dgK_cases (fun h => ?_) (fun h => ?_) <;> (try simp only [h]) <;> (try simp only [athA, ne_eq] at h) <;> (try (exfalso; omega)))
          | (clear H f0 f1 f2 f3 f4 f5; (with_reducible intro v2 hs H); (try simp only [setA, overw, Nat.reduceAdd] at H); refine need ?_)
          | refine opC_K ?_
          | refine opC_D ?_
          | ((with_reducible show opC (unit (hstore _ _ _ _)) _); refine sl_store1 (by with_reducible first | exact H | exact H.p1 | exact H.p2 | exact H.p3 | exact H.p4 | exact H.p5) (Nat.le_of_ble_eq_true rfl) (by first | exact rfl | (simp only [f0, f1, f2, f3, f4, f5]; done) | (simp only [onA, *]; done)) (by first | exact rfl | (simp only [f0, f1, f2, f3, f4, f5]; done) | (simp only [onA, *]; done)) ?_)
          | ((with_reducible show opC (unit (hstore _ _ _ _)) _); refine sl_storeN (by with_reducible first | exact H | exact H.p1 | exact H.p2 | exact H.p3 | exact H.p4 | exact H.p5) rfl (Nat.le_of_ble_eq_true rfl) (by first | exact rfl | (simp only [f0, f1, f2, f3, f4, f5]; done) | (simp only [onA, *]; done)) ?_)
          | refine hwp_draw mixed rfl ?_
          | with_reducible intro hy

        · rw [if_neg (by assumption)] at he
          rw [fin, he]
          simp only [Nat.zero_add]
          exact H
        · rw [if_pos (by assumption)] at he
          exact ⟨i + 1, _, by omega, ⟨by omega, by omega, by rw [he]; exact Prod.ext (by simp only [Nat.add_assoc, Nat.add_comm 1 i]) rfl⟩, (by (repeat first | exact Less.nil | refine Less.undef _ ?_ | refine Less.keep _ ?_)), Weak.refl _, H⟩
      · have hbd : b.drop (at_ + i) = [] := List.drop_eq_nil_of_le (by omega)
        rw [hsd, hbd, txtR_cn] at he
        first | have f0 := Sat.pf (H) | have f0 := trivial
        first | have f1 := Sat.pf (H.t) | have f1 := trivial
        first | have f2 := Sat.pf (H.t.t) | have f2 := trivial
        first | have f3 := Sat.pf (H.t.t.t) | have f3 := trivial
        first | have f4 := Sat.pf (H.t.t.t.t) | have f4 := trivial
        first | have f5 := Sat.pf (H.t.t.t.t.t) | have f5 := trivial
        repeat' first
          | ((with_reducible show Need _); refine need_of ?_; (first | have f0 := Sat.pf (H) | have f0 := trivial); (first | have f1 := Sat.pf (H.t) | have f1 := trivial); (first | have f2 := Sat.pf (H.t.t) | have f2 := trivial); (first | have f3 := Sat.pf (H.t.t.t) | have f3 := trivial); (first | have f4 := Sat.pf (H.t.t.t.t) | have f4 := trivial); (first | have f5 := Sat.pf (H.t.t.t.t.t) | have f5 := trivial))
          | simp -implicitDefEqProofs (disch := first | omega | decide | exact rfl | assumption | exact Nat.le_of_ble_eq_true rfl | exact One.c | exact One.o) only [vsA, vsB, eq_self, if_true, if_false, implies_true, false_implies, evp, HX.ev, Nat.reduceAdd, HOp.looks, Nat.reduceEqDiff, overw, Nat.reduceBEq, lb, g1, vadd1, ub61, f0, f1, f2, f3, f4, f5]
          | (refine condK_cases (fun h => ?_) (fun h => ?_) <;> (try simp only [h]) <;> (try simp only [athA, ne_eq] at h) <;> (try (exfalso; omega)))
          | (refine guardK_cases (fun h => ?_) (fun h => ?_) <;> (try simp only [h]) <;> (try simp only [athA, ne_eq] at h) <;> (try (exfalso; omega)))
          | (refine dgK_cases (fun h => ?_) (fun h => ?_) <;> (try simp only [h]) <;> (try simp only [athA, ne_eq] at h) <;> (try (exfalso; omega)))
          | (clear H f0 f1 f2 f3 f4 f5; (with_reducible intro v2 hs H); (try simp only [setA, overw, Nat.reduceAdd] at H); refine need ?_)
          | refine opC_K ?_
          | refine opC_D ?_
          | ((with_reducible show opC (unit (hstore _ _ _ _)) _); refine sl_store1 (by with_reducible first | exact H | exact H.p1 | exact H.p2 | exact H.p3 | exact H.p4 | exact H.p5) (Nat.le_of_ble_eq_true rfl) (by first | exact rfl | (simp only [f0, f1, f2, f3, f4, f5]; done) | (simp only [onA, *]; done)) (by first | exact rfl | (simp only [f0, f1, f2, f3, f4, f5]; done) | (simp only [onA, *]; done)) ?_)
          | ((with_reducible show opC (unit (hstore _ _ _ _)) _); refine sl_storeN (by with_reducible first | exact H | exact H.p1 | exact H.p2 | exact H.p3 | exact H.p4 | exact H.p5) rfl (Nat.le_of_ble_eq_true rfl) (by first | exact rfl | (simp only [f0, f1, f2, f3, f4, f5]; done) | (simp only [onA, *]; done)) ?_)
          | refine hwp_draw mixed rfl ?_
          | with_reducible intro hy

        rw [fin, he]
        simp only [Nat.zero_add]
        exact H
    · obtain rfl : i = s.length := by omega
      first | have f0 := Sat.pf (H) | have f0 := trivial
      first | have f1 := Sat.pf (H.t) | have f1 := trivial
      first | have f2 := Sat.pf (H.t.t) | have f2 := trivial
      first | have f3 := Sat.pf (H.t.t.t) | have f3 := trivial
      first | have f4 := Sat.pf (H.t.t.t.t) | have f4 := trivial
      first | have f5 := Sat.pf (H.t.t.t.t.t) | have f5 := trivial
      repeat' first
        | ((with_reducible show Need _); refine need_of ?_; (first | have f0 := Sat.pf (H) | have f0 := trivial); (first | have f1 := Sat.pf (H.t) | have f1 := trivial); (first | have f2 := Sat.pf (H.t.t) | have f2 := trivial); (first | have f3 := Sat.pf (H.t.t.t) | have f3 := trivial); (first | have f4 := Sat.pf (H.t.t.t.t) | have f4 := trivial); (first | have f5 := Sat.pf (H.t.t.t.t.t) | have f5 := trivial))
        | simp -implicitDefEqProofs (disch := first | omega | decide | exact rfl | assumption | exact Nat.le_of_ble_eq_true rfl | exact One.c | exact One.o) only [vsA, vsB, eq_self, if_true, if_false, implies_true, false_implies, evp, HX.ev, Nat.reduceAdd, HOp.looks, Nat.reduceEqDiff, overw, Nat.reduceBEq, vadd1, ub61, f0, f1, f2, f3, f4, f5]
        | (refine condK_cases (fun h => ?_) (fun h => ?_) <;> (try simp only [h]) <;> (try simp only [athA, ne_eq] at h) <;> (try (exfalso; omega)))
        | (refine guardK_cases (fun h => ?_) (fun h => ?_) <;> (try simp only [h]) <;> (try simp only [athA, ne_eq] at h) <;> (try (exfalso; omega)))
        | (refine dgK_cases (fun h => ?_) (fun h => ?_) <;> (try simp only [h]) <;> (try simp only [athA, ne_eq] at h) <;> (try (exfalso; omega)))
        | (clear H f0 f1 f2 f3 f4 f5; (with_reducible intro v2 hs H); (try simp only [setA, overw, Nat.reduceAdd] at H); refine need ?_)
        | refine opC_K ?_
        | refine opC_D ?_
        | ((with_reducible show opC (unit (hstore _ _ _ _)) _); refine sl_store1 (by with_reducible first | exact H | exact H.p1 | exact H.p2 | exact H.p3 | exact H.p4 | exact H.p5) (Nat.le_of_ble_eq_true rfl) (by first | exact rfl | (simp only [f0, f1, f2, f3, f4, f5]; done) | (simp only [onA, *]; done)) (by first | exact rfl | (simp only [f0, f1, f2, f3, f4, f5]; done) | (simp only [onA, *]; done)) ?_)
        | ((with_reducible show opC (unit (hstore _ _ _ _)) _); refine sl_storeN (by with_reducible first | exact H | exact H.p1 | exact H.p2 | exact H.p3 | exact H.p4 | exact H.p5) rfl (Nat.le_of_ble_eq_true rfl) (by first | exact rfl | (simp only [f0, f1, f2, f3, f4, f5]; done) | (simp only [onA, *]; done)) ?_)
        | refine hwp_draw mixed rfl ?_
        | with_reducible intro hy

      rw [List.drop_length, txtR_n] at he
      rw [fin, he]
      simp only [Nat.zero_add]
      exact H
theorem number62 {hs : HS} {l : List SA} {p : Nat} {bv : HV} {b : List UInt8} {c : Nat × Bool} {least most : Nat} (H : Sat hs (CrP p bv c :: l)) (R : Rdl l bv b.length (bcells b)) (hc : c.1 ≤ b.length) (hb : b.length < 4611686018427387904) (hm : most ≤ 1099511627776) (hl : least ≤ 1) :
    HC Tryd.prog 62 [.ptr p 0, .int .i64 (least : Nat), .int .i64 (most : Nat)] hs fun v hs' => v = .int .i64 ((numF b least most c).2 : Nat) ∧ Sat hs' (CrP p bv (numF b least most c).1 :: l) := by
  unfold CrP at H ⊢
  obtain ⟨at_, off⟩ := c
  simp only at H hc
  have lb := (R _ H.t).len
  refine HC.wp mixed Tryd.func62 c62 ?_
  first | have f0 := Sat.pf (H) | have f0 := trivial
  first | have f1 := Sat.pf (H.t) | have f1 := trivial
  first | have f2 := Sat.pf (H.t.t) | have f2 := trivial
  first | have f3 := Sat.pf (H.t.t.t) | have f3 := trivial
  first | have f4 := Sat.pf (H.t.t.t.t) | have f4 := trivial
  first | have f5 := Sat.pf (H.t.t.t.t.t) | have f5 := trivial
  repeat' first
    | ((with_reducible show Need _); refine need_of ?_; (first | have f0 := Sat.pf (H) | have f0 := trivial); (first | have f1 := Sat.pf (H.t) | have f1 := trivial); (first | have f2 := Sat.pf (H.t.t) | have f2 := trivial); (first | have f3 := Sat.pf (H.t.t.t) | have f3 := trivial); (first | have f4 := Sat.pf (H.t.t.t.t) | have f4 := trivial); (first | have f5 := Sat.pf (H.t.t.t.t.t) | have f5 := trivial))
    | simp -implicitDefEqProofs (disch := first | omega | decide | exact rfl | assumption | exact Nat.le_of_ble_eq_true rfl | exact One.c | exact One.o) only [vsA, vsB, eq_self, if_true, if_false, implies_true, false_implies, evp, HX.ev, Nat.reduceAdd, HOp.looks, Nat.reduceEqDiff, overw, Nat.reduceBEq, h62, lb, ub62, f0, f1, f2, f3, f4, f5, frame0, List.replicate, Nat.sub]
    | (refine condK_cases (fun h => ?_) (fun h => ?_) <;> (try simp only [h]) <;> (try simp only [athA, ne_eq] at h) <;> (try (exfalso; omega)))
    | (refine guardK_cases (fun h => ?_) (fun h => ?_) <;> (try simp only [h]) <;> (try simp only [athA, ne_eq] at h) <;> (try (exfalso; omega)))
    | (refine dgK_cases (fun h => ?_) (fun h => ?_) <;> (try simp only [h]) <;> (try simp only [athA, ne_eq] at h) <;> (try (exfalso; omega)))
    | (clear H f0 f1 f2 f3 f4 f5; (with_reducible intro v2 hs H); (try simp only [setA, overw, Nat.reduceAdd] at H); refine need ?_)
    | refine opC_K ?_
    | refine opC_D ?_
    | ((with_reducible show opC (unit (hstore _ _ _ _)) _); refine sl_store1 (by with_reducible first | exact H | exact H.p1 | exact H.p2 | exact H.p3 | exact H.p4 | exact H.p5) (Nat.le_of_ble_eq_true rfl) (by first | exact rfl | (simp only [f0, f1, f2, f3, f4, f5]; done) | (simp only [onA, *]; done)) (by first | exact rfl | (simp only [f0, f1, f2, f3, f4, f5]; done) | (simp only [onA, *]; done)) ?_)
    | ((with_reducible show opC (unit (hstore _ _ _ _)) _); refine sl_storeN (by with_reducible first | exact H | exact H.p1 | exact H.p2 | exact H.p3 | exact H.p4 | exact H.p5) rfl (Nat.le_of_ble_eq_true rfl) (by first | exact rfl | (simp only [f0, f1, f2, f3, f4, f5]; done) | (simp only [onA, *]; done)) ?_)
    | refine hwp_draw mixed rfl ?_
    | with_reducible intro hy

  cases off with
  | true =>
    have e : numF b least most (at_, true) = ((at_, true), 0) := by unfold numF; rw [if_pos rfl]
    rw [e]
    refine HW.loopA mixed (fun _ : Nat => (.ptr p 0 :: .int .i64 (least : Nat) :: .int .i64 (most : Nat) :: .undef :: .undef :: .undef :: .undef :: .int .i64 0 :: .int .i64 (at_ : Nat) :: .undef :: .undef :: .undef :: .undef :: .undef :: .undef :: .undef :: .undef :: .undef :: .undef :: .undef :: .undef :: .undef :: .undef :: .undef :: .undef :: .undef :: .undef :: .undef :: .undef :: .undef :: .undef :: .undef :: .undef :: .undef :: .undef :: .undef :: .undef :: .undef :: .undef :: .undef :: .undef :: .undef :: .undef :: .undef :: .undef :: .undef :: .undef :: .undef :: .undef :: .undef :: .undef :: .undef :: .undef :: .undef :: .undef :: .undef :: .undef :: .undef :: .undef :: .undef :: .undef :: .undef :: .undef :: .undef :: .undef :: .undef :: .undef :: .undef :: .undef :: .undef :: .undef :: .undef :: .undef :: .undef :: .undef :: .undef :: .undef :: .undef :: .undef :: .undef :: .undef :: .undef :: .undef :: .undef :: .undef :: .undef :: .undef :: .undef :: .undef :: .undef :: .undef :: .undef :: .undef :: .undef :: .undef :: .undef :: .undef :: .undef :: .undef :: .undef :: .undef :: .undef :: .undef :: .undef :: .undef :: .undef :: .undef :: .undef :: .undef :: .undef :: .undef :: .undef :: .undef :: .undef :: .undef :: .undef :: [])) (fun _ => pt p (.cells 1 [bv, .int .i64 (at_ : Nat), .bool true] false false []) :: l) (fun i => i) (fun _ => True) 0 trivial (by (repeat first | exact Less.nil | refine Less.undef _ ?_ | refine Less.keep _ ?_)) H ?_
    clear H
    rintro i hs _ H
    first | have f0 := Sat.pf (H) | have f0 := trivial
    first | have f1 := Sat.pf (H.t) | have f1 := trivial
    first | have f2 := Sat.pf (H.t.t) | have f2 := trivial
    first | have f3 := Sat.pf (H.t.t.t) | have f3 := trivial
    first | have f4 := Sat.pf (H.t.t.t.t) | have f4 := trivial
    first | have f5 := Sat.pf (H.t.t.t.t.t) | have f5 := trivial
    repeat' first
      | ((with_reducible show Need _); refine need_of ?_; (first | have f0 := Sat.pf (H) | have f0 := trivial); (first | have f1 := Sat.pf (H.t) | have f1 := trivial); (first | have f2 := Sat.pf (H.t.t) | have f2 := trivial); (first | have f3 := Sat.pf (H.t.t.t) | have f3 := trivial); (first | have f4 := Sat.pf (H.t.t.t.t) | have f4 := trivial); (first | have f5 := Sat.pf (H.t.t.t.t.t) | have f5 := trivial))
      | simp -implicitDefEqProofs (disch := first | omega | decide | exact rfl | assumption | exact Nat.le_of_ble_eq_true rfl | exact One.c | exact One.o) only [vsA, vsB, eq_self, if_true, if_false, implies_true, false_implies, evp, HX.ev, Nat.reduceAdd, HOp.looks, Nat.reduceEqDiff, overw, Nat.reduceBEq, vadd1, ub62, f0, f1, f2, f3, f4, f5]
      | (refine condK_cases (fun h => ?_) (fun h => ?_) <;> (try simp only [h]) <;> (try simp only [athA, ne_eq] at h) <;> (try (exfalso; omega)))
      | (refine guardK_cases (fun h => ?_) (fun h => ?_) <;> (try simp only [h]) <;> (try simp only [athA, ne_eq] at h) <;> (try (exfalso; omega)))
      | (refine dgK_cases (fun h => ?_) (fun h => ?_) <;> (try simp only [h]) <;> (try simp only [athA, ne_eq] at h) <;> (try (exfalso; omega)))
      | (clear H f0 f1 f2 f3 f4 f5; (with_reducible intro v2 hs H); (try simp only [setA, overw, Nat.reduceAdd] at H); refine need ?_)
      | refine opC_K ?_
      | refine opC_D ?_
      | ((with_reducible show opC (unit (hstore _ _ _ _)) _); refine sl_store1 (by with_reducible first | exact H | exact H.p1 | exact H.p2 | exact H.p3 | exact H.p4 | exact H.p5) (Nat.le_of_ble_eq_true rfl) (by first | exact rfl | (simp only [f0, f1, f2, f3, f4, f5]; done) | (simp only [onA, *]; done)) (by first | exact rfl | (simp only [f0, f1, f2, f3, f4, f5]; done) | (simp only [onA, *]; done)) ?_)
      | ((with_reducible show opC (unit (hstore _ _ _ _)) _); refine sl_storeN (by with_reducible first | exact H | exact H.p1 | exact H.p2 | exact H.p3 | exact H.p4 | exact H.p5) rfl (Nat.le_of_ble_eq_true rfl) (by first | exact rfl | (simp only [f0, f1, f2, f3, f4, f5]; done) | (simp only [onA, *]; done)) ?_)
      | refine hwp_draw mixed rfl ?_
      | with_reducible intro hy

    exact ⟨rfl, H⟩
  | false =>
    refine HW.loopA mixed (fun s : Nat × Nat => (.ptr p 0 :: .int .i64 (least : Nat) :: .int .i64 (most : Nat) :: .undef :: .undef :: .undef :: .undef :: .int .i64 (s.2 : Nat) :: .int .i64 (at_ : Nat) :: .undef :: .undef :: .undef :: .undef :: .undef :: .undef :: .undef :: .undef :: .undef :: .undef :: .undef :: .undef :: .undef :: .undef :: .undef :: .undef :: .undef :: .undef :: .undef :: .undef :: .undef :: .undef :: .undef :: .undef :: .undef :: .undef :: .undef :: .undef :: .undef :: .undef :: .undef :: .undef :: .undef :: .undef :: .undef :: .undef :: .undef :: .undef :: .undef :: .undef :: .undef :: .undef :: .undef :: .undef :: .undef :: .undef :: .undef :: .undef :: .undef :: .undef :: .undef :: .undef :: .undef :: .undef :: .undef :: .undef :: .undef :: .undef :: .undef :: .undef :: .undef :: .undef :: .undef :: .undef :: .undef :: .undef :: .undef :: .undef :: .undef :: .undef :: .undef :: .undef :: .undef :: .undef :: .undef :: .undef :: .undef :: .undef :: .undef :: .undef :: .undef :: .undef :: .undef :: .undef :: .undef :: .undef :: .undef :: .undef :: .undef :: .undef :: .undef :: .undef :: .undef :: .undef :: .undef :: .undef :: .undef :: .undef :: .undef :: .undef :: .undef :: .undef :: .undef :: .undef :: .undef :: .undef :: .undef :: [])) (fun s => pt p (.cells 1 [bv, .int .i64 ((at_ + s.1 : Nat) : Int), .bool false] false false []) :: l) (fun s => b.length - s.1)
      (fun s => at_ + s.1 ≤ b.length ∧ s.2 ≤ 1099511627776 ∧ numR least most (b.drop at_) 0 true = ((numR least most (b.drop (at_ + s.1)) s.2 (s.1 == 0)).1 + s.1, (numR least most (b.drop (at_ + s.1)) s.2 (s.1 == 0)).2)) (0, 0) ⟨by omega, by omega, by simp⟩ (by (repeat first | exact Less.nil | refine Less.undef _ ?_ | refine Less.keep _ ?_)) H ?_
    clear H
    rintro ⟨i, n⟩ hs ⟨ha, hn, he⟩ H
    simp only at ha hn he H
    have fin : numF b least most (at_, false) = ((at_ + (numR least most (b.drop at_) 0 true).1, (numR least most (b.drop at_) 0 true).1 == 0), (numR least most (b.drop at_) 0 true).2) := by unfold numF; rw [if_neg (by simp)]
    have eb : decide (((at_ + i : Nat) : Int) = (at_ : Nat)) = (i == 0) := by
      rw [Bool.eq_iff_iff]; simp; omega
    have brk : ∀ hs, Sat hs (pt p (.cells 1 [bv, .int .i64 ((at_ + i : Nat) : Int), .bool (decide (((at_ + i : Nat) : Int) = (at_ : Nat)))] false false []) :: l) → numR least most (b.drop at_) 0 true = (i, n) →
        HV.int .i64 (n : Nat) = HV.int .i64 ((numF b least most (at_, false)).2 : Nat) ∧ Sat hs (pt p (.cells 1 [bv, .int .i64 ((numF b least most (at_, false)).1.1 : Nat), .bool (numF b least most (at_, false)).1.2] false false []) :: l) := by
      intro hs H e
      rw [fin, e]
      rw [eb] at H
      exact ⟨rfl, H⟩
    by_cases h2 : at_ + i < b.length
    · have hbd : b.drop (at_ + i) = b[at_ + i] :: b.drop (at_ + i + 1) := List.drop_eq_getElem_cons h2
      obtain ⟨q, q1, q2⟩ := (R _ H.t).idx1 (bc_get h2) .i64
      have rb := (R _ H.t).sOk
      rw [hbd, numR_c] at he
      generalize b[at_ + i] = x at *
      have hx := x.toNat_lt
      have hmul : hbin .mul none (.int .i64 10) (.int .i64 (n : Nat)) = some (.int .i64 ((10 * n : Nat) : Int)) := by
        have := vwr_i64 (x := ((10 * n : Nat) : Int)) (by omega)
        rw [vb_mul, show (10 : Int) * (n : Nat) = ((10 * n : Nat) : Int) by omega, this]
      by_cases hd : isDig x = true
      · have hd2 : 48 ≤ x.toNat ∧ x.toNat ≤ 57 := by simpa [isDig] using hd
        have hsub : hbin .sub none (.int .u8 (x.toNat : Nat)) (.int .u8 48) = some (.int .u8 ((x.toNat - 48 : Nat) : Int)) := by
          rw [vb_sub]
          have : wr .u8 ((x.toNat : Int) - 48) = ((x.toNat - 48 : Nat) : Int) := by
            simp only [wr]; omega
          rw [this]
        have hcv : hconvInt .i64 (.int .u8 ((x.toNat - 48 : Nat) : Int)) = some (.int .i64 ((x.toNat - 48 : Nat) : Int)) := by
          have := vwr_i64 (x := ((x.toNat - 48 : Nat) : Int)) (by omega)
          simp only [hconvInt, this]
        have hadd : hbin .add none (.int .i64 ((10 * n : Nat) : Int)) (.int .i64 ((x.toNat - 48 : Nat) : Int)) = some (.int .i64 ((10 * n + (x.toNat - 48) : Nat) : Int)) := vaddn (by omega)
        first | have f0 := Sat.pf (H) | have f0 := trivial
        first | have f1 := Sat.pf (H.t) | have f1 := trivial
        first | have f2 := Sat.pf (H.t.t) | have f2 := trivial
        first | have f3 := Sat.pf (H.t.t.t) | have f3 := trivial
        first | have f4 := Sat.pf (H.t.t.t.t) | have f4 := trivial
        first | have f5 := Sat.pf (H.t.t.t.t.t) | have f5 := trivial
        repeat' first
          | ((with_reducible show Need _); refine need_of ?_; (first | have f0 := Sat.pf (H) | have f0 := trivial); (first | have f1 := Sat.pf (H.t) | have f1 := trivial); (first | have f2 := Sat.pf (H.t.t) | have f2 := trivial); (first | have f3 := Sat.pf (H.t.t.t) | have f3 := trivial); (first | have f4 := Sat.pf (H.t.t.t.t) | have f4 := trivial); (first | have f5 := Sat.pf (H.t.t.t.t.t) | have f5 := trivial); (first | have rb := (R _ H.t).sOk | skip))
          | simp -implicitDefEqProofs (disch := first | omega | decide | exact rfl | assumption | exact Nat.le_of_ble_eq_true rfl | exact One.c | exact One.o) only [vsA, vsB, eq_self, if_true, if_false, implies_true, false_implies, evp, HX.ev, Nat.reduceAdd, HOp.looks, Nat.reduceEqDiff, overw, Nat.reduceBEq, lb, q1, q2, rb, vadd1, hmul, hsub, hcv, hadd, ub62, f0, f1, f2, f3, f4, f5]
          | (refine condK_cases (fun h => ?_) (fun h => ?_) <;> (try simp only [h]) <;> (try simp only [athA, ne_eq] at h) <;> (try (exfalso; omega)))
          | (refine guardK_cases (fun h => ?_) (fun h => ?_) <;> (try simp only [h]) <;> (try simp only [athA, ne_eq] at h) <;> (try (exfalso; omega)))
          | (refine dgK_cases (fun h => ?_) (fun h => ?_) <;> (try simp only [h]) <;> (try simp only [athA, ne_eq] at h) <;> (try (exfalso; omega)))
          | (clear H f0 f1 f2 f3 f4 f5; (with_reducible intro v2 hs H); (try simp only [setA, overw, Nat.reduceAdd] at H); refine need ?_)
          | refine opC_K ?_
          | refine opC_D ?_
          | ((with_reducible show opC (unit (hstore _ _ _ _)) _); refine sl_store1 (by with_reducible first | exact H | exact H.p1 | exact H.p2 | exact H.p3 | exact H.p4 | exact H.p5) (Nat.le_of_ble_eq_true rfl) (by first | exact rfl | (simp only [f0, f1, f2, f3, f4, f5]; done) | (simp only [onA, *]; done)) (by first | exact rfl | (simp only [f0, f1, f2, f3, f4, f5]; done) | (simp only [onA, *]; done)) ?_)
          | ((with_reducible show opC (unit (hstore _ _ _ _)) _); refine sl_storeN (by with_reducible first | exact H | exact H.p1 | exact H.p2 | exact H.p3 | exact H.p4 | exact H.p5) rfl (Nat.le_of_ble_eq_true rfl) (by first | exact rfl | (simp only [f0, f1, f2, f3, f4, f5]; done) | (simp only [onA, *]; done)) ?_)
          | refine hwp_draw mixed rfl ?_
          | with_reducible intro hy

        all_goals first
          | exact brk _ H (by rw [he, if_pos hd, if_pos (by first | exact .inl (by omega) | exact .inr (.inl (by omega)) | exact .inr (.inr ⟨by simp; omega, by omega⟩))]; simp)
          | exact ⟨(i + 1, 10 * n + (x.toNat - 48)), _, by simp only; omega, ⟨by simp only; omega, by simp only; omega, by
              rw [he, if_pos hd, if_neg (by rintro (h | h | ⟨h1, h2⟩) <;> first | omega | (simp at h1; omega))]
              exact Prod.ext (by simp only [Nat.add_assoc, Nat.add_comm 1 i]; rfl) rfl⟩, (by (repeat first | exact Less.nil | refine Less.undef _ ?_ | refine Less.keep _ ?_)), Weak.refl _, H⟩
      · have hd2 : ¬ (48 ≤ x.toNat ∧ x.toNat ≤ 57) := by simpa [isDig] using hd
        first | have f0 := Sat.pf (H) | have f0 := trivial
        first | have f1 := Sat.pf (H.t) | have f1 := trivial
        first | have f2 := Sat.pf (H.t.t) | have f2 := trivial
        first | have f3 := Sat.pf (H.t.t.t) | have f3 := trivial
        first | have f4 := Sat.pf (H.t.t.t.t) | have f4 := trivial
        first | have f5 := Sat.pf (H.t.t.t.t.t) | have f5 := trivial
        repeat' first
          | ((with_reducible show Need _); refine need_of ?_; (first | have f0 := Sat.pf (H) | have f0 := trivial); (first | have f1 := Sat.pf (H.t) | have f1 := trivial); (first | have f2 := Sat.pf (H.t.t) | have f2 := trivial); (first | have f3 := Sat.pf (H.t.t.t) | have f3 := trivial); (first | have f4 := Sat.pf (H.t.t.t.t) | have f4 := trivial); (first | have f5 := Sat.pf (H.t.t.t.t.t) | have f5 := trivial); (first | have rb := (R _ H.t).sOk | skip))
          | simp -implicitDefEqProofs (disch := first | omega | decide | exact rfl | assumption | exact Nat.le_of_ble_eq_true rfl | exact One.c | exact One.o) only [vsA, vsB, eq_self, if_true, if_false, implies_true, false_implies, evp, HX.ev, Nat.reduceAdd, HOp.looks, Nat.reduceEqDiff, overw, Nat.reduceBEq, lb, q1, q2, rb, vadd1, ub62, f0, f1, f2, f3, f4, f5]
          | (refine condK_cases (fun h => ?_) (fun h => ?_) <;> (try simp only [h]) <;> (try simp only [athA, ne_eq] at h) <;> (try (exfalso; omega)))
          | (refine guardK_cases (fun h => ?_) (fun h => ?_) <;> (try simp only [h]) <;> (try simp only [athA, ne_eq] at h) <;> (try (exfalso; omega)))
          | (refine dgK_cases (fun h => ?_) (fun h => ?_) <;> (try simp only [h]) <;> (try simp only [athA, ne_eq] at h) <;> (try (exfalso; omega)))
          | (clear H f0 f1 f2 f3 f4 f5; (with_reducible intro v2 hs H); (try simp only [setA, overw, Nat.reduceAdd] at H); refine need ?_)
          | refine opC_K ?_
          | refine opC_D ?_
          | ((with_reducible show opC (unit (hstore _ _ _ _)) _); refine sl_store1 (by with_reducible first | exact H | exact H.p1 | exact H.p2 | exact H.p3 | exact H.p4 | exact H.p5) (Nat.le_of_ble_eq_true rfl) (by first | exact rfl | (simp only [f0, f1, f2, f3, f4, f5]; done) | (simp only [onA, *]; done)) (by first | exact rfl | (simp only [f0, f1, f2, f3, f4, f5]; done) | (simp only [onA, *]; done)) ?_)
          | ((with_reducible show opC (unit (hstore _ _ _ _)) _); refine sl_storeN (by with_reducible first | exact H | exact H.p1 | exact H.p2 | exact H.p3 | exact H.p4 | exact H.p5) rfl (Nat.le_of_ble_eq_true rfl) (by first | exact rfl | (simp only [f0, f1, f2, f3, f4, f5]; done) | (simp only [onA, *]; done)) ?_)
          | refine hwp_draw mixed rfl ?_
          | with_reducible intro hy

        all_goals exact brk _ H (by rw [he, if_neg hd]; simp)
    · have hbd : b.drop (at_ + i) = [] := List.drop_eq_nil_of_le (by omega)
      rw [hbd, numR_n] at he
      first | have f0 := Sat.pf (H) | have f0 := trivial
      first | have f1 := Sat.pf (H.t) | have f1 := trivial
      first | have f2 := Sat.pf (H.t.t) | have f2 := trivial
      first | have f3 := Sat.pf (H.t.t.t) | have f3 := trivial
      first | have f4 := Sat.pf (H.t.t.t.t) | have f4 := trivial
      first | have f5 := Sat.pf (H.t.t.t.t.t) | have f5 := trivial
      repeat' first
        | ((with_reducible show Need _); refine need_of ?_; (first | have f0 := Sat.pf (H) | have f0 := trivial); (first | have f1 := Sat.pf (H.t) | have f1 := trivial); (first | have f2 := Sat.pf (H.t.t) | have f2 := trivial); (first | have f3 := Sat.pf (H.t.t.t) | have f3 := trivial); (first | have f4 := Sat.pf (H.t.t.t.t) | have f4 := trivial); (first | have f5 := Sat.pf (H.t.t.t.t.t) | have f5 := trivial))
        | simp -implicitDefEqProofs (disch := first | omega | decide | exact rfl | assumption | exact Nat.le_of_ble_eq_true rfl | exact One.c | exact One.o) only [vsA, vsB, eq_self, if_true, if_false, implies_true, false_implies, evp, HX.ev, Nat.reduceAdd, HOp.looks, Nat.reduceEqDiff, overw, Nat.reduceBEq, lb, vadd1, ub62, f0, f1, f2, f3, f4, f5]
        | (refine condK_cases (fun h => ?_) (fun h => ?_) <;> (try simp only [h]) <;> (try simp only [athA, ne_eq] at h) <;> (try (exfalso; omega)))
        | (refine guardK_cases (fun h => ?_) (fun h => ?_) <;> (try simp only [h]) <;> (try simp only [athA, ne_eq] at h) <;> (try (exfalso; omega)))
        | (refine dgK_cases (fun h => ?_) (fun h => ?_) <;> (try simp only [h]) <;> (try simp only [athA, ne_eq] at h) <;> (try (exfalso; omega)))
        | (clear H f0 f1 f2 f3 f4 f5; (with_reducible intro v2 hs H); (try simp only [setA, overw, Nat.reduceAdd] at H); refine need ?_)
        | refine opC_K ?_
        | refine opC_D ?_
        | ((with_reducible show opC (unit (hstore _ _ _ _)) _); refine sl_store1 (by with_reducible first | exact H | exact H.p1 | exact H.p2 | exact H.p3 | exact H.p4 | exact H.p5) (Nat.le_of_ble_eq_true rfl) (by first | exact rfl | (simp only [f0, f1, f2, f3, f4, f5]; done) | (simp only [onA, *]; done)) (by first | exact rfl | (simp only [f0, f1, f2, f3, f4, f5]; done) | (simp only [onA, *]; done)) ?_)
        | ((with_reducible show opC (unit (hstore _ _ _ _)) _); refine sl_storeN (by with_reducible first | exact H | exact H.p1 | exact H.p2 | exact H.p3 | exact H.p4 | exact H.p5) rfl (Nat.le_of_ble_eq_true rfl) (by first | exact rfl | (simp only [f0, f1, f2, f3, f4, f5]; done) | (simp only [onA, *]; done)) ?_)
        | refine hwp_draw mixed rfl ?_
        | with_reducible intro hy

      all_goals exact brk _ H (by rw [he]; simp)
end A
end Go.Proofs.YthihchoccpnfeaaDoor
