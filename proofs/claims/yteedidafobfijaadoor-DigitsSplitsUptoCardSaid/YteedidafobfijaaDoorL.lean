/-
  Proved: the law DigitsWords (stintlaw01) returns true at every text (the tied card).
-/
import Derived.Test.YteedidafobfijaaDoorRows
import Derived.Test.YteedidafobfijaaDoorCards
import Derived.Test.YteedidafobfijaaDoorTie
import Derived.Test.YteedidafobfijaaDoorW
import Derived.Test.YteedidafobfijaaDoorHLRow
import Derived.Ground.NamesProg
import Derived.Shelf.Strings.OnBuilder
import Derived.Lib.LaidTab
import Derived.Stop.LaidErr
import Derived.MakeChecks
import Derived.ProofKit
import Derived.LaidMore
import Derived.Lay
import Derived.OpenShut
import Derived.Stop.Joined
import Derived.SevenTiedAt
namespace Go.Proofs
open Go.Shelf
def Tryd.lays156_ren : Go.Shelf.Ren := ⟨fun | 156 => 30 | 165 => 33 | 166 => 34 | 169 => 35 | 240 => 38 | 241 => 39 | 276 => 47 | 277 => 48 | n => n, fun | 31 => 34 | 9 => 9 | 3 => 3 | 4 => 4 | 0 => 0 | 20 => 20 | 72 => 49 | 76 => 53 | 70 => 47 | 37 => 42 | 75 => 52 | 127 => 58 | 164 => 67 | 5 => 5 | 80 => 55 | n => n, fun | n => n⟩
theorem Tryd.lays156 : Go.Proofs.Lays.n156 Tryd.prog Tryd.lays156_ren :=
  { mixed := by kernel_rfl
    f156 := Tryd.func30.trans (congrArg some (by kernel_rfl))
    f165 := Tryd.func33.trans (congrArg some (by kernel_rfl))
    f166 := Tryd.func34.trans (congrArg some (by kernel_rfl))
    f169 := Tryd.func35.trans (congrArg some (by kernel_rfl))
    f240 := Tryd.func38.trans (congrArg some (by kernel_rfl))
    f241 := Tryd.func39.trans (congrArg some (by kernel_rfl))
    f276 := Tryd.func47.trans (congrArg some (by kernel_rfl))
    f277 := Tryd.func48.trans (congrArg some (by kernel_rfl))
    t0 := Tryd.underlying0
    a0 := Tryd.isAgg0
    z0 := Tryd.sizeOf0
    v0 := Tryd.zeroValue0
    t3 := Tryd.underlying3
    a3 := Tryd.isAgg3
    z3 := Tryd.sizeOf3
    v3 := Tryd.zeroValue3
    t4 := Tryd.underlying4
    a4 := Tryd.isAgg4
    z4 := Tryd.sizeOf4
    v4 := Tryd.zeroValue4
    t9 := Tryd.underlying9
    a9 := Tryd.isAgg9
    z9 := Tryd.sizeOf9
    v9 := Tryd.zeroValue9
    t20 := Tryd.underlying20
    a20 := Tryd.isAgg20
    z20 := Tryd.sizeOf20
    v20 := Tryd.zeroValue20
    t31 := Tryd.underlying34
    a31 := Tryd.isAgg34
    z31 := Tryd.sizeOf34
    v31 := Tryd.zeroValue34
    t37 := Tryd.underlying42
    a37 := Tryd.isAgg42
    z37 := Tryd.sizeOf42
    v37 := Tryd.zeroValue42
    t70 := Tryd.underlying47
    a70 := Tryd.isAgg47
    z70 := Tryd.sizeOf47
    v70 := Tryd.zeroValue47
    t72 := Tryd.underlying49
    a72 := Tryd.isAgg49
    z72 := Tryd.sizeOf49
    v72 := Tryd.zeroValue49
    t75 := Tryd.underlying52
    a75 := Tryd.isAgg52
    z75 := Tryd.sizeOf52
    v75 := Tryd.zeroValue52
    t76 := Tryd.underlying53
    a76 := Tryd.isAgg53
    z76 := Tryd.sizeOf53
    v76 := Tryd.zeroValue53
    t127 := Tryd.underlying58
    a127 := Tryd.isAgg58
    z127 := Tryd.sizeOf58
    v127 := Tryd.zeroValue58
    t164 := Tryd.underlying67
    a164 := Tryd.isAgg67
    z164 := Tryd.sizeOf67
    v164 := Tryd.zeroValue67 }
theorem Tryd.Builder_Extra_156 : Builder.Extra Tryd.prog Tryd.lays156_ren where
  sizeBuilder := by kernel_rfl
  liesBuilder := by kernel_rfl
  t5 := Tryd.underlying5
  a5 := Tryd.isAgg5
  z5 := Tryd.sizeOf5
  v5 := Tryd.zeroValue5
  infoByte := by kernel_rfl
  cellsByte := by kernel_rfl
  sizeByte := by kernel_rfl
  neB5 := by decide
end Go.Proofs
namespace Go.Proofs.YteedidafobfijaaDoor
open Go Go.HL Go.ChangeShapes Go.WideShapes Go.ChangeAt Go.ChangeMaps Go.RowKit Go.Shelf
namespace W
set_option maxRecDepth 100000
set_option linter.unusedSimpArgs false

def X : FuncId → Option (List HV → HS → Option (HV × HS))
  | 51 => some xCountStr
  | 65 => some xIndexByte
  | 30 => some xJoin
  | _ => none

theorem ok30 : okF Tryd.prog 30 := ⟨_, Tryd.func30, by kernel_rfl, by kernel_rfl⟩

theorem X_ok : XOk Tryd.prog X := by
  intro f g h
  unfold X at h
  split at h
  · simp at h; subst h; exact fun args hs v hs' h => xCountStr_sound Tryd.func51 (by kernel_rfl) (by kernel_rfl) (by kernel_rfl) (by kernel_rfl) h
  · simp at h; subst h; exact fun args hs v hs' h => xIndexByte_sound Tryd.func65 (by kernel_rfl) (by kernel_rfl) (by kernel_rfl) (by kernel_rfl) h
  · simp at h; subst h
    exact fun args hs v hs' h => xJoin_sound ok30 (fun bk o c xs sep w h1 h2 h3 h4 h5 => Any.strings_Join Tryd.lays156 Tryd.Builder_Extra_156 bk o c xs sep w h1 h2 h3 h4 h5) h
  · simp at h

theorem mixed : Tryd.prog.follows .mixedOrders = true := by kernel_rfl
theorem own : ownKnob Tryd.prog.godebug = none := by kernel_rfl
theorem laidOut : laidOutB Tryd.prog = true := by kernel_rfl

def pow : List Int := [1, 10, 100, 1000, 10000, 100000, 1000000, 10000000, 100000000, 1000000000, 10000000000, 100000000000, 1000000000000, 10000000000000, 100000000000000, 1000000000000000, 10000000000000000, 100000000000000000, 1000000000000000000, 10000000000000000000]
def hs0 : HS := [some (.cells 1 (pow.map (HV.int .u64)) true false []), some (.gpin 0 0)]

theorem emb_tab {P : Program} {w : World} {name : String} {k : IntKind} {zs : List Int} {g : Nat} (hg : P.globalNamed name = some g) (h : Lib.TabIs P w name k zs) :
    Emb [⟨g, 0, zs.length, 1⟩, ⟨g, 0, 1, 1⟩] [some (.cells 1 (zs.map (HV.int k)) true false []), some (.gpin g 0)] w := by
  have hb : ∃ t fz, w.heap[g]? = some (.cells (zs.map fun z => Value.int k z).toArray t fz) := by
    unfold Lib.TabIs at h
    simp only [World.var?, hg, Option.bind_some] at h
    split at h
    · rename_i cs t fz hc
      simp at h; subst h
      exact ⟨t, fz, by simpa using hc⟩
    · simp at h
  obtain ⟨t, fz, hb⟩ := hb
  refine ⟨rfl, fun i e b h1 h2 => ?_, fun i j e e' b b' _ _ _ _ h4 _ hro => ?_⟩
  · have hi : i = 0 ∨ i = 1 := by have := lt_of_get h1; simp at this; omega
    rcases hi with rfl | rfl
    · simp at h1 h2; subst h1 h2
      refine ⟨rfl, _, t, fz, hb, fun h => by simp at h, by simp, by simp, fun i x hx => ?_⟩
      rw [List.getElem?_map, Option.map_eq_some_iff] at hx
      obtain ⟨z, hz, rfl⟩ := hx
      exact ⟨.int k z, by simp [hz], rfl, rfl⟩
    · simp at h1 h2; subst h1 h2
      exact ⟨rfl, rfl, ⟨_, hb⟩, _, rfl, rfl, rfl⟩
  · have hj : j = 0 ∨ j = 1 := by have := lt_of_get h4; simp at this; omega
    rcases hj with rfl | rfl
    · simp at h4; subst h4; simp [HB.ro] at hro
    · simp at h4; subst h4; simp [HB.ro] at hro

theorem run10 : ((hcall F X 300 10 [] hs0).map fun x => HV.eqb x.1 (.bool true)) = some true := by kernel_rfl
theorem shown10 : HC Tryd.prog 10 [] hs0 fun v _ => v = .bool true := hcall_bool mixed F_ok X_ok rfl run10
theorem ok10 : okF Tryd.prog 10 := ⟨_, Tryd.func10, by kernel_rfl, by kernel_rfl⟩
theorem ok15 : okF Tryd.prog 15 := ⟨_, Tryd.func15, by kernel_rfl, by kernel_rfl⟩
theorem ok16 : okF Tryd.prog 16 := ⟨_, Tryd.func16, by kernel_rfl, by kernel_rfl⟩
theorem word15' (s : List UInt8) (hs : HS) : HC Tryd.prog 15 [.str s] hs fun v hs' => v = .bool (wordL s) ∧ hs' = hs := HC.frame (R := fun v => v = .bool (wordL s)) rfl (fun v h => by subst h; rfl) (word15 s)
theorem ref16' (s : List UInt8) (hl : s.length < 9223372036854775808) (hs : HS) : HC Tryd.prog 16 [.str s] hs fun v hs' => v = .bool (wordL s) ∧ hs' = hs := HC.frame (R := fun v => v = .bool (wordL s)) rfl (fun v h => by subst h; rfl) (ref16 s hl)
theorem eqbool (b : Bool) : hbin .eql (some .bool) (.bool b) (.bool b) = some (.bool true) := by cases b <;> rfl

theorem law5 (s : List UInt8) (hl : s.length < 9223372036854775808) : HC Tryd.prog 5 [.str s] hs0 fun v _ => v = .bool true := by
  refine HC.body Tryd.func5 c5 ?_
  refine HW.seq (HW.region (HL.op rfl (HL.nil ?_)))
  try simp only [killFr, List.foldl, put, frame0, h5, List.length, List.replicate, Nat.sub, List.append, List.set, HX.ev, List.getElem?_cons_succ, List.getElem?_cons_zero, Option.getD_some, HAppend.hAppend, Append.append]
  refine HW.seq (HW.region ?_)
  refine HL.call (g := 10) (xs := []) rfl (HC.call ok10 shown10 ?_)
  rintro v hs' rfl
  try simp only [killFr, List.foldl, put, frame0, h5, List.length, List.replicate, Nat.sub, List.append, List.set, HX.ev, List.getElem?_cons_succ, List.getElem?_cons_zero, Option.getD_some, HAppend.hAppend, Append.append]
  refine HL.op rfl (HL.nil ?_)
  try simp only [killFr, List.foldl, put, frame0, h5, List.length, List.replicate, Nat.sub, List.append, List.set, HX.ev, List.getElem?_cons_succ, List.getElem?_cons_zero, Option.getD_some, HAppend.hAppend, Append.append]
  refine HW.seq (HW.region ?_)
  refine HL.op rfl ?_
  try simp only [killFr, List.foldl, put, frame0, h5, List.length, List.replicate, Nat.sub, List.append, List.set, HX.ev, List.getElem?_cons_succ, List.getElem?_cons_zero, Option.getD_some, HAppend.hAppend, Append.append]
  refine HL.op rfl ?_
  try simp only [killFr, List.foldl, put, frame0, h5, List.length, List.replicate, Nat.sub, List.append, List.set, HX.ev, List.getElem?_cons_succ, List.getElem?_cons_zero, Option.getD_some, HAppend.hAppend, Append.append]
  refine HL.opIf rfl rfl ?_
  try simp only [killFr, List.foldl, put, frame0, h5, List.length, List.replicate, Nat.sub, List.append, List.set, HX.ev, List.getElem?_cons_succ, List.getElem?_cons_zero, Option.getD_some, HAppend.hAppend, Append.append]
  refine HL.callIf rfl (g := 15) (xs := [.str s]) rfl (HC.call ok15 (word15' s hs') ?_)
  rintro v hs2 ⟨rfl, rfl⟩
  try simp only [killFr, List.foldl, put, frame0, h5, List.length, List.replicate, Nat.sub, List.append, List.set, HX.ev, List.getElem?_cons_succ, List.getElem?_cons_zero, Option.getD_some, HAppend.hAppend, Append.append]
  refine HL.opIf rfl rfl ?_
  try simp only [killFr, List.foldl, put, frame0, h5, List.length, List.replicate, Nat.sub, List.append, List.set, HX.ev, List.getElem?_cons_succ, List.getElem?_cons_zero, Option.getD_some, HAppend.hAppend, Append.append]
  refine HL.callIf rfl (g := 16) (xs := [.str s]) rfl (HC.call ok16 (ref16' s hl hs2) ?_)
  rintro v hs3 ⟨rfl, rfl⟩
  try simp only [killFr, List.foldl, put, frame0, h5, List.length, List.replicate, Nat.sub, List.append, List.set, HX.ev, List.getElem?_cons_succ, List.getElem?_cons_zero, Option.getD_some, HAppend.hAppend, Append.append]
  refine HL.opIf (v := .bool true) rfl (congrArg (same _) (eqbool _)) ?_
  try simp only [killFr, List.foldl, put, frame0, h5, List.length, List.replicate, Nat.sub, List.append, List.set, HX.ev, List.getElem?_cons_succ, List.getElem?_cons_zero, Option.getD_some, HAppend.hAppend, Append.append]
  refine HL.op (pickT rfl rfl) ?_
  try simp only [killFr, List.foldl, put, frame0, h5, List.length, List.replicate, Nat.sub, List.append, List.set, HX.ev, List.getElem?_cons_succ, List.getElem?_cons_zero, Option.getD_some, HAppend.hAppend, Append.append]
  refine HL.op rfl (HL.nil ?_)
  try simp only [killFr, List.foldl, put, frame0, h5, List.length, List.replicate, Nat.sub, List.append, List.set, HX.ev, List.getElem?_cons_succ, List.getElem?_cons_zero, Option.getD_some, HAppend.hAppend, Append.append]
  refine HW.ret ?_
  exact ⟨rfl, _, rfl, rfl⟩

theorem pow_of_laid {W : World} (h : laidMetH Tryd.prog Rows.digitsWordsRow.laid W) : Lib.TabIs Tryd.prog W "internal/strconv.uint64pow10" .u64 pow := by
  rw [MakeChecks.laidMetH_plain _ _ _ (by kernel_rfl)] at h
  have h2 : laidMet Tryd.prog (("internal/strconv.uint64pow10", Lib.tabData .u64 pow) :: [("unicode/utf8.acceptRanges", Rows.laid_unicode_utf8_acceptRanges), ("unicode/utf8.first", Rows.laid_unicode_utf8_first)]) W := h.tail.tail
  exact Lib.tabIs_of_head (g := 0) (by kernel_rfl) (by kernel_rfl) Tryd.underlying76 Tryd.underlying62 (by kernel_rfl) (by kernel_rfl) h2

theorem words_lifted (os : Os) (started : os.Started) (H : Type) (enc : TypeId × Value → H) :
    ReturnsInHanded {} Tryd.checked os 5 .any (fun w args => (Rows.digitsWordsSpec.pre enc Tryd.prog Tryd.f5 [] false w args ∧ laidMetH Tryd.prog Rows.digitsWordsRow.laid w) ∧ sizedMet enc Tryd.prog Tryd.f5 (OpenSpec.ofChange Rows.digitsWordsSpec) false w args)
      (Rows.digitsWordsSpec.post enc Tryd.prog Tryd.f5 false true false false) := by
  refine returnsInHanded_of_change_and (C := Tryd.checked) (X := fun w _ => laidMetH Tryd.prog Rows.digitsWordsRow.laid w) (fun _ _ _ hh h => h.of_heap hh) own started (by kernel_rfl) Tryd.func5
    (ChangeSpec.witness_shaped (enc := enc) (C := Tryd.checked) (os := os) (X := fun w _ => laidMetH Tryd.prog Rows.digitsWordsRow.laid w) false (World.laidAll Tryd.prog os Rows.digitsWordsRow.laid) #[.string .empty] 8 (World.laidAll_os _ _ _)
      (World.shaped_of_ZipB (by kernel_rfl) (by kernel_rfl)) (by kernel_rfl) (by kernel_rfl) (by kernel_rfl)
      (by rw [MakeChecks.laidMetH_plain _ _ _ (by kernel_rfl)]; exact laidMet_laidAll _ (by kernel_rfl) (by kernel_rfl))) ?_
  intro W base args ds gs before hval0 hW _ _ hL _
  have hval : ∀ (j : Nat) t v, Tryd.f5.params[j]? = some t → args[j]? = some v → Value.okWide Tryd.prog W .any base t v := hval0
  have hW' := hW
  obtain ⟨p, q, hA0, hV, rfl, hfz, hnd⟩ := hW
  have hA : DataW.TrodAll enc Tryd.prog W 0 (fun _ => true) true Tryd.f5.params.toList args.toList ds p := hA0
  rw [Tryd.params5] at hA hval
  obtain ⟨v0, d0, rfl, rfl, h0⟩ := trodAll_one hA
  obtain ⟨s, rfl, rfl, rfl, hs⟩ := open_string Tryd.underlying9 (hval 0 9 v0 rfl rfl) h0
  obtain ⟨rfl, rfl⟩ := trodVars_none hV
  have hR : RelL [⟨0, 0, pow.length, 1⟩, ⟨0, 0, 1, 1⟩] [HV.str s.data.toList] [Value.string s] := by
    simp only [RelL, Rel]
    exact ⟨_, [], rfl, rfl, rfl⟩
  have hlen : s.data.toList.length < 9223372036854775808 := by
    have h1 : s.data.toList.length = s.size := Array.length_toList
    unfold maxLen at hs
    rw [h1]
    exact Nat.lt_of_le_of_lt hs (Nat.lt_succ_self _)
  refine (HC.below (emb_tab (by kernel_rfl) (pow_of_laid hL)) hR (fun i c h => ?_) (law5 s.data.toList hlen)).mono fun e W' ⟨he, hb⟩ => ?_
  · have hi : i = 0 ∨ i = 1 := by have := lt_of_get h; simp [hs0] at this; omega
    rcases hi with rfl | rfl <;> (simp [hs0] at h; subst h; rfl)
  subst he
  exact ⟨_, rfl, law_post (tb := 4) laidOut rfl Tryd.underlying4 (by kernel_rfl) (by kernel_rfl) hW' rfl hb⟩

theorem digitsWords_holds : Rows.DigitsWordsSaid :=
  OpenClaim.holds_of_wide 5 Tryd.f5 rfl rfl rfl rfl rfl rfl rfl ⟨rfl, rfl, rfl, rfl, rfl⟩ rfl rfl rfl rfl rfl (by kernel_rfl) Tryd.func5 (by kernel_rfl)
    (of_decide_eq_true (by kernel_rfl)) (by unfold Func.isWrapper; first | (rw [if_pos (by decide +kernel)]; kernel_rfl) | (rw [if_neg (by decide +kernel)]; exact ⟨rfl, rfl⟩))
    (fun os started H enc _ => words_lifted os started H enc)
theorem digitsWords_card : Rows.DigitsWordsCardSaid :=
  Claim7.holds_tied_plain_at .later [] [.data, .data, .data, .data, .pinned] true (true, "292aa59d8ee6bf52d4ffcf097a31faf6b554d06dee12e25551358aaa0ec2dfd0") false
    digitsWords_holds (fun _ h => by cases h) (by kernel_rfl) (fun _ h => by cases h) digitsWords_row_tie rfl ⟨rfl, rfl⟩ (by kernel_rfl) rfl
    (fun f fn hf hfn => by
      obtain rfl : f = 5 := Option.some.inj ((show Tryd.prog.funcNamed "stint/stintlaw01.DigitsWords" = some 5 by kernel_rfl).symm.trans hf) |>.symm
      obtain rfl : fn = Tryd.f5 := (Option.some.inj (Tryd.func5.symm.trans hfn)).symm
      exact ⟨by kernel_rfl, fun j t ht => by
        rw [Tryd.params5] at ht
        have hm : t ∈ [9] := by simpa using Array.mem_of_getElem? ht
        have hall : ([9].all fun u => !Tryd.prog.wantsStandIn u) = true := by kernel_rfl
        exact (show Tryd.prog.wantsStandIn t = false by simpa using List.all_eq_true.1 hall t hm)⟩)
    (by kernel_rfl)
#print axioms digitsWords_card
end W
end Go.Proofs.YteedidafobfijaaDoor
