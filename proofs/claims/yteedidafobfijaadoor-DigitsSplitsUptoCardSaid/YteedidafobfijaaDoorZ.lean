/-
  Proved: the law DigitsSplits (stintlaw01) returns true wherever what it reads is of bulk at most 1048576 (the second form's card).
-/
import Derived.Test.YteedidafobfijaaDoorY
import Derived.Test.YteedidafobfijaaDoorHLArg
import Derived.Test.YteedidafobfijaaDoorHLIndex
import Derived.Shelf.LaysM
namespace Go.Proofs
open Go.Shelf
def Tryd.laysM146_ren : Go.Shelf.Ren := ⟨fun | 146 => 31 | 221 => 36 | 268 => 40 | 138 => 41 | 143 => 42 | 195 => 49 | 197 => 50 | 218 => 51 | 219 => 52 | 260 => 58 | 217 => 59 | 225 => 60 | 224 => 61 | 267 => 62 | 266 => 65 | 314 => 66 | n => n, fun | 9 => 9 | 31 => 34 | 3 => 3 | 4 => 4 | 0 => 0 | 105 => 71 | 21 => 21 | 5 => 5 | 46 => 79 | 119 => 82 | 139 => 85 | 138 => 84 | 146 => 86 | 51 => 77 | n => n, fun | 1 => 1 | 3 => 2 | 4 => 3 | n => n⟩
theorem Tryd.laysM146 : Go.Proofs.LaysM.n146 Tryd.prog Tryd.laysM146_ren :=
  { mixed := by kernel_rfl
    f138 := Tryd.func41.trans (congrArg some (by kernel_rfl))
    f143 := Tryd.func42.trans (congrArg some (by kernel_rfl))
    f146 := Tryd.func31.trans (congrArg some (by kernel_rfl))
    f195 := Tryd.func49.trans (congrArg some (by kernel_rfl))
    f197 := Tryd.func50.trans (congrArg some (by kernel_rfl))
    f217 := Tryd.func59.trans (congrArg some (by kernel_rfl))
    f218 := Tryd.func51.trans (congrArg some (by kernel_rfl))
    f219 := Tryd.func52.trans (congrArg some (by kernel_rfl))
    f221 := Tryd.func36.trans (congrArg some (by kernel_rfl))
    f224 := Tryd.func61.trans (congrArg some (by kernel_rfl))
    f225 := Tryd.func60.trans (congrArg some (by kernel_rfl))
    f260 := Tryd.func58.trans (congrArg some (by kernel_rfl))
    f266 := Tryd.func65.trans (congrArg some (by kernel_rfl))
    f267 := Tryd.func62.trans (congrArg some (by kernel_rfl))
    f268 := Tryd.func40.trans (congrArg some (by kernel_rfl))
    f314 := Tryd.func66.trans (congrArg some (by kernel_rfl))
    t0 := Tryd.underlying0
    a0 := Tryd.isAgg0
    z0 := Tryd.sizeOf0
    v0 := Tryd.zeroValue0
    t3 := Tryd.underlying3
    a3 := Tryd.isAgg3
    z3 := Tryd.sizeOf3
    v3 := Tryd.zeroValue3
    t4 := Tryd.underlying4
    a4 := Tryd.isAgg4
    z4 := Tryd.sizeOf4
    v4 := Tryd.zeroValue4
    t5 := Tryd.underlying5
    a5 := Tryd.isAgg5
    z5 := Tryd.sizeOf5
    v5 := Tryd.zeroValue5
    t9 := Tryd.underlying9
    a9 := Tryd.isAgg9
    z9 := Tryd.sizeOf9
    v9 := Tryd.zeroValue9
    t21 := Tryd.underlying21
    a21 := Tryd.isAgg21
    z21 := Tryd.sizeOf21
    v21 := Tryd.zeroValue21
    t31 := Tryd.underlying34
    a31 := Tryd.isAgg34
    z31 := Tryd.sizeOf34
    v31 := Tryd.zeroValue34
    t46 := Tryd.underlying79
    a46 := Tryd.isAgg79
    z46 := Tryd.sizeOf79
    v46 := Tryd.zeroValue79
    t51 := Tryd.underlying77
    a51 := Tryd.isAgg77
    z51 := Tryd.sizeOf77
    v51 := Tryd.zeroValue77
    t105 := Tryd.underlying71
    a105 := Tryd.isAgg71
    z105 := Tryd.sizeOf71
    v105 := Tryd.zeroValue71
    t119 := Tryd.underlying82
    a119 := Tryd.isAgg82
    z119 := Tryd.sizeOf82
    t138 := Tryd.underlying84
    a138 := Tryd.isAgg84
    z138 := Tryd.sizeOf84
    v138 := Tryd.zeroValue84
    t139 := Tryd.underlying85
    a139 := Tryd.isAgg85
    z139 := Tryd.sizeOf85
    v139 := Tryd.zeroValue85
    t146 := Tryd.underlying86
    a146 := Tryd.isAgg86
    z146 := Tryd.sizeOf86
    v146 := Tryd.zeroValue86
    g1 := by kernel_rfl
    g3 := by kernel_rfl
    g4 := by kernel_rfl
    i0 := by kernel_rfl
    i3 := by kernel_rfl
    i4 := by kernel_rfl
    i5 := by kernel_rfl
    i9 := by kernel_rfl
    i21 := by kernel_rfl
    i31 := by kernel_rfl
    i46 := by kernel_rfl
    i51 := by kernel_rfl
    i105 := by kernel_rfl
    i138 := by kernel_rfl
    i139 := by kernel_rfl
    i146 := by kernel_rfl
    m1 := by kernel_rfl
    s1_3 := fun w h => Go.Proofs.cell_of_shapedOpen_int (zero := #[.int .i64 0]) (t := 3) h (of_decide_eq_true (by kernel_rfl)) (by kernel_rfl) rfl (by kernel_rfl) (by kernel_rfl) Tryd.underlying3
    m3 := by kernel_rfl
    m4 := by kernel_rfl }
end Go.Proofs
namespace Go.Proofs.YteedidafobfijaaDoor
open Go Go.HL Go.ChangeShapes Go.WideShapes Go.ChangeAt Go.ChangeMaps Go.RowKit Go.Shelf
namespace B
set_option maxRecDepth 100000
set_option linter.unusedSimpArgs false

theorem one_le {H : Type} (d : DataW H) : 1 ≤ Rows.uptoBulk d := by
  cases d with
  | lit l => cases l <;> simp [Rows.uptoBulk]
  | _ => simp [Rows.uptoBulk]

theorem length_le {H : Type} (l : List (DataW H)) : l.length ≤ Rows.uptoBulkAll l := by
  induction l with
  | nil => simp [Rows.uptoBulkAll]
  | cons x r ih => have := one_le x; simp only [Rows.uptoBulkAll, List.length_cons]; omega
theorem slice_le {H : Type} (elems spare : List (DataW H)) : elems.length + spare.length + 1 ≤ Rows.uptoBulk (.slice elems spare) := by
  have h1 := length_le elems
  have h2 := length_le spare
  simp only [Rows.uptoBulk]
  omega

/-- the heap at the beginning, of any memory of this program. -/
theorem emb3 {M : World} (hP : Lib.TabIs Tryd.prog M "internal/strconv.uint64pow10" .u64 W.pow) (hsh : M.ShapedOpen Tryd.prog) :
    ∃ β, Emb β [some pow0, some (.gpin 0 0), some (.gint 1)] M ∧ AllRo [some pow0, some (.gpin 0 0), some (.gint 1)] ∧ ∃ cur t fz, M.heap[1]? = some (.cells cur t fz) := by
  have E := W.emb_tab (g := 0) (by kernel_rfl) hP
  have hro : AllRo [some (HB.cells 1 (W.pow.map (HV.int .u64)) true false []), some (.gpin 0 0)] := by
    intro i b h
    rcases i with _ | _ | i
    · have h' : some (some pow0) = some (some b) := h
      obtain rfl := Option.some.inj (Option.some.inj h')
      exact pow_ro
    · have h' : some (some (HB.gpin 0 0)) = some (some b) := h
      obtain rfl := Option.some.inj (Option.some.inj h')
      rfl
    · have h' : none = some (some b) := h
      simp at h'
  obtain ⟨m, hm⟩ := Tryd.laysM146.s1_3 M hsh
  have hg : Tryd.laysM146_ren.g 1 = 1 := by kernel_rfl
  rw [hg] at hm
  obtain ⟨_, c, t, fz, hb, hc⟩ := cell_some hm
  exact ⟨_, E.snoc hro ⟨1, 0, 1, 1⟩ (.gint 1) rfl ⟨rfl, rfl, c, t, fz, m, hb, hc⟩, hro.snoc rfl, c, t, fz, hb⟩

theorem splits_reads (os : Os) {H : Type} (enc : TypeId × Value → H) : ∃ places, DataW.whole enc Tryd.prog ((World.laidAll Tryd.prog os Rows.digitsSplitsUptoRow.laid).forCall (fun _ _ => 0) ⟨#[], #[.string .empty, .string .empty], []⟩).memory
    Tryd.f6.params.toList (Rows.OpenSpec.upto Rows.digitsSplitsSpec).vars false #[Value.string .empty, Value.string .empty].toList 8 = some ([.lit (.string []), .lit (.string [])], [], places) :=
  ⟨[], by kernel_rfl⟩

theorem splits_lifted (os : Os) (started : os.Started) (H : Type) (enc : TypeId × Value → H) (F : Stop.Interp) :
    ReturnsInHanded {} Tryd.checked os 6 .any ((Rows.OpenSpec.upto Rows.digitsSplitsSpec).preRow enc Tryd.prog Tryd.f6 Rows.digitsSplitsUptoRow.domain false Rows.digitsSplitsUptoRow.laid)
      (((Rows.OpenSpec.upto Rows.digitsSplitsSpec).at F).post enc Tryd.prog Tryd.f6 false true false false) := by
  obtain ⟨places, hx⟩ := splits_reads os enc
  refine returnsInHanded_of_row (C := Tryd.checked) (s := Rows.OpenSpec.upto Rows.digitsSplitsSpec) W.own started (by kernel_rfl) Tryd.func6
    (witness_row_shaped (enc := enc) (C := Tryd.checked) false (World.laidAll Tryd.prog os Rows.digitsSplitsUptoRow.laid) #[.string .empty, .string .empty] (World.laidAll_os _ _ _)
      (World.shaped_of_ZipB (by kernel_rfl) (by kernel_rfl)) (by kernel_rfl)
      (OpenSpec.preRow_of_cond 8 hx (by kernel_rfl) (fun k hk => by cases hk; kernel_rfl) (by kernel_rfl)
        (by rw [MakeChecks.laidMetH_plain _ _ _ (by kernel_rfl)]; exact laidMet_laidAll _ (by kernel_rfl) (by kernel_rfl)))) ?_
  intro M base args ds gs before hval0 hW _ hcond _ hL hsh _
  have hval : ∀ (j : Nat) t v, Tryd.f6.params[j]? = some t → args[j]? = some v → Value.okWide Tryd.prog M .any base t v := hval0
  have hW' := hW
  obtain ⟨p, q, hA0, hV, rfl, hfz, hnd⟩ := hW
  have hA : DataW.TrodAll enc Tryd.prog M 0 (fun _ => true) true Tryd.f6.params.toList args.toList ds p := hA0
  rw [Tryd.params6] at hA hval
  obtain ⟨v0, v1, d0, d1, p0, p1, rfl, rfl, rfl, h0, h1⟩ := trodAll_two hA
  obtain ⟨one, rfl, rfl, rfl, hone⟩ := open_string Tryd.underlying9 (hval 0 9 v0 rfl rfl) h0
  obtain ⟨two, rfl, rfl, rfl, htwo⟩ := open_string Tryd.underlying9 (hval 1 9 v1 rfl rfl) h1
  obtain ⟨rfl, rfl⟩ := trodVars_none hV
  have hk := of_decide_eq_true (hcond _ rfl)
  have hk2 : one.data.toList.length + 1 + (two.data.toList.length + 1) ≤ 1048576 := by
    simpa only [Rows.uptoBulkAll, Rows.uptoBulk, List.cons_append, List.nil_append, List.append_nil, Nat.add_zero] using hk
  clear hk hcond
  obtain ⟨β, E, hro, cur, t, fz, hex⟩ := emb3 (W.pow_of_laid hL) hsh
  have hR : RelL (β ++ [default]) [HV.str one.data.toList, HV.str two.data.toList] [Value.string one, Value.string two] := by
    simp only [RelL, Rel]
    exact ⟨_, _, rfl, rfl, _, _, rfl, rfl, rfl⟩
  refine (HC.below (E.hole hro default) hR hro.hole (law6 (hsA none) one.data.toList two.data.toList (shownA none) (by decide) rfl (by omega) (by omega))).mono fun e M' ⟨he, hb⟩ => ?_
  subst he
  exact ⟨_, rfl, law_post (s := Rows.digitsSplitsSpec) (tb := 4) W.laidOut rfl Tryd.underlying4 (by kernel_rfl) (by kernel_rfl) hW' rfl hb⟩

theorem splits_holds : Rows.DigitsSplitsUptoSaid :=
  OpenClaim.holds_of_cond 6 Tryd.f6 rfl rfl rfl rfl rfl rfl rfl ⟨rfl, rfl, rfl, rfl, rfl⟩ rfl rfl rfl rfl rfl (by kernel_rfl) Tryd.func6 (by kernel_rfl)
    (of_decide_eq_true (by kernel_rfl)) (by unfold Func.isWrapper; first | (rw [if_pos (by decide +kernel)]; kernel_rfl) | (rw [if_neg (by decide +kernel)]; exact ⟨rfl, rfl⟩))
    (fun os started H enc _ F => by rw [OpenClaim.pre_eq_preRow]; exact splits_lifted os started H enc F)
theorem splits_plain (f : FuncId) (fn : Func) (hf : Tryd.pinned.checked.prog.funcNamed "stint/stintlaw01.DigitsSplits" = some f) (hfn : Tryd.pinned.checked.prog.funcs[f]? = some fn) :
    false = Tryd.pinned.checked.prog.looks [] ∧ ∀ (j : Nat) t, fn.params[j]? = some t → Tryd.pinned.checked.prog.wantsStandIn t = false := by
  obtain rfl : f = 6 := Option.some.inj ((show Tryd.prog.funcNamed "stint/stintlaw01.DigitsSplits" = some 6 by kernel_rfl).symm.trans hf) |>.symm
  obtain rfl : fn = Tryd.f6 := (Option.some.inj (Tryd.func6.symm.trans hfn)).symm
  refine ⟨by kernel_rfl, fun j t ht => ?_⟩
  rw [Tryd.params6] at ht
  have hm : t ∈ [9, 9] := by simpa using Array.mem_of_getElem? ht
  have hall : ([9, 9].all fun u => !Tryd.prog.wantsStandIn u) = true := by kernel_rfl
  exact (show Tryd.prog.wantsStandIn t = false by simpa using List.all_eq_true.1 hall t hm)
theorem splits_card : Rows.DigitsSplitsUptoCardSaid :=
  Claim7.holds_tied_plain_at .later [] _ _ _ _ splits_holds (fun _ h => by cases h) (by kernel_rfl) (fun _ h => by cases h) digitsSplitsUpto_row_tie rfl ⟨rfl, rfl⟩ (by kernel_rfl) rfl splits_plain (by kernel_rfl)
#print axioms splits_card
end B
end Go.Proofs.YteedidafobfijaaDoor
