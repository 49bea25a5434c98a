/-
  HL: an operation of the program does what its turned form does.
-/
import Derived.Test.YteedmbmgemiheaaDoorKYHLCode
namespace Go.HL
open Go
variable {ds : List Deferred}

section
variable {P : Program} {β : List Ent} {hs : HS} {w : World}

theorem sound_bslice (E : Emb β hs w) {t : TypeId} {len : Nat} {parts : Array (Nat × Operand)} {ho : HOp} {fr : List HV} {a : Act} (F : FrRel ds β fr a) (hc : cOp P (.buildSlice t len parts) = some ho) {v : HV} {hs' : HS} (h : hop ho fr hs = some (v, hs'))
    {dst : Option Nat} {type : TypeId} {pos : String} {after : Array Edge} {guard : Option (Nat × Bool)} : OutN P (execOp a.eval ⟨dst, .buildSlice t len parts, type, pos, after, guard⟩) β hs w v hs' := by
  simp only [cOp] at hc
  split at hc
  · rename_i e hu
    split at hc
    · rename_i z s h1 h2
      split at hc
      · rename_i hcond
        simp only [Option.map_eq_some_iff] at hc
        obtain ⟨ps, h3, rfl⟩ := hc
        obtain ⟨i, zv, h4, h5, h6⟩ := zeroT_info h1
        obtain ⟨i', h7, h8⟩ := sizeT_info h2
        rw [h4] at h7; cases h7
        obtain ⟨g1, g2⟩ := cParts_rel F h3
        have hzc := (cVal_rel β zv z h6).cells (cells_ne_undef hcond.2)
        have hzl := hzc.length
        simp only [hop] at h
        have hz0 : zv.cells.size = s := by simp at hzl; omega
        have hzr := zeros_rel hzc hcond.1 len
        have hpl : (evp fr ps).length = (parts.map fun (i, x) => (i, a.eval x)).toList.length := by rw [g1, Array.toList_map]
        have hpp : ∀ (j k : Nat) (u : Value), (parts.map fun (i, x) => (i, a.eval x)).toList[j]? = some (k, u) → ∃ x, (evp fr ps)[j]? = some (k * s, s, x) ∧ Rel β x u := by
          intro j k u hj
          rw [Array.toList_map] at hj
          obtain ⟨off, size, x, q1, q2, q3⟩ := g2 j k u hj
          simp at q2; obtain ⟨rfl, rfl⟩ := q2
          exact ⟨x, q1, q3⟩
        have key : Out P (Instr.buildSlice t len (parts.map fun (i, x) => (i, a.eval x))) β hs w v hs' := hbuildSlice_sound E hu h4 h5 h8 hz0 hzr hpl hpp h
        exact OutN.val key
      · simp at hc
    · simp at hc
  · simp at hc

set_option maxHeartbeats 1600000 in
theorem hop_sound (E : Emb β hs w) {o : Oper} {ho : HOp} {fr : List HV} {a : Act} (F : FrRel ds β fr a) (hc : cOp P o.op = some ho) {v : HV} {hs' : HS} (h : hop ho fr hs = some (v, hs')) :
    OutN P (execOp a.eval o) β hs w v hs' := by
  obtain ⟨dst, op, type, pos, after, guard⟩ := o
  simp only at hc
  cases op with
  | move x =>
    simp only [cOp, Option.map_eq_some_iff] at hc
    obtain ⟨hx, h1, rfl⟩ := hc
    simp [hop] at h; obtain ⟨rfl, rfl⟩ := h
    exact ⟨_, w, β, rfl, .inl ⟨_, rfl, cX_rel F h1⟩, Step.refl E⟩
  | assign x =>
    simp only [cOp, Option.map_eq_some_iff] at hc
    obtain ⟨hx, h1, rfl⟩ := hc
    simp [hop] at h; obtain ⟨rfl, rfl⟩ := h
    exact ⟨_, w, β, rfl, .inl ⟨_, rfl, cX_rel F h1⟩, Step.refl E⟩
  | pick c x y =>
    simp only [cOp] at hc
    split at hc
    · rename_i c' x' y' h1 h2 h3
      simp at hc; subst hc
      simp only [hop] at h
      split at h
      · rename_i t ht
        simp at h; obtain ⟨rfl, rfl⟩ := h
        have hcr := cX_rel F h1
        rw [ht] at hcr
        simp only [Rel] at hcr
        refine ⟨.value (if t then a.eval x else a.eval y), w, β, ?_, .inl ⟨_, rfl, ?_⟩, Step.refl E⟩
        · simp [execOp, hcr, asBool]
        · cases t
          · exact cX_rel F h3
          · exact cX_rel F h2
      · simp at h
    · simp at hc
  | alloc t =>
    simp only [cOp, Option.map_eq_some_iff] at hc
    obtain ⟨z, h1, rfl⟩ := hc
    obtain ⟨i, zv, h2, h3, h4⟩ := zeroT_info h1
    simp only [hop] at h
    exact OutN.val (halloc_sound E h2 h3 (cVal_rel β zv z h4) h)
  | box t x =>
    simp only [cOp, Option.map_eq_some_iff] at hc
    obtain ⟨hx, h1, rfl⟩ := hc
    simp only [hop] at h
    exact OutN.val (hbox_sound E (cX_rel F h1) h)
  | build t parts =>
    simp only [cOp] at hc
    split at hc
    · rename_i z pl h1 h2
      split at hc
      · rename_i hone
        simp only [Option.map_eq_some_iff] at hc
        obtain ⟨ps, h3, rfl⟩ := hc
        obtain ⟨i, zv, h4, h5, h6⟩ := zeroT_info h1
        obtain ⟨g1, g2⟩ := cParts_rel F h3
        obtain ⟨h7, rfl⟩ := same_some h
        refine OutN.val (hbuild_sound E (parts := parts.map fun (i, x) => (i, a.eval x)) h4 h5 ((cVal_rel β zv z h6).cells (cells_ne_undef hone)) h2 ?_ ?_ h7)
        · rw [g1, Array.toList_map]
        · intro j k u hj
          rw [Array.toList_map] at hj
          exact g2 j k u hj
      · simp at hc
    · simp at hc
  | buildSlice t len parts => exact sound_bslice E F hc h
  | load t x =>
    simp only [cOp] at hc
    split at hc
    · rename_i n x' h1 h2
      simp at hc; subst hc
      obtain ⟨h3, rfl⟩ := same_some h
      exact OutN.val (hload_sound E h1 (cX_rel F h2) h3)
    · rename_i n h1 h2
      split at hc
      · rename_i g
        simp at hc; subst hc
        simp only [hop] at h
        split at h
        · rename_i hh hp
          obtain ⟨h3, rfl⟩ := same_some h
          exact OutN.val (hload_sound E h1 (gpin_rel E hp) h3)
        · simp at h
      · simp at hc
    · simp at hc
  | store t x y =>
    simp only [cOp] at hc
    split at hc
    · rename_i n x' y' h1 h2 h3
      simp at hc; subst hc
      obtain ⟨h4, rfl⟩ := unit_some h
      exact OutN.skip (hstore_sound E h1 (cX_rel F h2) (cX_rel F h3) h4)
    · simp at hc
  | nilCheck x =>
    simp only [cOp, Option.map_eq_some_iff] at hc
    obtain ⟨x', h1, rfl⟩ := hc
    obtain ⟨h2, rfl⟩ := same_some h
    have := hnil_sound (P := P) E (dst := dst) (x := x) (ty := type) (pos := pos) (after := after) (guard := guard) (ρ := a.eval) (cX_rel F h1) h2
    exact ⟨_, w, β, this.1, .inl ⟨_, rfl, this.2⟩, Step.refl E⟩
  | binOp op t x y yt =>
    simp only [cOp] at hc
    split at hc
    · rename_i x' y' h1 h2
      simp at hc; subst hc
      obtain ⟨h3, rfl⟩ := same_some h
      exact OutN.val (hbin_sound E (ox := x) (oy := y) rfl (cX_rel F h1) (cX_rel F h2) h3)
    · simp at hc
  | unOp op t x =>
    simp only [cOp, Option.map_eq_some_iff] at hc
    obtain ⟨x', h1, rfl⟩ := hc
    obtain ⟨h2, rfl⟩ := same_some h
    exact OutN.val (un_sound E (cX_rel F h1) h2)
  | convert src dst' x =>
    simp only [cOp] at hc
    split at hc
    · rename_i d k x' h1 h2 h3
      simp at hc; subst hc
      obtain ⟨h4, rfl⟩ := same_some h
      exact OutN.val (hconvInt_sound E h1 h2 (cX_rel F h3) h4)
    · rename_i e x' h1 h2 h3
      split at hc
      · rename_i h4
        simp at hc; subst hc
        simp only [hop] at h
        split at h
        · simp at h
        · rename_i hn
          obtain ⟨h5, rfl⟩ := same_some h
          exact OutN.val (hb2s_sound E h1 h4 h2 (cX_rel F h3) hn h5)
      · simp at hc
    · rename_i e x' h1 h2 h3
      split at hc
      · rename_i h4
        simp at hc; subst hc
        simp only [hop] at h
        exact OutN.val (hs2b_sound E h1 h2 h4 (cX_rel F h3) h)
      · simp at hc
    · rename_i x' h1 h2 h3
      simp at hc; subst hc
      obtain ⟨h4, rfl⟩ := same_some h
      exact OutN.val (hconvStr_sound E h1 h2 (cX_rel F h3) h4)
    · rename_i e0 e x' h1 h2 h3
      split at hc
      · rename_i hsd
        split at hc
        · rename_i h4
          simp at hc; subst hc
          obtain ⟨h5, rfl⟩ := same_some h
          subst hsd; exact OutN.val (hmark_sound E rfl h2 h4 (cX_rel F h3) h5)
        · simp at hc
      · simp at hc
    · simp at hc
  | fieldAddr t x k =>
    simp only [cOp] at hc
    split at hc
    · rename_i fs hu
      split at hc
      · rename_i f hf
        split at hc
        · rename_i n x' h1 h2
          split at hc
          · rename_i h0
            simp at hc; subst hc
            obtain ⟨i, h3, h4⟩ := sizeT_info h1
            obtain ⟨h5, rfl⟩ := same_some h
            exact OutN.val (hfieldAddr_sound E hu hf h3 (by omega) (cX_rel F h2) h5)
          · simp at hc
        · simp at hc
      · simp at hc
    · simp at hc
  | field t x k =>
    simp only [cOp] at hc
    split at hc
    · rename_i fs hu
      split at hc
      · rename_i f hf
        split at hc
        · rename_i n x' h1 h2
          simp at hc; subst hc
          obtain ⟨h5, rfl⟩ := same_some h
          exact OutN.val (hfield_sound E hu hf h1 (cX_rel F h2) h5)
        · simp at hc
      · simp at hc
    · simp at hc
  | indexAddr t x i =>
    simp only [cOp] at hc
    split at hc
    · rename_i e x' i' hu h1 h2
      simp only [Option.map_eq_some_iff] at hc
      obtain ⟨s, h3, rfl⟩ := hc
      obtain ⟨ti, h4, h5⟩ := sizeT_info h3
      simp only [hop] at h
      split at h
      · rename_i hok
        obtain ⟨h6, rfl⟩ := same_some h
        exact OutN.val (hindexAddr_sound E hu h4 h5 (cX_rel F h1) (cX_rel F h2) h6 (sOk_ent E hok))
      · simp at h
    · rename_i n e x' i' hu h1 h2
      simp only [Option.map_eq_some_iff] at hc
      obtain ⟨s, h3, rfl⟩ := hc
      obtain ⟨ti, h4, h5⟩ := sizeT_info h3
      obtain ⟨h6, rfl⟩ := same_some h
      exact OutN.val (hindexArr_sound E hu h4 h5 (cX_rel F h1) (cX_rel F h2) h6)
    · rename_i n e i' hu h1 h2
      split at hc
      · rename_i g
        simp only [Option.map_eq_some_iff] at hc
        obtain ⟨s, h3, rfl⟩ := hc
        obtain ⟨ti, h4, h5⟩ := sizeT_info h3
        simp only [hop] at h
        split at h
        · rename_i hh hp
          obtain ⟨h6, rfl⟩ := same_some h
          exact OutN.val (hindexArr_sound E hu h4 h5 (gpin_rel E hp) (cX_rel F h2) h6)
        · simp at h
      · simp at hc
    · simp at hc
  | index t x i =>
    simp only [cOp] at hc
    split at hc
    · rename_i x' i' hu h1 h2
      simp at hc; subst hc
      obtain ⟨h6, rfl⟩ := same_some h
      exact OutN.val (hindexStr_sound E hu (cX_rel F h1) (cX_rel F h2) h6)
    · rename_i n e x' i' hu h1 h2
      split at hc
      · rename_i s aa h3 h4
        simp at hc; subst hc
        obtain ⟨ti, h5, h7⟩ := sizeT_info h3
        obtain ⟨h6, rfl⟩ := same_some h
        exact OutN.val (hindexVal_sound E hu h5 h7 h4 (cX_rel F h1) (cX_rel F h2) h6)
      · simp at hc
    · simp at hc
  | slice t x lo hi mx =>
    simp only [cOp] at hc
    split at hc
    · rename_i x' lo' hi' hu h1 h2 h3 h4
      simp at hc; subst hc
      obtain ⟨h6, rfl⟩ := same_some h
      have hmx : mx = none := by
        cases mx with
        | none => rfl
        | some m => simp [cXo] at h4
      subst hmx
      exact OutN.val (hsliceStr_sound E hu (cX_rel F h1) (cXo_rel F h2) (cXo_rel F h3) h6)
    · rename_i e x' lo' hi' mx' hu h1 h2 h3 h4
      simp only [Option.map_eq_some_iff] at hc
      obtain ⟨s, h5, rfl⟩ := hc
      obtain ⟨ti, h7, h8⟩ := sizeT_info h5
      simp only [hop] at h
      split at h
      · rename_i hok
        obtain ⟨h6, rfl⟩ := same_some h
        exact OutN.val (hslice_sound E hu h7 h8 (cX_rel F h1) (cXo_rel F h2) (cXo_rel F h3) (cXo_rel F h4) (sOk_ent E hok) h6)
      · simp at h
    · rename_i n e x' lo' hi' mx' hu h1 h2 h3 h4
      simp only [Option.map_eq_some_iff] at hc
      obtain ⟨s, h5, rfl⟩ := hc
      obtain ⟨ti, h7, h8⟩ := sizeT_info h5
      obtain ⟨h6, rfl⟩ := same_some h
      exact OutN.val (hsliceArr_sound E hu h7 h8 (cX_rel F h1) (cXo_rel F h2) (cXo_rel F h3) (cXo_rel F h4) h6)
    · simp at hc
  | makeSlice t l c =>
    simp only [cOp] at hc
    split at hc
    · rename_i e l' c' hu h1 h2
      split at hc
      · rename_i i hi
        split at hc
        · rename_i z hz
          simp at hc; subst hc
          simp only [Option.bind_eq_some_iff] at hz
          obtain ⟨zv, hz1, hz2⟩ := hz
          simp only [hop] at h
          have hone : z.cells.all HV.one = true := by
            unfold hmakeSlice at h
            split at h
            · split at h
              · rename_i hcond; exact hcond.2.2.2.2.2
              · simp at h
            · simp at h
          exact OutN.val (hmakeSlice_sound E hu hi hz1 rfl rfl ((cVal_rel β zv z hz2).cells (cells_ne_undef hone)) (cX_rel F h1) (cX_rel F h2) h)
        · simp at hc
      · simp at hc
    · simp at hc
  | makeMap t r =>
    cases r with
    | some r => simp [cOp] at hc
    | none =>
      simp [cOp] at hc; subst hc
      simp only [hop] at h
      exact OutN.val (hmakeMap_sound E h)
  | lookup t m k ok =>
    simp only [cOp] at hc
    split at hc
    · rename_i kt et hu
      split at hc
      · rename_i kk z m' k' h1 h2 h3 h4
        simp at hc; subst hc
        obtain ⟨i, zv, g1, g2, g3⟩ := zeroT_info h2
        obtain ⟨h6, rfl⟩ := same_some h
        exact OutN.val (hlookup_sound E hu h1 g1 g2 (cVal_rel β zv z g3) (cX_rel F h3) (cX_rel F h4) h6)
      · simp at hc
    · simp at hc
  | mapUpdate t m k x =>
    simp only [cOp] at hc
    split at hc
    · rename_i kt et hu
      split at hc
      · rename_i kk m' k' x' h1 h2 h3 h4
        simp at hc; subst hc
        obtain ⟨h6, rfl⟩ := unit_some h
        exact OutN.skip (hmapUpdate_sound E hu h1 (cX_rel F h2) (cX_rel F h3) (cX_rel F h4) h6)
      · simp at hc
    · simp at hc
  | insert t m k x =>
    simp only [cOp] at hc
    split at hc
    · rename_i kt et hu
      split at hc
      · rename_i kk m' k' x' h1 h2 h3 h4
        simp at hc; subst hc
        obtain ⟨h6, rfl⟩ := unit_some h
        exact OutN.skip (hmapUpdate_sound E hu h1 (cX_rel F h2) (cX_rel F h3) (cX_rel F h4) h6)
      · simp at hc
    · simp at hc
  | range t x =>
    simp only [cOp] at hc
    split at hc
    · rename_i hu
      simp only [Option.map_eq_some_iff] at hc
      obtain ⟨x', h1, rfl⟩ := hc
      simp only [hop] at h
      exact OutN.val (hrangeStr_sound E hu (cX_rel F h1) h)
    · rename_i kt et hu
      simp only [Option.map_eq_some_iff] at hc
      obtain ⟨x', h1, rfl⟩ := hc
      simp only [hop] at h
      exact OutN.val (hrangeMap_sound E hu (cX_rel F h1) h)
    · simp at hc
  | next x b =>
    cases b with
    | false => simp [cOp] at hc
    | true =>
      simp only [cOp, Option.map_eq_some_iff] at hc
      obtain ⟨x', h1, rfl⟩ := hc
      simp only [hop] at h
      exact OutN.val (hnextStr_sound E (cX_rel F h1) h)
  | makeInterface t x =>
    simp only [cOp] at hc
    split at hc
    · rename_i hn
      simp only [Option.map_eq_some_iff] at hc
      obtain ⟨x', h1, rfl⟩ := hc
      simp [hop] at h; obtain ⟨rfl, rfl⟩ := h
      exact OutN.val (hiface_sound E hn (cX_rel F h1))
    · simp at hc
  | typeAssert x xt t ok =>
    simp only [cOp] at hc
    split at hc
    · rename_i hn
      split at hc
      · rename_i z x' h1 h2
        simp at hc; subst hc
        obtain ⟨i, zv, g1, g2, g3⟩ := zeroT_info h1
        obtain ⟨h6, rfl⟩ := same_some h
        exact OutN.val (hassert_sound E hn g1 g2 (cVal_rel β zv z g3) (cX_rel F h2) h6)
      · simp at hc
    · simp at hc
  | makeFunc fn first captured =>
    simp only [cOp] at hc
    split at hc
    · rename_i hp
      split at hc
      · rename_i f c h1 h2
        simp at hc; subst hc
        simp [hop] at h; obtain ⟨rfl, rfl⟩ := h
        refine ⟨.value (.func fn (first.map a.eval) (captured.map a.eval)), w, β, rfl, .inl ⟨_, rfl, ?_⟩, Step.refl E⟩
        refine ⟨_, _, rfl, ?_, ?_, hp⟩
        · rw [Array.toList_map]; exact cXs_rel F h1
        · rw [Array.toList_map]; exact cXs_rel F h2
      · simp at hc
    · simp at hc
  | extract x i =>
    simp only [cOp, Option.map_eq_some_iff] at hc
    obtain ⟨x', h1, rfl⟩ := hc
    obtain ⟨h2, rfl⟩ := same_some h
    exact OutN.val (hext_sound E (cX_rel F h1) h2)
  | call c =>
    obtain ⟨callee, args, argTypes⟩ := c
    cases callee with
    | value f => simp [cOp] at hc
    | invoke r m => simp [cOp] at hc
    | builtin b =>
      obtain ⟨al⟩ := args
      obtain ⟨tl⟩ := argTypes
      simp only [cOp] at hc
      have ex : ∀ (x : Sem Value), builtin b ⟨tl⟩ type (al.toArray.map fun | .const _ => true | _ => false) (al.toArray.map a.eval) = (do pure (.value (← x))) →
          execOp a.eval ⟨dst, .call ⟨.builtin b, ⟨al⟩, ⟨tl⟩⟩, type, pos, after, guard⟩ = (do pure (.value (← x))) := by
        intro x hx
        simp only [execOp, resolve, pure_bind, invoke]
        exact hx
      split at hc
      · rename_i x t
        split at hc
        · rename_i k x' h3 h4
          simp at hc; subst hc
          obtain ⟨h5, rfl⟩ := same_some h
          rw [ex (Builtin.len_ #[t] type #[a.eval x]) (by simp [builtin])]
          exact OutN.val (hlenK_sound E h3 (cX_rel F h4) h5)
        · simp at hc
      · rename_i x y t tx
        split at hc
        · rename_i e d x' y' h3 h4 h5 h6
          split at hc
          · rename_i hk
            split at hc
            · rename_i i hi
              split at hc
              · rename_i z hz
                split at hc
                · rename_i hzs
                  simp at hc; subst hc
                  simp only [hop] at h
                  rw [ex (Builtin.append_ #[t, tx] type #[a.eval x, a.eval y]) (by simp [builtin])]
                  refine OutN.val (happend_sound E h3 hi hz rfl rfl hzs ?_ (cX_rel F h5) (cX_rel F h6) h)
                  cases d <;> simp [appSrc] at hk
                  · exact .inr h4
                  · exact .inl ⟨_, h4⟩
                · simp at hc
              · simp at hc
            · simp at hc
          · simp at hc
        · simp at hc
      · rename_i x y t tx
        split at hc
        · rename_i e x' y' h3 h5 h6
          simp only [Option.map_eq_some_iff] at hc
          obtain ⟨s, h7, rfl⟩ := hc
          obtain ⟨i, h8, h9⟩ := sizeT_info h7
          simp only [hop] at h
          rw [ex (Builtin.copy_ #[t, tx] type #[a.eval x, a.eval y]) (by simp [builtin])]
          exact OutN.val (hcopy_sound E h3 h8 h9 (cX_rel F h5) (cX_rel F h6) h)
        · simp at hc
      · rename_i m k t tx
        split at hc
        · rename_i kt et hu
          split at hc
          · rename_i kk m' k' h3 h4 h5
            simp at hc; subst hc
            simp only [hop, Option.map_eq_some_iff] at h
            obtain ⟨hs1, h6, h7⟩ := h
            simp at h7; obtain ⟨rfl, rfl⟩ := h7
            rw [ex (Builtin.delete_ #[t, tx] type #[a.eval m, a.eval k]) (by simp [builtin])]
            exact OutN.val (hdelete_sound E hu h3 (cX_rel F h4) (cX_rel F h5) h6)
          · simp at hc
        · simp at hc
      · rename_i m t
        split at hc
        · rename_i kt et hu
          simp only [Option.map_eq_some_iff] at hc
          obtain ⟨m', h3, rfl⟩ := hc
          simp only [hop, Option.map_eq_some_iff] at h
          obtain ⟨hs1, h6, h7⟩ := h
          simp at h7; obtain ⟨rfl, rfl⟩ := h7
          rw [ex (Builtin.clear_ #[t] type #[a.eval m]) (by simp [builtin])]
          exact OutN.val (hclearMap_sound E hu (cX_rel F h3) h6)
        · simp at hc
      · rename_i xs ts
        simp only [Option.map_eq_some_iff] at hc
        obtain ⟨xs', h1, rfl⟩ := hc
        obtain ⟨h2, rfl⟩ := same_some h
        rw [ex (Builtin.min_ ⟨tl⟩ type (al.map a.eval).toArray) (by simp [builtin])]
        exact OutN.val (hmin_sound E _ _ _ (cXs_rel F h1) h2)
      · rename_i xs ts
        simp only [Option.map_eq_some_iff] at hc
        obtain ⟨xs', h1, rfl⟩ := hc
        obtain ⟨h2, rfl⟩ := same_some h
        rw [ex (Builtin.max_ ⟨tl⟩ type (al.map a.eval).toArray) (by simp [builtin])]
        exact OutN.val (hmax_sound E _ _ _ (cXs_rel F h1) h2)
      · rename_i x t
        split at hc
        · rename_i e hu
          simp only [Option.map_eq_some_iff] at hc
          obtain ⟨x', h1, rfl⟩ := hc
          obtain ⟨h2, rfl⟩ := same_some h
          rw [ex (Builtin.cap_ #[t] type #[a.eval x]) (by simp [builtin])]
          exact OutN.val (hcap_sound E hu (cX_rel F h1) h2)
        · simp at hc
      · simp at hc
  | ready g => simp [cOp] at hc
  | waits g => simp [cOp] at hc
  | sliceToArrayPointer d x => simp [cOp] at hc
  | makeChan t s => simp [cOp] at hc
  | mapEntry t m k => simp [cOp] at hc
  | entryStore t m k v => simp [cOp] at hc
  | entry x =>
    simp only [cOp, Option.map_eq_some_iff] at hc
    obtain ⟨x', h1, rfl⟩ := hc
    obtain ⟨h2, rfl⟩ := same_some h
    exact OutN.val (hentry_sound E (cX_rel F h1) h2)
  | go c => simp [cOp] at hc
  | defer c => simp [cOp] at hc
  | panic x => simp [cOp] at hc
  | send c x => simp [cOp] at hc
  | recv t c b => simp [cOp] at hc
  | select c b => simp [cOp] at hc

end
end Go.HL
