/-
  HL: maps.Keys and slices.Sorted at keys that are ints, by what the kit says of them; for maps of one entry at most.
-/
import Derived.Test.YtapnhneddckfjaaHLStr
import Derived.Lib.SlKeysI
import Derived.Maps.Own
namespace Go.HL
open Go Go.RowKit

/-- maps.Keys; g: the function literal within. -/
def xKeys (g : FuncId) : List HV → HS → Option (HV × HS)
  | [.map h], hs => match hs[h]? with
    | some (some (.map _ _)) => some (.func (.func g) [] [.ptr hs.length 0], hs ++ [some (.kbox h)])
    | _ => none
  | _, _ => none

theorem xKeys_sound {P : Program} {f g : FuncId} {t : TypeId} (hok : okF P f)
    (hK : ∀ (mb : Option Nat) (w : World), Calls P f #[.map mb] w fun e w' => e = .returned (.func (.func g) #[] #[.pointer (some ⟨w.heap.size, 0, none⟩)]) ∧ w' = w.alloc (.cells #[.map mb] t))
    {args : List HV} {hs : HS} {v : HV} {hs' : HS} (h : xKeys g args hs = some (v, hs')) : HCall P f args hs fun v1 hs1 => v1 = v ∧ hs1 = hs' := by
  refine .inl ⟨hok, fun β w us E R => ?_⟩
  unfold xKeys at h
  split at h
  · rename_i hm
    split at h
    · rename_i es clock hb
      simp at h; obtain ⟨rfl, rfl⟩ := h
      simp only [RelL, Rel] at R
      obtain ⟨_, _, rfl, ⟨e, he, rfl⟩, rfl⟩ := R
      refine (hK (some e.blk) w).mono ?_
      rintro e' w' ⟨rfl, rfl⟩
      have S := Step.new E (.cells #[.map (some e.blk)] t) ⟨w.heap.size, 0, 1, 1⟩ (.kbox hm) rfl ⟨rfl, t, (0, 0), e, heap_alloc_new _ _, (Ext.snoc _ _).get he⟩
      refine ⟨_, _, _, _, rfl, ⟨rfl, rfl⟩, ?_, S⟩
      simp only [Rel, RelL]
      refine ⟨#[], #[.pointer (some ⟨w.heap.size, 0, none⟩)], rfl, rfl, ⟨_, [], rfl, ⟨⟨w.heap.size, 0, 1, 1⟩, ?_, rfl⟩, rfl⟩, rfl⟩
      rw [← E.len]; exact get_snoc_last _ _
    · simp at h
  · simp at h

/-- what a call makes anew and hands back: a row of whole cells. -/
theorem Step.belowRow {β : List Ent} {hs : HS} {w w' : World} (E : Emb β hs w) (h : Below w.heap.size w w') {g n cap : Nat} {cur : Array Value} {t : TypeId} {cs : List HV} (hg : w.heap.size ≤ g) (hb : w'.heap[g]? = some (.cells cur t (0, 0))) (hn : n ≤ cap) (hsz : cur.size = cap)
    (hcs : cs.length = n) (hr : ∀ (i : Nat) (x : HV), cs[i]? = some x → ∃ u, cur[i]? = some u ∧ Rel (β ++ [⟨g, 0, cap, 1⟩]) x u ∧ x.one = true) :
    Step β hs w (β ++ [⟨g, 0, cap, 1⟩]) (hs ++ [some (.cells 1 cs false true [])]) w' ∧ Rel (β ++ [⟨g, 0, cap, 1⟩]) (.slice hs.length 0 n none) (.slice (some ⟨g, 0, none⟩) n cap) := by
  have key : ∀ (i : Nat) (e' : Ent) (b' : HB), (β ++ [⟨g, 0, cap, 1⟩])[i]? = some e' → (hs ++ [some (.cells 1 cs false true [])])[i]? = some (some b') →
      (β[i]? = some e' ∧ hs[i]? = some (some b') ∧ e'.blk < w.heap.size) ∨ (i = β.length ∧ e' = ⟨g, 0, cap, 1⟩ ∧ b' = .cells 1 cs false true []) := by
    intro i e' b' h1 h2
    rcases get_snoc h1 with h3 | ⟨h3, h3'⟩
    · rcases get_snoc h2 with h4 | ⟨h4, _⟩
      · exact .inl ⟨h3, h4, (E.blk i e' b' h3 h4).lt⟩
      · have := lt_of_get h3; rw [E.len] at this; omega
    · rcases get_snoc h2 with h4 | ⟨_, h4⟩
      · have := lt_of_get h4; rw [← E.len] at this; omega
      · exact .inr ⟨h3, h3', by simpa using h4⟩
  refine ⟨⟨Ext.snoc _ _, ⟨by simp [E.len], ?_, ?_⟩, h.size, fun k hk _ => h.block k hk, ?_, h.os, h.output, h.tape⟩, ?_⟩
  · intro i e' b' h1 h2
    rcases key i e' b' h1 h2 with ⟨h3, h4, h5⟩ | ⟨_, rfl, rfl⟩
    · exact ((E.blk i e' b' h3 h4).world (h.block _ h5)).mono (Ext.snoc _ _)
    · refine ⟨rfl, cur, t, (0, 0), hb, fun _ => .inl rfl, by simp [hsz], by simp [hcs, hn], fun i x hx => ?_⟩
      simpa using hr i x hx
  · intro i1 i2 e1 e2 b1 b2 hne h1 h2 h3 h4 heq hro
    rcases key i1 e1 b1 h1 h3 with ⟨k1, k2, k3⟩ | ⟨k1, rfl, rfl⟩
    · rcases key i2 e2 b2 h2 h4 with ⟨l1, l2, l3⟩ | ⟨l1, rfl, rfl⟩
      · exact E.sep i1 i2 e1 e2 b1 b2 hne k1 l1 k2 l2 heq hro
      · simp only at heq; omega
    · rcases key i2 e2 b2 h2 h4 with ⟨l1, l2, l3⟩ | ⟨l1, rfl, rfl⟩
      · simp only at heq; omega
      · omega
  · rintro k hk ⟨i, e', b', h1, h2, h3, h4⟩
    rcases key i e' b' h1 h2 with ⟨k1, k2, k3⟩ | ⟨_, rfl, rfl⟩
    · exact ⟨i, e', b', k1, k2, h3, h4⟩
    · simp only at h4; omega
  · simp only [Rel]
    refine ⟨⟨g, 0, cap, 1⟩, ⟨g, 0, none⟩, cap, by rw [← E.len]; exact get_snoc_last _ _, rfl, hn, by simp, fun _ => by simp⟩

/-- slices.Sorted of maps.Keys of a map of one entry at most. -/
def xSortedI (g : FuncId) : List HV → HS → Option (HV × HS)
  | [.func (.func g') [] [.ptr b 0]], hs => if g' = g then match hs[b]? with
    | some (some (.kbox h)) => match hs[h]? with
      | some (some (.map [] _)) => some (.nilSlice, hs)
      | some (some (.map [(.int .i64 k, _, n)] clock)) => if -9223372036854775808 ≤ k ∧ k ≤ 9223372036854775807 ∧ n < clock then some (.slice hs.length 0 1 none, hs ++ [some (.cells 1 [.int .i64 k] false true [])]) else none
      | _ => none
    | _ => none
    else none
  | _, _ => none

theorem xSortedI_sound {P : Program} {f g : FuncId} {kt : TypeId} (hok : okF P f) (hkt : P.underlying kt = some (.int .i64))
    (hS : ∀ (Bm b nn : Nat) (D0 : DataW Unit) (R : Value → Option (DataW Unit × List MemPlace)) (w : World), Bm < w.heap.size → w.cell? ⟨Bm, 0, none⟩ = some (.map (some b)) → w.ownsMap P kt R b nn D0 → Maps.size D0 ≤ 1 →
      Calls P f #[.func (.func g) #[] #[.pointer (some ⟨Bm, 0, none⟩)]] w fun e w' => ∃ (v : Value) (ss : List Int), e = .returned v ∧ ss.Perm (intKeys D0) ∧
        w'.ownsRow w.heap.size kt 1 v ss.length ((ss.mergeSort (fun x y => decide (x ≤ y))).map encZ) ∧ (v = .slice none 0 0 ↔ ss = []) ∧ Below w.heap.size w w')
    {args : List HV} {hs : HS} {v : HV} {hs' : HS} (h : xSortedI g args hs = some (v, hs')) : HCall P f args hs fun v1 hs1 => v1 = v ∧ hs1 = hs' := by
  refine .inl ⟨hok, fun β w us E R => ?_⟩
  unfold xSortedI at h
  split at h
  · rename_i g' b
    split at h
    · rename_i hgg; subst hgg
      split at h
      · rename_i hh hbx
        simp only [RelL, Rel] at R
        obtain ⟨_, _, rfl, ⟨us1, ws1, rfl, h1, ⟨_, _, h2, ⟨e, he, rfl⟩, rfl⟩, _⟩, rfl⟩ := R
        obtain rfl : us1 = #[] := Array.ext' h1
        obtain rfl : ws1 = #[.pointer (some ⟨e.blk, e.shift + 0, none⟩)] := Array.ext' h2
        obtain ⟨h0, t, fz, e', h3, h4⟩ := E.blk b e _ he hbx
        have hlt : e.blk < w.heap.size := lt_of_geta h3
        have hcell : w.cell? ⟨e.blk, 0, none⟩ = some (.map (some e'.blk)) := by simp [World.cell?, h3]
        rw [h0]
        split at h
        · rename_i clock hm
          obtain ⟨res, h5, h6⟩ := E.blk hh e' _ h4 hm
          simp only [RelE] at h6
          obtain rfl : res = #[] := Array.ext' h6
          simp at h; obtain ⟨rfl, rfl⟩ := h
          have hown : w.ownsMap P kt (fun _ => some (DataW.lit (.bool true), [])) e'.blk 0 (.map [] : DataW Unit) :=
            ⟨#[], clock, h5, ⟨by simp, ⟨by simp, by simp, by simp⟩, by simp⟩, by simp, rfl⟩
          refine (hS e.blk e'.blk 0 (.map []) _ w hlt hcell hown (by simp [Maps.size])).mono ?_
          rintro e1 w' ⟨v1, ss, rfl, hp, _, hnil, hbel⟩
          have hss : ss = [] := by simpa [intKeys] using hp
          obtain rfl := hnil.2 hss
          exact ⟨β, _, _, _, rfl, ⟨rfl, rfl⟩, rfl, Step.below E hbel⟩
        · rename_i k vv n clock hm
          split at h
          · rename_i hk
            simp at h; obtain ⟨rfl, rfl⟩ := h
            obtain ⟨res, h5, h6⟩ := E.blk hh e' _ h4 hm
            simp only [RelE, Rel] at h6
            obtain ⟨en, _, h7, hkey, _, hborn, rfl⟩ := h6
            obtain rfl : res = #[en] := Array.ext' h7
            have hwf : (Lit.int .i64 k).wf = true := by
              have e1 : IntKind.i64.min = -9223372036854775808 := by decide
              have e2 : IntKind.i64.max = 9223372036854775807 := by decide
              show (decide (IntKind.i64.min ≤ k) && decide (k ≤ IntKind.i64.max)) = true
              rw [e1, e2]
              simp [hk.1, hk.2.1]
            have hkof : keyOf P kt en.key = some (.int .i64 k) := by
              rw [hkey]
              simp [keyOf, hkt, mapKey, hwf]
            have hrd : Go.WideElems.rd P kt (fun _ => some ((DataW.lit (.bool true) : DataW Unit), [])) en = some (.int .i64 k, .lit (.bool true)) := by
              simp [Go.WideElems.rd, hkof]
            have hown : w.ownsMap P kt (fun _ => some (DataW.lit (.bool true), [])) e'.blk 1 (.map [(.int .i64 k, .lit (.bool true))] : DataW Unit) := by
              refine ⟨#[en], clock, h5, ⟨by simp [maxLen], ⟨by simp [hborn, hk.2.2], by simp, by simp⟩, fun x hx => ?_⟩, by simp, ?_⟩
              · simp at hx; subst hx; exact ⟨_, hrd⟩
              · simp [Go.WideElems.rg, hrd, DataW.insert]
            refine (hS e.blk e'.blk 1 (.map [(.int .i64 k, .lit (.bool true))]) _ w hlt hcell hown (by simp [Maps.size])).mono ?_
            rintro e1 w' ⟨v1, ss, rfl, hp, hrow, hnil, hbel⟩
            have hss : ss = [k] := by simpa [intKeys, intOf] using hp
            subst hss
            rcases hrow.2 with ⟨rfl, hz⟩ | ⟨gb, cap, cur, rfl, hbase, hgb, r1, r2, r3, r4⟩
            · simp at hz
            · have hc0 : cur[0]? = some (.int .i64 k) := by
                have h8 : (cur.toList.take 1)[0]? = some (.int .i64 k) := by
                  have : cur.toList.take 1 = [.int .i64 k] := by simpa [encZ] using r4
                  rw [this]; rfl
                rw [List.getElem?_take_of_lt (by omega)] at h8
                simpa using h8
              obtain ⟨S, hr⟩ := Step.belowRow (cs := [.int .i64 k]) E hbel hbase hgb r1 (by simpa using r3) rfl (fun i x hx => by
                cases i with
                | zero => simp at hx; subst hx; exact ⟨_, hc0, rfl, rfl⟩
                | succ i => simp at hx)
              exact ⟨_, _, _, _, rfl, ⟨rfl, rfl⟩, hr, S⟩
          · simp at h
        · simp at h
      · simp at h
    · simp at h
  · simp at h
end Go.HL
