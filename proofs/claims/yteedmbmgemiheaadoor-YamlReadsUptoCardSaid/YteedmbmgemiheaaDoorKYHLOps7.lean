/-
  HL: how far a slice may grow; ranges over maps.
-/
import Derived.Test.YteedmbmgemiheaaDoorKYHLOps6
import Derived.Maps.RangeRun
namespace Go.HL
open Go
section
variable {P : Program} {β : List Ent} {hs : HS} {w : World}

def hcap : HV → Option HV
  | .nilSlice => some (.int .i64 0)
  | .slice _ _ _ (some c) => some (.int .i64 c)
  | _ => none

theorem hcap_sound (E : Emb β hs w) {t ty e : TypeId} {x v : HV} {u : Value} (hu : P.underlying t = some (.slice e)) (hx : Rel β x u) (h : hcap x = some v) : Out P (Builtin.cap_ #[t] ty #[u]) β hs w v hs := by
  unfold hcap at h
  split at h
  · simp at h; subst h
    simp only [Rel] at hx; subst hx
    exact Out.same E (u := .int .i64 0) (by simp [Builtin.cap_, run_underlying hu, goInt]) rfl
  · rename_i c
    simp at h; subst h
    simp only [Rel] at hx
    obtain ⟨e, a, c', _, rfl, _, ⟨hc, _⟩, _⟩ := hx
    subst hc
    exact Out.same E (u := .int .i64 c') (by simp [Builtin.cap_, run_underlying hu, goInt]) rfl
  · simp at h

def hrangeMap (hs : HS) : HV → Option (HV × HS)
  | .nilMap => some (.ptr hs.length 0, hs ++ [some (.miter none 0 [] 0)])
  | .map h => match hs[h]? with
    | some (some (.map _ clock)) => some (.ptr hs.length 0, hs ++ [some (.miter (some h) clock [] clock)])
    | _ => none
  | _ => none

theorem hrangeMap_sound (E : Emb β hs w) {t kt et : TypeId} {x v : HV} {u : Value} {hs' : HS} (ht : P.underlying t = some (.map kt et)) (hx : Rel β x u) (h : hrangeMap hs x = some (v, hs')) : Out P (Instr.range t u) β hs w v hs' := by
  unfold hrangeMap at h
  split at h
  · simp at h; obtain ⟨rfl, rfl⟩ := h
    simp only [Rel] at hx; subst hx
    have S := Step.new E (.mapIter none 0 #[] 0) ⟨w.heap.size, 0, 0, 0⟩ (.miter none 0 [] 0) rfl ⟨rfl, none, heap_alloc_new _ _, rfl⟩
    refine ⟨.pointer (some ⟨w.heap.size, 0, none⟩), _, _, ?_, ?_, S⟩
    · simp [Instr.range, run_underlying ht]
    · simp only [Rel]
      exact ⟨_, by rw [← E.len]; exact get_snoc_last _ _, by simp⟩
  · rename_i hm
    split at h
    · rename_i es clock hb
      simp at h; obtain ⟨rfl, rfl⟩ := h
      simp only [Rel] at hx
      obtain ⟨e, he, rfl⟩ := hx
      obtain ⟨res, h1, h2⟩ := E.blk hm e _ he hb
      have S := Step.new E (.mapIter (some e.blk) clock #[] clock) ⟨w.heap.size, 0, 0, 0⟩ (.miter (some hm) clock [] clock) rfl ⟨rfl, some e.blk, heap_alloc_new _ _, e, (Ext.snoc _ _).get he, rfl⟩
      refine ⟨.pointer (some ⟨w.heap.size, 0, none⟩), _, _, ?_, ?_, S⟩
      · simp [Instr.range, run_underlying ht, getObj, Sem.run, h1]
      · simp only [Rel]
        exact ⟨_, by rw [← E.len]; exact get_snoc_last _ _, by simp⟩
    · simp at h
  · simp at h

def leftE (es : List (HV × HV × Nat)) (seen : List Nat) : List (HV × HV × Nat) := es.filter fun e => !seen.contains e.2.2

theorem RelE.left {seen : List Nat} : ∀ {es : List (HV × HV × Nat)} {l : List MapEntry}, RelE β es l → RelE β (leftE es seen) (l.filter fun e => !seen.contains e.born)
  | [], l, h => by simp only [RelE] at h; subst h; simp [leftE, RelE]
  | (k, v, n) :: es, l, h => by
    simp only [RelE] at h
    obtain ⟨e, es', rfl, h1, h2, rfl, h4⟩ := h
    have ih := RelE.left (seen := seen) h4
    unfold leftE at ih ⊢
    simp only [List.filter_cons]
    split
    · simp only [RelE]
      exact ⟨e, _, rfl, h1, h2, rfl, ih⟩
    · exact ih

theorem RelE.all {f : Nat → Bool} : ∀ {es : List (HV × HV × Nat)} {l : List MapEntry}, RelE β es l → l.all (fun e => f e.born) = es.all fun e => f e.2.2
  | [], l, h => by simp only [RelE] at h; subst h; rfl
  | (k, v, n) :: es, l, h => by
    simp only [RelE] at h
    obtain ⟨e, es', rfl, h1, h2, rfl, h4⟩ := h
    simp only [List.all_cons, RelE.all h4]

theorem RelE.mem : ∀ {es : List (HV × HV × Nat)} {l : List MapEntry}, RelE β es l → ∀ e ∈ l, ∃ k v, (k, v, e.born) ∈ es ∧ Rel β k e.key ∧ Rel β v e.val
  | [], l, h, e, he => by simp only [RelE] at h; subst h; simp at he
  | (k, v, n) :: es, l, h, e, he => by
    simp only [RelE] at h
    obtain ⟨e', es', rfl, h1, h2, rfl, h4⟩ := h
    rcases List.mem_cons.1 he with rfl | he
    · exact ⟨k, v, List.mem_cons_self .., h1, h2⟩
    · obtain ⟨k', v', g1, g2⟩ := RelE.mem h4 e he
      exact ⟨k', v', List.mem_cons_of_mem _ g1, g2⟩

theorem RelE.nil_iff : ∀ {es : List (HV × HV × Nat)} {l : List MapEntry}, RelE β es l → l = [] → es = []
  | [], l, h, _ => rfl
  | (k, v, n) :: es, l, h, hl => by
    simp only [RelE] at h
    obtain ⟨e', es', rfl, _⟩ := h
    simp at hl

/-- the next entry of a range over a map: every one that is left may come. -/
def hnextAll (hs : HS) : HV → Option (List (HV × HS))
  | .ptr h 0 =>
    match hs[h]? with
    | some (some (.miter none _ _ _)) => some [(.tup [.bool false], hs)]
    | some (some (.miter (some m) since seen last)) =>
      match hs[m]? with
      | some (some (.map es clock)) =>
        if es.all (fun e => decide (e.2.2 < since)) = true ∧ since ≤ last then
          match leftE es seen with
          | [] => some [(.tup [.bool false], hs)]
          | l => some (l.map fun e => (.tup [.bool true, e.1, e.2.1], hs.set h (some (.miter (some m) since (seen ++ [e.2.2]) clock))))
        else none
      | _ => none
    | _ => none
  | _ => none

theorem hnextAll_sound (E : Emb β hs w) {ty : TypeId} {x : HV} {u : Value} {l : List (HV × HS)} (hx : Rel β x u) (h : hnextAll hs x = some l) : ∃ v hs', (v, hs') ∈ l ∧ Out P (Instr.next u false ty) β hs w v hs' := by
  unfold hnextAll at h
  split at h
  · rename_i hh
    simp only [Rel] at hx
    obtain ⟨e, he, rfl⟩ := hx
    split at h
    · rename_i since seen last hb
      obtain ⟨h0, mb, h1, h2⟩ := E.blk hh e _ he hb
      simp only at h2; subst h2
      simp at h; subst h
      refine ⟨_, _, List.mem_singleton.2 rfl, Out.same E (u := .tuple #[.bool false]) ?_ ⟨_, rfl, _, _, rfl, rfl, rfl⟩⟩
      simp [Instr.next, h0, getObj, Sem.run, h1]
    · rename_i m since seen last hb
      obtain ⟨h0, mb, h1, e', he', hmb⟩ := E.blk hh e _ he hb
      subst hmb
      split at h
      · rename_i es clock hm
        obtain ⟨res, h3, h4⟩ := E.blk m e' _ he' hm
        split at h
        · rename_i hold
          have hold' : ∀ x ∈ res.toList, x.born < since := by
            intro x hx
            have h5 := RelE.all (f := fun n => decide (n < since)) h4
            rw [hold.1, List.all_eq_true] at h5
            simpa using h5 x hx
          have hleft := RelE.left (seen := seen) h4
          have hlo : (leftOf res seen.toArray).toList = res.toList.filter fun e => !seen.contains e.born := by simp [leftOf]
          rw [← hlo] at hleft
          have hptr : (⟨e.blk, e.shift + 0, none⟩ : Addr) = ⟨e.blk, 0, none⟩ := by rw [h0]
          rw [hptr]
          rcases run_next_at (P := P) w ty e.blk e'.blk since last seen.toArray res clock h1 h3 hold' hold.2 with ⟨hz, hrun⟩ | ⟨en, hen, w1, hw1, hrun⟩
          · have hnil : leftE es seen = [] := hleft.nil_iff (by
              apply List.eq_nil_of_length_eq_zero
              rw [Array.length_toList]; exact hz)
            rw [hnil] at h
            simp at h; subst h
            exact ⟨_, _, List.mem_singleton.2 rfl, Out.same E hrun ⟨_, rfl, _, _, rfl, rfl, rfl⟩⟩
          · obtain ⟨k, v, hkv, r1, r2⟩ := hleft.mem en hen
            have hl : l = (leftE es seen).map fun e => (.tup [.bool true, e.1, e.2.1], hs.set hh (some (.miter (some m) since (seen ++ [e.2.2]) clock))) := by
              split at h
              · rename_i hnil
                rw [hnil] at hkv; simp at hkv
              · simp at h; rw [← h]
            refine ⟨.tup [.bool true, k, v], hs.set hh (some (.miter (some m) since (seen ++ [en.born]) clock)), ?_, ?_⟩
            · rw [hl]
              exact List.mem_map.2 ⟨_, hkv, rfl⟩
            · have hheap : w1.heap = w.heap := by rcases hw1 with rfl | rfl <;> rfl
              have hos : w1.os = w.os := by rcases hw1 with rfl | rfl <;> rfl
              have hout : w1.output = w.output := by rcases hw1 with rfl | rfl <;> rfl
              have htape : w1.tape = w.tape := by rcases hw1 with rfl | rfl <;> rfl
              have hlt0 := lt_of_geta h1
              have S := Step.upd (w' := Go.ChangeMaps.setBlock w1 e.blk (.mapIter (some e'.blk) since (seen.toArray.push en.born) clock)) E (b' := .miter (some m) since (seen ++ [en.born]) clock) he hb rfl rfl
                (by simp [Go.ChangeMaps.setBlock, hheap])
                (fun k hk => by simp [Go.ChangeMaps.setBlock, hheap, Array.getElem?_setIfInBounds_ne (Ne.symm hk)]) ⟨h0, some e'.blk, by simp [Go.ChangeMaps.setBlock, hheap, hlt0], e', he', rfl⟩ hos hout htape
              simp only [HB.olds, killAll, List.foldl_nil] at S
              exact ⟨.tuple #[.bool true, en.key, en.val], _, β, hrun, ⟨_, rfl, _, _, rfl, rfl, _, _, rfl, r1, _, _, rfl, r2, rfl⟩, S⟩
        · simp at h
      · simp at h
    · simp at h
  · simp at h

def hentry (hs : HS) : HV → Option HV
  | .ptr h 0 =>
    match hs[h]? with
    | some (some (.miter (some m) _ seen stepped)) =>
      match hs[m]? with
      | some (some (.map es clock)) =>
        match seen.getLast? with
        | some n => if clock = stepped then (match es.find? (fun e => e.2.2 == n) with
          | some (k, v, _) => some (.tup [k, v])
          | none => none) else none
        | none => none
      | _ => none
    | _ => none
  | _ => none

theorem RelE.find {n : Nat} {k v : HV} {m : Nat} : ∀ {es : List (HV × HV × Nat)} {l : List MapEntry}, RelE β es l → es.find? (fun e => e.2.2 == n) = some (k, v, m) → ∃ e, l.find? (fun e => e.born == n) = some e ∧ Rel β k e.key ∧ Rel β v e.val
  | [], l, h, hf => by simp at hf
  | (k', v', n') :: es, l, h, hf => by
    simp only [RelE] at h
    obtain ⟨e, es', rfl, h1, h2, rfl, h4⟩ := h
    have hf' : (match (e.born == n) with | true => some (k', v', e.born) | false => es.find? (fun e => e.2.2 == n)) = some (k, v, m) := hf
    have hg : (e :: es').find? (fun e => e.born == n) = match (e.born == n) with | true => some e | false => es'.find? (fun e => e.born == n) := rfl
    rw [hg]
    cases hq : (e.born == n) with
    | true =>
      rw [hq] at hf'
      simp at hf'; obtain ⟨rfl, rfl, rfl⟩ := hf'
      exact ⟨e, rfl, h1, h2⟩
    | false =>
      rw [hq] at hf'
      exact RelE.find h4 hf'

theorem hentry_sound (E : Emb β hs w) {x v : HV} {u : Value} (hx : Rel β x u) (h : hentry hs x = some v) : Out P (Instr.entry u) β hs w v hs := by
  unfold hentry at h
  split at h
  · rename_i hh
    simp only [Rel] at hx
    obtain ⟨e, he, rfl⟩ := hx
    split at h
    · rename_i m since seen stepped hb
      obtain ⟨h0, mb, h1, e', he', hmb⟩ := E.blk hh e _ he hb
      subst hmb
      split at h
      · rename_i es clock hm
        obtain ⟨res, h3, h4⟩ := E.blk m e' _ he' hm
        split at h
        · rename_i n hn
          split at h
          · rename_i hc
            subst hc
            split at h
            · rename_i k v' m' hf
              simp at h; subst h
              obtain ⟨en, g1, g2, g3⟩ := h4.find hf
              have g1' : res.find? (fun e => e.born == n) = some en := by rw [← Array.find?_toList]; exact g1
              have hn' : seen.toArray.back? = some n := by simpa using hn
              refine Out.same E (u := .tuple #[en.key, en.val]) ?_ ⟨_, rfl, _, _, rfl, g2, _, _, rfl, g3, rfl⟩
              simp only [Instr.entry, h0, Nat.zero_add, getObj, Sem.run_bind, Sem.run, h1, h3, Result.andThen, hn', bne_self_eq_false, Bool.false_eq_true, if_false, g1']
              rfl
            · simp at h
          · simp at h
        · simp at h
      · simp at h
    · simp at h
  · simp at h
end
end Go.HL
