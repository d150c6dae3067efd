/- Maps keyed by int, their elements of whatever kind: what the operations do, on plain lists of pairs. -/
import Derived.Test.YtkofjejdgdhapaaBase
import Derived.Maps.RangeWalk
namespace Go.Proofs.Ytkofjejdgdhapaa
open Go.RowKit
open Go.ChangeMaps (setBlock)

section
variable {α : Type}
/-- The entries read as the pairs m; each stamp once, each key once. -/
structure MapRd (enc : α → Value) (es : List MapEntry) (clock : Nat) (m : List (Int × α)) : Prop where
  eq : es.map (fun e => (e.key, e.val)) = m.map (fun p => (Value.int .i64 p.1, enc p.2))
  born : (es.map (·.born)).Nodup
  lt : ∀ e ∈ es, e.born < clock
  nd : (m.map (·.1)).Nodup
def MapAt (w : World) (b : Nat) (enc : α → Value) (m : List (Int × α)) : Prop := ∃ es clock, w.heap[b]? = some (.map es clock) ∧ MapRd enc es.toList clock m
def getM (m : List (Int × α)) (k : Int) : Option α := (m.find? (fun p => p.1 == k)).map (·.2)
def delM (m : List (Int × α)) (k : Int) : List (Int × α) := m.filter (fun p => p.1 != k)
def putM (m : List (Int × α)) (k : Int) (x : α) : List (Int × α) := if (getM m k).isSome then m.map (fun p => if p.1 == k then (k, x) else p) else m ++ [(k, x)]

theorem MapRd.length {enc : α → Value} {es : List MapEntry} {clock : Nat} {m : List (Int × α)} (h : MapRd enc es clock m) : es.length = m.length := by
  have := congrArg List.length h.eq
  simpa using this
theorem MapRd.get {enc : α → Value} {es : List MapEntry} {clock : Nat} {m : List (Int × α)} (h : MapRd enc es clock m) {i : Nat} {e : MapEntry} (hi : es[i]? = some e) : ∃ k x, m[i]? = some (k, x) ∧ e.key = .int .i64 k ∧ e.val = enc x := by
  have h1 : (es.map (fun e => (e.key, e.val)))[i]? = some (e.key, e.val) := by simp [hi]
  rw [h.eq, List.getElem?_map] at h1
  cases hm : m[i]? with
  | none => rw [hm] at h1; simp at h1
  | some p =>
    rw [hm] at h1
    simp at h1
    exact ⟨p.1, p.2, rfl, h1.1.symm, h1.2.symm⟩
theorem MapRd.get' {enc : α → Value} {es : List MapEntry} {clock : Nat} {m : List (Int × α)} (h : MapRd enc es clock m) {i : Nat} {k : Int} {x : α} (hi : m[i]? = some (k, x)) : ∃ e, es[i]? = some e ∧ e.key = .int .i64 k ∧ e.val = enc x := by
  have hl : i < es.length := by rw [h.length]; exact (List.getElem?_eq_some_iff.1 hi).1
  obtain ⟨k', x', h1, h2, h3⟩ := h.get (List.getElem?_eq_getElem hl)
  rw [hi] at h1
  cases h1
  exact ⟨_, List.getElem?_eq_getElem hl, h2, h3⟩
theorem getM_none {m : List (Int × α)} {k : Int} : getM m k = none ↔ ∀ p ∈ m, p.1 ≠ k := by
  unfold getM
  simp only [Option.map_eq_none_iff, List.find?_eq_none, beq_iff_eq]
theorem nodup_index {m : List (Int × α)} (hn : (m.map (·.1)).Nodup) {i j : Nat} {p q : Int × α} (hi : m[i]? = some p) (hj : m[j]? = some q) (h : p.1 = q.1) : i = j := by
  have h1 : (m.map (·.1))[i]? = some p.1 := by simp [hi]
  have h2 : (m.map (·.1))[j]? = some p.1 := by simp [hj, h]
  have hil : i < (m.map (·.1)).length := (List.getElem?_eq_some_iff.1 h1).1
  exact (List.getElem?_inj hil hn).1 (h1.trans h2.symm)
theorem getM_some {m : List (Int × α)} (hn : (m.map (·.1)).Nodup) {k : Int} {x : α} : getM m k = some x ↔ (k, x) ∈ m := by
  unfold getM
  constructor
  · intro h
    cases hf : m.find? (fun p => p.1 == k) with
    | none => rw [hf] at h; simp at h
    | some p =>
      rw [hf] at h
      simp at h
      have h1 := List.find?_some hf
      simp at h1
      have h2 := List.mem_of_find?_eq_some hf
      rw [← h1, ← h]; exact h2
  · intro h
    cases hf : m.find? (fun p => p.1 == k) with
    | none =>
      have := List.find?_eq_none.1 hf _ h
      simp at this
    | some p =>
      have h1 := List.find?_some hf
      simp at h1
      have h2 := List.mem_of_find?_eq_some hf
      obtain ⟨i, hi⟩ := List.mem_iff_getElem?.1 h2
      obtain ⟨j, hj⟩ := List.mem_iff_getElem?.1 h
      have := nodup_index hn hi hj h1
      subst this
      rw [hi] at hj
      cases hj
      rfl
theorem find_spec (enc : α → Value) (k : Int) : ∀ (es : List MapEntry) (m : List (Int × α)) (i : Nat), es.map (fun e => (e.key, e.val)) = m.map (fun p => (Value.int .i64 p.1, enc p.2)) →
    (getM m k = none ∧ Instr.findNow (.int .i64) (.int .i64 k) es i = some none) ∨ ∃ j x, getM m k = some x ∧ m[j]? = some (k, x) ∧ Instr.findNow (.int .i64) (.int .i64 k) es i = some (some (i + j, enc x))
  | [], [], _, _ => .inl ⟨rfl, rfl⟩
  | [], _ :: _, _, h => by simp at h
  | _ :: _, [], _, h => by simp at h
  | e :: es, p :: m, i, h => by
    simp only [List.map_cons, List.cons.injEq, Prod.mk.injEq] at h
    obtain ⟨⟨h1, h2⟩, h3⟩ := h
    by_cases hk : p.1 = k
    · refine .inr ⟨0, p.2, ?_, ?_, ?_⟩
      · simp [getM, hk]
      · simp [← hk]
      · simp [Instr.findNow, h1, Instr.sameNow, hk, h2]
    · have hk' : ¬ k = p.1 := fun h => hk h.symm
      have hs : Instr.sameNow (.int .i64) (.int .i64 k) e.key = some false := by simp [h1, Instr.sameNow, hk']
      have hg : getM (p :: m) k = getM m k := by simp [getM, hk]
      rcases find_spec enc k es m (i + 1) h3 with ⟨h4, h5⟩ | ⟨j, x, h4, h5, h6⟩
      · exact .inl ⟨by rw [hg]; exact h4, by simp [Instr.findNow, hs, h5]⟩
      · exact .inr ⟨j + 1, x, by rw [hg]; exact h4, by simpa using h5, by simp [Instr.findNow, hs, h6]; omega⟩
theorem MapAt.lt {w : World} {b : Nat} {enc : α → Value} {m : List (Int × α)} (h : MapAt w b enc m) : b < w.heap.size := by
  obtain ⟨es, clock, hb, _⟩ := h
  exact size_of hb
theorem MapAt.nd {w : World} {b : Nat} {enc : α → Value} {m : List (Int × α)} (h : MapAt w b enc m) : (m.map (·.1)).Nodup := by
  obtain ⟨es, clock, _, hr⟩ := h
  exact hr.nd
theorem MapAt.of_blk {w w' : World} {b : Nat} {enc : α → Value} {m : List (Int × α)} (h : MapAt w b enc m) (hb : w'.heap[b]? = w.heap[b]?) : MapAt w' b enc m := by
  obtain ⟨es, clock, h1, h2⟩ := h
  exact ⟨es, clock, hb.trans h1, h2⟩
theorem mapAt_made {w : World} {b : Nat} (enc : α → Value) (h : w.heap[b]? = some (.map #[] 0)) : MapAt w b enc [] := ⟨#[], 0, h, ⟨rfl, by simp, by simp, by simp⟩⟩

variable {P : Program} {w : World} {b : Nat} {enc : α → Value} {m : List (Int × α)} {t kt e : TypeId}
theorem run_look (h : MapAt w b enc m) (ht : P.underlying t = some (.map kt e)) (hk : P.underlying kt = some (.int .i64)) {z : Value} (hz : (zeroValue e).run P w = .ok z w) (k : Int) (ok : Bool) :
    (Instr.lookup t (.map (some b)) (.int .i64 k) ok).run P w = .ok (if ok then .tuple #[((getM m k).map enc).getD z, .bool (getM m k).isSome] else ((getM m k).map enc).getD z) w := by
  obtain ⟨es, clock, hb, hr⟩ := h
  have hc := fun e => MapKept.run_checkKey (P := P) (w := w) (kt := kt) (k := .int .i64 k) hk (by rfl) e 9999
  rcases find_spec enc k es.toList m 0 hr.eq with ⟨h1, h2⟩ | ⟨j, x, h1, _, h2⟩
  · have hf := MapKept.run_findKey (P := P) (w := w) hk h2
    cases ok <;> simp [Instr.lookup, run_underlying ht, MapKept.run_getObj_map hb, hc, hf, hz, h1, Result.andThen]
  · have hf := MapKept.run_findKey (P := P) (w := w) hk h2
    cases ok <;> simp [Instr.lookup, run_underlying ht, MapKept.run_getObj_map hb, hc, hf, h1, Result.andThen]
theorem run_len (h : MapAt w b enc m) (ht : P.underlying t = some (.map kt e)) (ty : TypeId) : (Builtin.len_ #[t] ty #[.map (some b)]).run P w = .ok (.int .i64 m.length) w := by
  obtain ⟨es, clock, hb, hr⟩ := h
  have := hr.length
  simp [Builtin.len_, run_underlying ht, MapKept.run_getObj_map hb, goInt, Result.andThen, ← this]
theorem setBlock_below {o' : Obj} {o : Obj} (hb : w.heap[b]? = some o) : (setBlock w b o').heap[b]? = some o' ∧ w.grownBy (setBlock w b o') (some b) ∧ (setBlock w b o').heap.size = w.heap.size := by
  have hlt := size_of hb
  refine ⟨?_, ⟨rfl, rfl, rfl, ?_, fun k hk hne => ?_⟩, ?_⟩
  · simp [setBlock, hlt]
  · simp [setBlock]
  · have : b ≠ k := fun e => hne (by rw [e])
    simp [setBlock, this]
  · simp [setBlock]
theorem delM_eq (hn : (m.map (·.1)).Nodup) {j : Nat} {k : Int} {x : α} (hj : m[j]? = some (k, x)) : delM m k = m.eraseIdx j := by
  unfold delM
  induction m generalizing j with
  | nil => simp at hj
  | cons p m ih =>
    simp only [List.map_cons, List.nodup_cons] at hn
    cases j with
    | zero =>
      simp at hj
      subst hj
      rw [List.eraseIdx_cons_zero, List.filter_cons_of_neg (by simp)]
      refine List.filter_eq_self.2 fun q hq => ?_
      have : q.1 ≠ k := fun h => hn.1 (by rw [← h]; exact List.mem_map.2 ⟨q, hq, rfl⟩)
      simpa using this
    | succ j =>
      simp at hj
      have hne : p.1 ≠ k := fun h => hn.1 (by rw [h]; exact List.mem_map.2 ⟨(k, x), List.mem_of_getElem? hj, rfl⟩)
      rw [List.eraseIdx_cons_succ, List.filter_cons_of_pos (by simpa using hne), ih hn.2 hj]
theorem delM_none {k : Int} (h : getM m k = none) : delM m k = m := by
  refine List.filter_eq_self.2 fun q hq => ?_
  simpa using getM_none.1 h q hq
theorem map_erase {β γ : Type} (f : β → γ) : ∀ (l : List β) (j : Nat), (l.eraseIdx j).map f = (l.map f).eraseIdx j
  | [], _ => rfl
  | _ :: _, 0 => rfl
  | a :: l, j + 1 => by simp [map_erase f l j]
theorem MapRd.erase {es : List MapEntry} {clock : Nat} (h : MapRd enc es clock m) (j : Nat) : MapRd enc (es.eraseIdx j) clock (m.eraseIdx j) where
  eq := by rw [map_erase, map_erase, h.eq]
  born := by rw [map_erase]; exact h.born.sublist (List.eraseIdx_sublist _ _)
  lt := fun e he => h.lt e (List.mem_of_mem_eraseIdx he)
  nd := by rw [map_erase]; exact h.nd.sublist (List.eraseIdx_sublist _ _)
theorem run_del (h : MapAt w b enc m) (ht : P.underlying t = some (.map kt e)) (hk : P.underlying kt = some (.int .i64)) (k : Int) (ty : TypeId) :
    ∃ w', (Builtin.delete_ #[t, kt] ty #[.map (some b), .int .i64 k]).run P w = .ok (.tuple #[]) w' ∧ MapAt w' b enc (delM m k) ∧ w.grownBy w' (some b) ∧ w'.heap.size = w.heap.size := by
  obtain ⟨es, clock, hb, hr⟩ := h
  have hc := fun e => MapKept.run_checkKey (P := P) (w := w) (kt := kt) (k := .int .i64 k) hk (by rfl) e 9999
  rcases find_spec enc k es.toList m 0 hr.eq with ⟨h1, h2⟩ | ⟨j, x, h1, hj, h2⟩
  · have hf := MapKept.run_findKey (P := P) (w := w) hk h2
    obtain ⟨g1, g2, g3⟩ := setBlock_below (o' := .map es clock) hb
    refine ⟨setBlock w b (.map es clock), ?_, ⟨es, clock, g1, by rw [delM_none h1]; exact hr⟩, g2, g3⟩
    simp [Builtin.delete_, run_underlying ht, MapKept.run_getObj_map hb, hc, hf, MapKept.run_setObj_map _ hb, Result.andThen, setBlock]
  · have hf := MapKept.run_findKey (P := P) (w := w) hk h2
    obtain ⟨g1, g2, g3⟩ := setBlock_below (o' := .map (es.eraseIdxIfInBounds (0 + j)) clock) hb
    refine ⟨setBlock w b (.map (es.eraseIdxIfInBounds (0 + j)) clock), ?_, ⟨_, clock, g1, ?_⟩, g2, g3⟩
    · simp [Builtin.delete_, run_underlying ht, MapKept.run_getObj_map hb, hc, hf, MapKept.run_setObj_map _ hb, Result.andThen, setBlock]
    · rw [delM_eq hr.nd hj]
      have : (es.eraseIdxIfInBounds (0 + j)).toList = es.toList.eraseIdx j := by
        rw [Nat.zero_add]; simp [Array.eraseIdxIfInBounds]
        split
        · simp
        · rw [List.eraseIdx_of_length_le (by simpa using Nat.le_of_not_lt ‹_›)]
      rw [this]
      exact hr.erase j
theorem putM_some {k : Int} {x y : α} (h : getM m k = some y) : putM m k x = m.map (fun p => if p.1 == k then (k, x) else p) := by unfold putM; rw [h]; rfl
theorem putM_none {k : Int} {x : α} (h : getM m k = none) : putM m k x = m ++ [(k, x)] := by unfold putM; rw [h]; rfl
theorem map_modify {m : List (Int × α)} (hn : (m.map (·.1)).Nodup) {j : Nat} {k : Int} {x y : α} (hj : m[j]? = some (k, y)) : m.map (fun p => if p.1 == k then (k, x) else p) = m.modify j (fun _ => (k, x)) := by
  apply List.ext_getElem?
  intro i
  rw [List.getElem?_map, List.getElem?_modify]
  cases hi : m[i]? with
  | none => simp
  | some p =>
    by_cases e : j = i
    · subst e
      rw [hi] at hj
      cases hj
      simp
    · have : ¬ p.1 = k := fun h => e (nodup_index hn hj hi h.symm)
      simp [e, this]
theorem run_put (h : MapAt w b enc m) (ht : P.underlying t = some (.map kt e)) (hk : P.underlying kt = some (.int .i64)) (k : Int) (x : α) :
    ∃ w', (Instr.mapUpdate t (.map (some b)) (.int .i64 k) (enc x)).run P w = .ok () w' ∧ MapAt w' b enc (putM m k x) ∧ w.grownBy w' (some b) ∧ w'.heap.size = w.heap.size := by
  obtain ⟨es, clock, hb, hr⟩ := h
  have hc := fun e => MapKept.run_checkKey (P := P) (w := w) (kt := kt) (k := .int .i64 k) hk (by rfl) e 9999
  rcases find_spec enc k es.toList m 0 hr.eq with ⟨h1, h2⟩ | ⟨j, y, h1, hj, h2⟩
  · have hf := MapKept.run_findKey (P := P) (w := w) hk h2
    obtain ⟨g1, g2, g3⟩ := setBlock_below (o' := .map (es.push { key := .int .i64 k, val := enc x, born := clock }) (clock + 1)) hb
    refine ⟨_, ?_, ⟨_, clock + 1, g1, ?_⟩, g2, g3⟩
    · simp [Instr.mapUpdate, run_underlying ht, MapKept.run_getObj_map hb, hc, hf, MapKept.run_setObj_map _ hb, Result.andThen, setBlock]
    · rw [putM_none h1]
      refine ⟨by simp [hr.eq], ?_, ?_, ?_⟩
      · simp only [Array.toList_push, List.map_append, List.map_cons, List.map_nil]
        refine List.nodup_append.2 ⟨hr.born, by simp, fun a ha c hc => ?_⟩
        simp at hc; subst hc
        obtain ⟨e, he, rfl⟩ := List.mem_map.1 ha
        have := hr.lt e he
        omega
      · intro e he
        simp at he
        rcases he with he | rfl
        · have := hr.lt e (by simpa using he)
          omega
        · simp
      · rw [List.map_append]
        refine List.nodup_append.2 ⟨hr.nd, by simp, fun a ha c hc => ?_⟩
        simp at hc; subst hc
        obtain ⟨p, hp, rfl⟩ := List.mem_map.1 ha
        exact getM_none.1 h1 p hp
  · rw [Nat.zero_add] at h2
    have hf := MapKept.run_findKey (P := P) (w := w) hk h2
    obtain ⟨e0, he0, hke, hve⟩ := hr.get' hj
    have hsame : (Instr.keyThatStays (.int .i64 k) (.int .i64 k)).run P w = .ok (.int .i64 k) w := by simp [Instr.keyThatStays, Instr.sameBits]
    obtain ⟨g1, g2, g3⟩ := setBlock_below (o' := .map (es.modify j fun e => { e with key := .int .i64 k, val := enc x }) clock) hb
    refine ⟨_, ?_, ⟨_, clock, g1, ?_⟩, g2, g3⟩
    · have he1 : es[j]? = some e0 := by simpa using he0
      simp [Instr.mapUpdate, run_underlying ht, MapKept.run_getObj_map hb, hc, hf, he1, hke, hsame, MapKept.run_setObj_map _ hb, Result.andThen, setBlock]
    · rw [putM_some h1, map_modify hr.nd hj, Array.toList_modify]
      have hb1 : ((es.toList.modify j fun e => { e with key := .int .i64 k, val := enc x }).map (·.born)) = es.toList.map (·.born) := by
        apply List.ext_getElem?
        intro i
        simp only [List.getElem?_map, List.getElem?_modify]
        cases es.toList[i]? <;> simp
        split <;> rfl
      refine ⟨?_, by rw [hb1]; exact hr.born, ?_, ?_⟩
      · apply List.ext_getElem?
        intro i
        have := congrArg (·[i]?) hr.eq
        simp only [List.getElem?_map] at this
        simp only [List.getElem?_map, List.getElem?_modify]
        by_cases e : j = i
        · subst e
          rw [he0, hj]
          simp
        · cases h3 : es.toList[i]? <;> cases h4 : m[i]? <;> simp_all
      · intro e he
        have : e.born ∈ (es.toList.map (·.born)) := by rw [← hb1]; exact List.mem_map.2 ⟨e, he, rfl⟩
        obtain ⟨e', he', h5⟩ := List.mem_map.1 this
        rw [← h5]; exact hr.lt e' he'
      · have : (m.modify j fun _ => (k, x)).map (·.1) = m.map (·.1) := by
          apply List.ext_getElem?
          intro i
          simp only [List.getElem?_map, List.getElem?_modify]
          by_cases e : j = i
          · subst e; rw [hj]; simp
          · cases m[i]? <;> simp [e]
        rw [this]; exact hr.nd
end
end Go.Proofs.Ytkofjejdgdhapaa
