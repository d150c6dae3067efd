/- Maps keyed by int, at a walk's operations; ranging over one, with deletes. -/
import Derived.Test.YthdhodopmffdmaaMapI
namespace Go.Proofs.Ythdhodopmffdmaa
open Go.RowKit
open Go.ChangeMaps (setBlock)

section
variable {α : Type}
/-- Block r is an iterator over the map in block b; 'done': has the entry at this key come? -/
def Ranging (w : World) (r b : Nat) (enc : α → Value) (m : List (Int × α)) (done : Int → Bool) : Prop :=
  ∃ es clock since seen c0, w.heap[b]? = some (.map es clock) ∧ MapRd enc es.toList clock m ∧ w.heap[r]? = some (.mapIter (some b) since seen c0) ∧ (∀ x ∈ es.toList, x.born < since) ∧ since ≤ c0 ∧ since ≤ clock ∧
    ∀ (i : Nat) (e : MapEntry) (p : Int × α), es.toList[i]? = some e → m[i]? = some p → done p.1 = seen.contains e.born
def leftM (m : List (Int × α)) (done : Int → Bool) : Nat := (m.filter (fun p => !done p.1)).length
variable {P : Program} {w : World} {b r : Nat} {enc : α → Value} {m : List (Int × α)} {done : Int → Bool} {t kt e : TypeId}
theorem Ranging.at (h : Ranging w r b enc m done) : MapAt w b enc m := by
  obtain ⟨es, clock, _, _, _, hb, hr, _⟩ := h
  exact ⟨es, clock, hb, hr⟩
theorem Ranging.ne (h : Ranging w r b enc m done) : r ≠ b := by
  obtain ⟨es, clock, _, _, _, hb, _, hr, _⟩ := h
  intro e
  rw [e, hb] at hr
  cases hr
theorem Ranging.lt (h : Ranging w r b enc m done) : r < w.heap.size := by
  obtain ⟨es, clock, _, _, _, _, _, hr, _⟩ := h
  exact size_of hr
theorem Ranging.of_blk {w' : World} (h : Ranging w r b enc m done) (h1 : w'.heap[b]? = w.heap[b]?) (h2 : w'.heap[r]? = w.heap[r]?) : Ranging w' r b enc m done := by
  obtain ⟨es, clock, since, seen, c0, hb, hr, hi, rest⟩ := h
  exact ⟨es, clock, since, seen, c0, h1.trans hb, hr, h2.trans hi, rest⟩
theorem run_range (h : MapAt w b enc m) (ht : P.underlying t = some (.map kt e)) :
    ∃ w', (Instr.range t (.map (some b))).run P w = .ok (.pointer (some ⟨w.heap.size, 0, none⟩)) w' ∧ Ranging w' w.heap.size b enc m (fun _ => false) ∧ Below w.heap.size w w' ∧ w'.heap.size = w.heap.size + 1 := by
  have hlt := h.lt
  obtain ⟨es, clock, hb, hr⟩ := h
  refine ⟨_, run_range_map w t kt e b es clock ht hb, ⟨es, clock, clock, #[], clock, blk_alloc hb _, hr, blk_new _ _, hr.lt, Nat.le_refl _, Nat.le_refl _, fun i e p _ _ => by simp⟩, (Below.refl _ _).alloc (Nat.le_refl _) _, World.size_alloc _ _⟩
theorem run_next (h : Ranging w r b enc m done) (ty : TypeId) :
    ((∀ p ∈ m, done p.1 = true) ∧ (Instr.next (.pointer (some ⟨r, 0, none⟩)) false ty).run P w = .ok (.tuple #[.bool false]) w) ∨
    ∃ k x w', (k, x) ∈ m ∧ done k = false ∧ (Instr.next (.pointer (some ⟨r, 0, none⟩)) false ty).run P w = .ok (.tuple #[.bool true, .int .i64 k, enc x]) w' ∧ Ranging w' r b enc m (fun j => done j || j == k) ∧
      w.grownBy w' (some r) ∧ w'.heap.size = w.heap.size ∧ (Instr.entry (.pointer (some ⟨r, 0, none⟩))).run P w' = .ok (.tuple #[.int .i64 k, enc x]) w' := by
  have hne := h.ne
  obtain ⟨es, clock, since, seen, c0, hb, hr, hi, hold, hsc, hcl, hd⟩ := h
  rcases run_next_at (P := P) w ty r b since c0 seen es clock hi hb hold hsc with ⟨h0, hrun⟩ | ⟨x, hx, w1, hw1, hrun⟩
  · refine .inl ⟨fun p hp => ?_, hrun⟩
    obtain ⟨i, hpi⟩ := List.mem_iff_getElem?.1 hp
    obtain ⟨e0, he0, _⟩ := hr.get' (k := p.1) (x := p.2) hpi
    rw [hd i e0 p he0 hpi]
    cases hc : seen.contains e0.born with
    | true => rfl
    | false =>
      have hmem : e0 ∈ (leftOf es seen).toList := by
        unfold leftOf
        have := List.mem_of_getElem? he0
        simp at this hc ⊢
        exact ⟨this, hc⟩
      have : (leftOf es seen).toList.length = 0 := by simpa using h0
      rw [List.length_eq_zero_iff.1 this] at hmem
      cases hmem
  · have hx' : x ∈ es.toList ∧ seen.contains x.born = false := by
      unfold leftOf at hx
      simp at hx ⊢
      exact hx
    obtain ⟨i, hxi⟩ := List.mem_iff_getElem?.1 hx'.1
    obtain ⟨k, v, hmi, hk, hv⟩ := hr.get hxi
    have hw1h : w1.heap = w.heap := by rcases hw1 with rfl | rfl <;> rfl
    have hi1 : w1.heap[r]? = some (.mapIter (some b) since seen c0) := by rw [hw1h]; exact hi
    obtain ⟨g1, g2, g3⟩ := setBlock_below (w := w1) (o' := .mapIter (some b) since (seen.push x.born) clock) hi1
    have hb1 : (setBlock w1 r (.mapIter (some b) since (seen.push x.born) clock)).heap[b]? = some (.map es clock) := by
      rw [g2.block b (by rw [hw1h]; exact size_of hb) (fun e => hne (by injection e with e; exact e.symm)), hw1h]; exact hb
    refine .inr ⟨k, v, _, List.mem_of_getElem? hmi, by rw [hd i x (k, v) hxi hmi]; exact hx'.2, by rw [← hk, ← hv]; exact hrun, ?_, ?_, ?_, ?_⟩
    · refine ⟨es, clock, since, seen.push x.born, clock, hb1, hr, g1, hold, hcl, hcl, fun i' e' p' he' hp' => ?_⟩
      show (done p'.1 || p'.1 == k) = _
      rw [hd i' e' p' he' hp']
      have h1 : (seen.push x.born).contains e'.born = (seen.contains e'.born || e'.born == x.born) := by
        rw [Bool.eq_iff_iff]
        simp
      rw [h1]
      congr 1
      rw [Bool.eq_iff_iff]
      simp only [beq_iff_eq]
      constructor
      · intro h
        have := nodup_index hr.nd hp' hmi h
        subst this
        rw [he'] at hxi
        cases hxi
        rfl
      · intro h
        have h2 : (es.toList.map (·.born))[i']? = some e'.born := by rw [List.getElem?_map, he']; rfl
        have h3 : (es.toList.map (·.born))[i]? = some e'.born := by rw [List.getElem?_map, hxi, h]; rfl
        have : i' = i := (List.getElem?_inj (List.getElem?_eq_some_iff.1 h2).1 hr.born).1 (h2.trans h3.symm)
        subst this
        rw [hp'] at hmi
        cases hmi
        rfl
    · rcases hw1 with rfl | rfl
      · exact g2
      · exact ⟨g2.os, g2.tape, g2.output, g2.size, g2.block⟩
    · rw [g3, hw1h]
    · rw [← hk, ← hv]
      exact run_entry_at (P := P) _ r b since seen es clock x g1 hb1 hx'.1 hr.born
theorem leftM_next {k : Int} {x : α} (hm : (k, x) ∈ m) (hd : done k = false) : leftM m (fun j => done j || j == k) < leftM m done := by
  unfold leftM
  have e : m.filter (fun p => !(done p.1 || p.1 == k)) = (m.filter (fun p => !done p.1)).filter (fun p => !(p.1 == k)) := by
    rw [List.filter_filter]
    refine List.filter_congr fun p _ => ?_
    cases done p.1 <;> cases p.1 == k <;> rfl
  rw [e]
  refine List.length_filter_lt_length_iff_exists.2 ⟨(k, x), List.mem_filter.2 ⟨hm, by simp [hd]⟩, by simp⟩
theorem leftM_del (k : Int) : leftM (delM m k) done ≤ leftM m done := by
  unfold leftM delM
  have e : (m.filter (fun p => p.1 != k)).filter (fun p => !done p.1) = (m.filter (fun p => !done p.1)).filter (fun p => p.1 != k) := by
    rw [List.filter_filter, List.filter_filter]
    refine List.filter_congr fun p _ => ?_
    exact Bool.and_comm _ _
  rw [e]
  exact List.length_filter_le _ _
theorem Ranging.del (h : Ranging w r b enc m done) (ht : P.underlying t = some (.map kt e)) (hk : P.underlying kt = some (.int .i64)) (k : Int) (ty : TypeId) :
    ∃ w', (Builtin.delete_ #[t, kt] ty #[.map (some b), .int .i64 k]).run P w = .ok (.tuple #[]) w' ∧ Ranging w' r b enc (delM m k) done ∧ w.grownBy w' (some b) ∧ w'.heap.size = w.heap.size := by
  have hne := h.ne
  obtain ⟨es, clock, since, seen, c0, hb, hr, hi, hold, hsc, hcl, hd⟩ := h
  have hc := fun e => MapKept.run_checkKey (P := P) (w := w) (kt := kt) (k := .int .i64 k) hk (by rfl) e 9999
  rcases find_spec enc k es.toList m 0 hr.eq with ⟨h1, h2⟩ | ⟨j, x, h1, hj, h2⟩
  · have hf := MapKept.run_findKey (P := P) (w := w) hk h2
    obtain ⟨g1, g2, g3⟩ := setBlock_below (o' := .map es clock) hb
    refine ⟨setBlock w b (.map es clock), ?_, ⟨es, clock, since, seen, c0, g1, by rw [delM_none h1]; exact hr, ?_, hold, hsc, hcl, by rw [delM_none h1]; exact hd⟩, g2, g3⟩
    · simp [Builtin.delete_, run_underlying ht, MapKept.run_getObj_map hb, hc, hf, MapKept.run_setObj_map _ hb, Result.andThen, setBlock]
    · rw [g2.block r (size_of hi) (fun e => hne (by injection e))]; exact hi
  · rw [Nat.zero_add] at h2
    have hf := MapKept.run_findKey (P := P) (w := w) hk h2
    obtain ⟨g1, g2, g3⟩ := setBlock_below (o' := .map (es.eraseIdxIfInBounds j) clock) hb
    have he : (es.eraseIdxIfInBounds j).toList = es.toList.eraseIdx j := by
      simp [Array.eraseIdxIfInBounds]
      split
      · simp
      · rw [List.eraseIdx_of_length_le (by simpa using Nat.le_of_not_lt ‹_›)]
    refine ⟨setBlock w b (.map (es.eraseIdxIfInBounds j) clock), ?_, ⟨_, clock, since, seen, c0, g1, ?_, ?_, ?_, hsc, hcl, ?_⟩, g2, g3⟩
    · simp [Builtin.delete_, run_underlying ht, MapKept.run_getObj_map hb, hc, hf, MapKept.run_setObj_map _ hb, Result.andThen, setBlock]
    · rw [delM_eq hr.nd hj, he]; exact hr.erase j
    · rw [g2.block r (size_of hi) (fun e => hne (by injection e))]; exact hi
    · rw [he]; exact fun x hx => hold x (List.mem_of_mem_eraseIdx hx)
    · rw [delM_eq hr.nd hj, he]
      intro i e' p' h3 h4
      rw [List.getElem?_eraseIdx] at h3 h4
      by_cases hij : i < j
      · rw [if_pos hij] at h3 h4; exact hd _ _ _ h3 h4
      · rw [if_neg hij] at h3 h4; exact hd _ _ _ h3 h4

/-! ### At a walk's operations -/
variable {ops : Array Oper} {rest : List Oper} {o : Oper} {a : Act} {Q : Exit → Act → World → Prop}
theorem wpList_wanted (hw : Region.wanted o (yielded ops a.tmps) = true) (h : ∀ K : Act → World → Prop, (∀ a w, wpList P ops Q rest a w → K a w) → o.wp P a w K Q) : wpList P ops Q (o :: rest) a w :=
  wpList_step fun K hK => by rw [if_pos hw]; exact h K hK
theorem wpList_look_some (hw : Region.wanted o (yielded ops a.tmps) = true) (mo xo : Operand) (t : TypeId) (hop : o.op = .lookup t mo xo true) (kt e : TypeId) (ht : P.underlying t = some (.map kt e)) (hk : P.underlying kt = some (.int .i64))
    (z : Value) (hz : (zeroValue e).run P w = .ok z w) (hm : a.eval mo = .map (some b)) (k : Int) (hx : a.eval xo = .int .i64 k) (h : MapAt w b enc m) (x : α) (hg : getM m k = some x) (v : Value) (hv : enc x = v)
    (hK : wpList P ops Q rest (a.put o.dst (.tuple #[v, .bool true])) w) : wpList P ops Q (o :: rest) a w := by
  refine wpList_wanted hw fun K hK' => ?_
  have hrun := run_look (P := P) (w := w) h ht hk hz k true
  subst hv
  unfold Oper.wp
  simp [execOp, hop, hm, hx, hrun, hg, Result.andThen]
  exact hK' _ _ hK
theorem wpList_look_none (hw : Region.wanted o (yielded ops a.tmps) = true) (mo xo : Operand) (t : TypeId) (hop : o.op = .lookup t mo xo true) (kt e : TypeId) (ht : P.underlying t = some (.map kt e)) (hk : P.underlying kt = some (.int .i64))
    (z : Value) (hz : (zeroValue e).run P w = .ok z w) (hm : a.eval mo = .map (some b)) (k : Int) (hx : a.eval xo = .int .i64 k) (h : MapAt w b enc m) (hg : getM m k = none)
    (hK : wpList P ops Q rest (a.put o.dst (.tuple #[z, .bool false])) w) : wpList P ops Q (o :: rest) a w := by
  refine wpList_wanted hw fun K hK' => ?_
  have hrun := run_look (P := P) (w := w) h ht hk hz k true
  unfold Oper.wp
  simp [execOp, hop, hm, hx, hrun, hg, Result.andThen]
  exact hK' _ _ hK
theorem wpList_len (hw : Region.wanted o (yielded ops a.tmps) = true) (mo : Operand) (t : TypeId) (hop : o.op = .call { callee := .builtin .len, args := #[mo], argTypes := #[t] }) (kt e : TypeId) (ht : P.underlying t = some (.map kt e))
    (hm : a.eval mo = .map (some b)) (h : MapAt w b enc m) (hK : wpList P ops Q rest (a.put o.dst (.int .i64 m.length)) w) : wpList P ops Q (o :: rest) a w := by
  refine wpList_wanted hw fun K hK' => ?_
  have hrun := run_len (P := P) (w := w) h ht o.type
  unfold Oper.wp execOp
  simp only [hop, resolve, invoke, builtin, Sem.run_bind, Sem.run_pure, Result.andThen_ok, List.map_toArray, List.map_cons, List.map_nil, hm, hrun]
  exact hK' _ _ hK
theorem wpList_del (hw : Region.wanted o (yielded ops a.tmps) = true) (mo xo : Operand) (t kt : TypeId) (hop : o.op = .call { callee := .builtin .delete, args := #[mo, xo], argTypes := #[t, kt] }) (e : TypeId) (ht : P.underlying t = some (.map kt e)) (hk : P.underlying kt = some (.int .i64))
    (hm : a.eval mo = .map (some b)) (k : Int) (hx : a.eval xo = .int .i64 k) (h : MapAt w b enc m)
    (hK : ∀ w', MapAt w' b enc (delM m k) → w.grownBy w' (some b) → w'.heap.size = w.heap.size → wpList P ops Q rest (a.put o.dst (.tuple #[])) w') : wpList P ops Q (o :: rest) a w := by
  refine wpList_wanted hw fun K hK' => ?_
  obtain ⟨w', hrun, h1, h2, h3⟩ := run_del (P := P) (w := w) h ht hk k o.type
  unfold Oper.wp execOp
  simp only [hop, resolve, invoke, builtin, Sem.run_bind, Sem.run_pure, Result.andThen_ok, List.map_toArray, List.map_cons, List.map_nil, hm, hx, hrun]
  exact hK' _ _ (hK w' h1 h2 h3)
theorem wpList_put (hw : Region.wanted o (yielded ops a.tmps) = true) (mo xo vo : Operand) (t : TypeId) (hop : o.op = .mapUpdate t mo xo vo) (kt e : TypeId) (ht : P.underlying t = some (.map kt e)) (hk : P.underlying kt = some (.int .i64))
    (hm : a.eval mo = .map (some b)) (k : Int) (hx : a.eval xo = .int .i64 k) (x : α) (hv : a.eval vo = enc x) (h : MapAt w b enc m)
    (hK : ∀ w', MapAt w' b enc (putM m k x) → w.grownBy w' (some b) → w'.heap.size = w.heap.size → wpList P ops Q rest (a.put o.dst undef) w') : wpList P ops Q (o :: rest) a w := by
  refine wpList_wanted hw fun K hK' => ?_
  obtain ⟨w', hrun, h1, h2, h3⟩ := run_put (P := P) (w := w) h ht hk k x
  unfold Oper.wp
  simp [execOp, hop, hm, hx, hv, hrun, Result.andThen]
  exact hK' _ _ (hK w' h1 h2 h3)
theorem wpList_rangeM (hw : Region.wanted o (yielded ops a.tmps) = true) (mo : Operand) (t : TypeId) (hop : o.op = .range t mo) (kt e : TypeId) (ht : P.underlying t = some (.map kt e))
    (hm : a.eval mo = .map (some b)) (h : MapAt w b enc m)
    (hK : ∀ w', Ranging w' w.heap.size b enc m (fun _ => false) → Below w.heap.size w w' → w'.heap.size = w.heap.size + 1 → wpList P ops Q rest (a.put o.dst (.pointer (some ⟨w.heap.size, 0, none⟩))) w') : wpList P ops Q (o :: rest) a w := by
  refine wpList_wanted hw fun K hK' => ?_
  obtain ⟨w', hrun, h1, h2, h3⟩ := run_range (P := P) (w := w) h ht
  unfold Oper.wp
  simp [execOp, hop, hm, hrun, Result.andThen]
  exact hK' _ _ (hK w' h1 h2 h3)
theorem wpList_nextM (hw : Region.wanted o (yielded ops a.tmps) = true) (it : Operand) (hop : o.op = .next it false) (hit : a.eval it = .pointer (some ⟨r, 0, none⟩)) (h : Ranging w r b enc m done)
    (hDone : (∀ p ∈ m, done p.1 = true) → wpList P ops Q rest (a.put o.dst (.tuple #[.bool false])) w)
    (hMore : ∀ k x w', (k, x) ∈ m → done k = false → Ranging w' r b enc m (fun j => done j || j == k) → w.grownBy w' (some r) → w'.heap.size = w.heap.size →
      (Instr.entry (.pointer (some ⟨r, 0, none⟩))).run P w' = .ok (.tuple #[.int .i64 k, enc x]) w' → wpList P ops Q rest (a.put o.dst (.tuple #[.bool true, .int .i64 k, enc x])) w') : wpList P ops Q (o :: rest) a w := by
  refine wpList_wanted hw fun K hK' => ?_
  unfold Oper.wp
  rcases run_next (P := P) (w := w) h o.type with ⟨h1, hrun⟩ | ⟨k, x, w', h1, h2, hrun, h3, h4, h5, h6⟩
  · simp [execOp, hop, hit, hrun, Result.andThen]
    exact hK' _ _ (hDone h1)
  · simp [execOp, hop, hit, hrun, Result.andThen]
    exact hK' _ _ (hMore k x w' h1 h2 h3 h4 h5 h6)
theorem wpList_delR (hw : Region.wanted o (yielded ops a.tmps) = true) (mo xo : Operand) (t kt : TypeId) (hop : o.op = .call { callee := .builtin .delete, args := #[mo, xo], argTypes := #[t, kt] }) (e : TypeId) (ht : P.underlying t = some (.map kt e)) (hk : P.underlying kt = some (.int .i64))
    (hm : a.eval mo = .map (some b)) (k : Int) (hx : a.eval xo = .int .i64 k) (h : Ranging w r b enc m done)
    (hK : ∀ w', Ranging w' r b enc (delM m k) done → w.grownBy w' (some b) → w'.heap.size = w.heap.size → wpList P ops Q rest (a.put o.dst (.tuple #[])) w') : wpList P ops Q (o :: rest) a w := by
  refine wpList_wanted hw fun K hK' => ?_
  obtain ⟨w', hrun, h1, h2, h3⟩ := h.del (P := P) ht hk k o.type
  unfold Oper.wp execOp
  simp only [hop, resolve, invoke, builtin, Sem.run_bind, Sem.run_pure, Result.andThen_ok, List.map_toArray, List.map_cons, List.map_nil, hm, hx, hrun]
  exact hK' _ _ (hK w' h1 h2 h3)
end
end Go.Proofs.Ythdhodopmffdmaa
