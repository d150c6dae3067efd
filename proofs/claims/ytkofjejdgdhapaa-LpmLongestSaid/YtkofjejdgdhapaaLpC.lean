/- lpm: the tree grows, a number is noted. -/
import Derived.Test.YtkofjejdgdhapaaLpB
namespace Go.Proofs.Ytkofjejdgdhapaa
open Go.RowKit

theorem getM_put_self {l : Nets} {k n : Int} : getM (putM l k n) k = some n := by
  cases hg : getM l k with
  | none =>
    rw [putM_none hg]
    unfold getM at hg ⊢
    rw [Option.map_eq_none_iff] at hg
    rw [List.find?_append, hg]
    simp
  | some y =>
    rw [putM_some hg]
    unfold getM at hg ⊢
    induction l with
    | nil => simp at hg
    | cons p l ih =>
      by_cases h : p.1 = k
      · simp [h]
      · rw [List.find?_cons_of_neg (by simpa using h)] at hg
        rw [List.map_cons, if_neg (by simpa using h), List.find?_cons_of_neg (by simpa using h)]
        exact ih hg
theorem getM_put_other {l : Nets} {k k' n : Int} (hk : k' ≠ k) : getM (putM l k n) k' = getM l k' := by
  have hk2 : ¬ k = k' := fun e => hk e.symm
  cases hg : getM l k with
  | none =>
    rw [putM_none hg]
    unfold getM
    rw [List.find?_append]
    cases hf : l.find? (fun p => p.1 == k') with
    | none => simp [hk2]
    | some q => simp
  | some y =>
    rw [putM_some hg]
    clear hg
    unfold getM
    induction l with
    | nil => rfl
    | cons p l ih =>
      rw [List.map_cons]
      by_cases h : p.1 = k
      · rw [if_pos (by simpa using h), List.find?_cons_of_neg (by simpa using hk2), List.find?_cons_of_neg (by simp [h, hk2])]
        exact ih
      · rw [if_neg (by simpa using h)]
        by_cases h2 : p.1 = k'
        · simp [h2]
        · rw [List.find?_cons_of_neg (by simpa using h2), List.find?_cons_of_neg (by simpa using h2)]
          exact ih
theorem put_len {l : Nets} {k n : Int} : (putM l k n).length = if (getM l k).isSome then l.length else l.length + 1 := by
  cases hg : getM l k with
  | none => rw [putM_none hg]; simp
  | some y => rw [putM_some hg]; simp
theorem put_nodup {l : Nets} {k n : Int} (hn : (l.map (·.1)).Nodup) : ((putM l k n).map (·.1)).Nodup := by
  cases hg : getM l k with
  | none =>
    rw [putM_none hg, List.map_append, List.nodup_append]
    refine ⟨hn, by simp, fun a ha b hb => ?_⟩
    obtain ⟨p, hp, rfl⟩ := List.mem_map.1 ha
    simp at hb
    rw [hb]
    exact getM_none.1 hg p hp
  | some y =>
    rw [putM_some hg]
    have e : (l.map (fun p => if p.1 == k then (k, n) else p)).map (·.1) = l.map (·.1) := by
      rw [List.map_map]
      refine List.map_congr_left fun p _ => ?_
      by_cases h : p.1 = k <;> simp [h]
    rw [e]; exact hn
theorem put_keys {l : Nets} {k n : Int} {p : Int × Int} (h : p ∈ putM l k n) : p.1 = k ∨ ∃ q ∈ l, q.1 = p.1 := by
  cases hg : getM l k with
  | none =>
    rw [putM_none hg] at h
    rcases List.mem_append.1 h with h | h
    · exact .inr ⟨p, h, rfl⟩
    · simp at h; exact .inl (by rw [h])
  | some y =>
    rw [putM_some hg] at h
    obtain ⟨q, hq, rfl⟩ := List.mem_map.1 h
    by_cases hk : q.1 = k
    · exact .inl (by simp [hk])
    · exact .inr ⟨q, hq, by simp [hk]⟩
theorem blk_set {w : World} {b : Nat} {cs : Array Value} {t : TypeId} {fr : Nat × Nat} (h : w.heap[b]? = some (.cells cs t fr)) (o : Nat) (v : Value) : (w.setCell ⟨b, o, none⟩ v).heap[b]? = some (.cells (cs.setIfInBounds o v) t fr) := by
  have hl := size_of h
  have h' := (Array.getElem?_eq_some_iff.1 h).2
  simp only [World.setCell]
  rw [Array.getElem?_eq_getElem (by simpa using hl), Array.getElem_modify_self]
  simp [h']
/-- What the table is made of: where it turns, nothing else does. -/
def TKept (nd : Nat → Nat → Option Nat) (w w' : World) : Prop :=
  w'.os = w.os ∧ w'.tape = w.tape ∧ w'.output = w.output ∧ w.heap.size ≤ w'.heap.size ∧ ∀ b, b < w.heap.size → (∀ k v, nd k v ≠ some b) → w'.heap[b]? = w.heap[b]?
theorem TreeAt.count {w : World} {tb : Nat} {nd : Nat → Nat → Option Nat} {l : Nets} {room many : Int} (h : TreeAt w tb nd l room many) (m : Int) : TreeAt (w.setCell ⟨tb, 5, none⟩ (.int .i64 m)) tb nd l room m where
  root := h.root
  lt := h.lt
  inj := h.inj
  up := h.up
  node := fun k v b h1 h2 => by rw [Below.heap_setCell _ _ _ _ (show b ≠ tb from h2)]; exact h.node k v b h1 h2
  top := blk_set h.top 5 _
  nodup := h.nodup
  keys := h.keys
theorem key_ne {nd : Nat → Nat → Option Nat} {w : World} {tb : Nat} {l : Nets} {room many : Int} (h : TreeAt w tb nd l room many) {k v k' v' b b' : Nat} (h1 : nd k v = some b) (h2 : nd k' v' = some b') (hb : b' ≠ b) : keyK k' v' ≠ keyK k v := fun e => by
  obtain ⟨rfl, rfl⟩ := keyK_inj (h.lt _ _ _ h2).1 (h.lt _ _ _ h1).1 e
  rw [h1] at h2
  exact hb (Option.some.inj h2).symm
theorem TreeAt.note {w : World} {tb : Nat} {nd : Nat → Nat → Option Nat} {l : Nets} {room many : Int} (h : TreeAt w tb nd l room many) {k v b : Nat} (hb : nd k v = some b) (n : Int) :
    TreeAt ((w.setCell ⟨b, 0, none⟩ (.bool true)).setCell ⟨b, 1, none⟩ (.int .i64 n)) tb nd (putM l (keyK k v) n) room many where
  root := h.root
  lt := h.lt
  inj := h.inj
  up := h.up
  node := fun k' v' b' h1 h2 => by
    by_cases e : b' = b
    · subst e
      obtain ⟨rfl, rfl⟩ := h.inj _ _ _ _ _ h1 hb
      have := blk_set (blk_set (h.node _ _ _ h1 h2) 0 (.bool true)) 1 (.int .i64 n)
      rw [this]
      simp [nodeCells, getM_put_self]
    · rw [Below.heap_setCell _ _ _ _ e, Below.heap_setCell _ _ _ _ e, h.node _ _ _ h1 h2]
      simp only [nodeCells, getM_put_other (key_ne h hb h1 e)]
  top := by
    by_cases e : tb = b
    · subst e
      obtain ⟨rfl, rfl⟩ := h.inj _ _ _ _ _ hb h.root
      have := blk_set (blk_set h.top 0 (.bool true)) 1 (.int .i64 n)
      rw [this]
      simp [nodeCells, getM_put_self]
    · rw [Below.heap_setCell _ _ _ _ e, Below.heap_setCell _ _ _ _ e, h.top]
      simp only [nodeCells, getM_put_other (key_ne h hb h.root e)]
  nodup := put_nodup h.nodup
  keys := fun p hp => by
    rcases put_keys hp with e | ⟨q, hq, e⟩
    · exact ⟨k, v, (h.lt _ _ _ hb).1, (h.lt _ _ _ hb).2, e, by rw [hb]; rfl⟩
    · rw [← e]; exact h.keys q hq
end Go.Proofs.Ytkofjejdgdhapaa
