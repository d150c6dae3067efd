/- lpm: a new node. -/
import Derived.Test.YtkofjejdgdhapaaLpC
namespace Go.Proofs.Ytkofjejdgdhapaa
open Go.RowKit

def ndNew (nd : Nat → Nat → Option Nat) (k c B : Nat) : Nat → Nat → Option Nat := fun k' v' => if k' = k ∧ v' = c then some B else nd k' v'
theorem ndNew_same {nd : Nat → Nat → Option Nat} {k c B : Nat} : ndNew nd k c B k c = some B := if_pos ⟨rfl, rfl⟩
theorem ndNew_other {nd : Nat → Nat → Option Nat} {k c B k' v' : Nat} (h : ¬ (k' = k ∧ v' = c)) : ndNew nd k c B k' v' = nd k' v' := if_neg h
def newNode : Obj := .cells #[.bool false, .int .i64 0, .pointer none, .pointer none] 59 (0, 0)
theorem TreeAt.lt_of {w : World} {tb : Nat} {nd : Nat → Nat → Option Nat} {l : Nets} {room many : Int} (h : TreeAt w tb nd l room many) {k v b : Nat} (hb : nd k v = some b) : b < w.heap.size := (h.cells hb).2.1
theorem TreeAt.no_key {w : World} {tb : Nat} {nd : Nat → Nat → Option Nat} {l : Nets} {room many : Int} (h : TreeAt w tb nd l room many) {k v : Nat} (hk : k ≤ 32) (hn : nd k v = none) : getM l (keyK k v) = none :=
  getM_none.2 fun p hp e => by
    obtain ⟨k', v', h1, _, h3, h4⟩ := h.keys p hp
    rw [h3] at e
    obtain ⟨rfl, rfl⟩ := keyK_inj h1 hk e
    rw [hn] at h4; cases h4
theorem TreeAt.grow {w : World} {tb : Nat} {nd : Nat → Nat → Option Nat} {l : Nets} {room many : Int} (h : TreeAt w tb nd l room many) {k v b : Nat} (r : Nat) (hb : nd k v = some b) (hk : k < 32) (hr : r < 2) (hn : nd (k + 1) (2 * v + r) = none) :
    TreeAt ((w.alloc newNode).setCell ⟨b, 2 + r, none⟩ (.pointer (some ⟨w.heap.size, 0, none⟩))) tb (ndNew nd (k + 1) (2 * v + r) w.heap.size) l room many := by
  have hbl := h.lt_of hb
  have hvl := (h.lt _ _ _ hb).2
  have old : ∀ {k' v' b' : Nat}, ndNew nd (k + 1) (2 * v + r) w.heap.size k' v' = some b' → b' ≠ w.heap.size → nd k' v' = some b' ∧ ¬ (k' = k + 1 ∧ v' = 2 * v + r) := fun {k' v' b'} h1 h2 => by
    by_cases e : k' = k + 1 ∧ v' = 2 * v + r
    · obtain ⟨rfl, rfl⟩ := e
      rw [ndNew_same] at h1
      exact absurd (Option.some.inj h1).symm h2
    · rw [ndNew_other e] at h1; exact ⟨h1, e⟩
  have new : ∀ {k' v' : Nat}, ndNew nd (k + 1) (2 * v + r) w.heap.size k' v' = some w.heap.size → k' = k + 1 ∧ v' = 2 * v + r := fun {k' v'} h1 => by
    by_cases e : k' = k + 1 ∧ v' = 2 * v + r
    · exact e
    · rw [ndNew_other e] at h1
      have := h.lt_of h1
      omega
  have hroot : ¬ (0 = k + 1 ∧ 0 = 2 * v + r) := by omega
  have htl := h.lt_of h.root
  -- the cells of an old node
  have cellsN : ∀ {k' v' b' : Nat}, nd k' v' = some b' → b' ≠ b → nodeCells (ndNew nd (k + 1) (2 * v + r) w.heap.size) l k' v' = nodeCells nd l k' v' := fun {k' v' b'} h1 h2 => by
    have q : ∀ s, s < 2 → ¬ (k' + 1 = k + 1 ∧ 2 * v' + s = 2 * v + r) := fun s hs e => by
      have e1 : k' = k := by omega
      have e2 : v' = v := by omega
      subst e1; subst e2
      rw [hb] at h1
      exact h2 (Option.some.inj h1).symm
    have q0 := q 0 (by decide)
    have q1 := q 1 (by decide)
    simp only [nodeCells]
    rw [ndNew_other (by simpa using q0), ndNew_other q1]
  have cellsB : (nodeCells nd l k v).toArray.setIfInBounds (2 + r) (.pointer (some ⟨w.heap.size, 0, none⟩)) = (nodeCells (ndNew nd (k + 1) (2 * v + r) w.heap.size) l k v).toArray := by
    simp only [nodeCells]
    match r, hr with
    | 0, _ =>
      have e0 : ndNew nd (k + 1) (2 * v + 0) w.heap.size (k + 1) (2 * v) = some w.heap.size := ndNew_same
      have e1 : ndNew nd (k + 1) (2 * v + 0) w.heap.size (k + 1) (2 * v + 1) = nd (k + 1) (2 * v + 1) := ndNew_other (by omega)
      rw [e0, e1]; simp [ptrV]
    | 1, _ =>
      have e0 : ndNew nd (k + 1) (2 * v + 1) w.heap.size (k + 1) (2 * v + 1) = some w.heap.size := ndNew_same
      have e1 : ndNew nd (k + 1) (2 * v + 1) w.heap.size (k + 1) (2 * v) = nd (k + 1) (2 * v) := ndNew_other (by omega)
      rw [e0, e1]; simp [ptrV]
  refine ⟨?_, ?_, ?_, ?_, ?_, ?_, h.nodup, ?_⟩
  · rw [ndNew_other hroot]; exact h.root
  · intro k' v' b' h1
    by_cases e : b' = w.heap.size
    · subst e
      obtain ⟨rfl, rfl⟩ := new h1
      rw [Nat.pow_succ]
      omega
    · exact h.lt _ _ _ (old h1 e).1
  · intro k1 v1 k2 v2 b' h1 h2
    by_cases e : b' = w.heap.size
    · subst e
      obtain ⟨rfl, rfl⟩ := new h1
      obtain ⟨rfl, rfl⟩ := new h2
      exact ⟨rfl, rfl⟩
    · exact h.inj _ _ _ _ _ (old h1 e).1 (old h2 e).1
  · intro k' v' h1
    by_cases e : k' + 1 = k + 1 ∧ v' = 2 * v + r
    · have e1 : k' = k := by omega
      have e2 : v' / 2 = v := by omega
      subst e1
      rw [e2, ndNew_other (by omega), hb] at h1
      cases h1
    · rw [ndNew_other e]
      refine h.up _ _ ?_
      by_cases e2 : k' = k + 1 ∧ v' / 2 = 2 * v + r
      · obtain ⟨rfl, e3⟩ := e2
        rw [e3]; exact hn
      · rw [ndNew_other e2] at h1; exact h1
  · intro k' v' b' h1 h2
    by_cases e : b' = w.heap.size
    · subst e
      obtain ⟨rfl, rfl⟩ := new h1
      rw [Below.heap_setCell _ _ _ _ (show w.heap.size ≠ b by omega), blk_new]
      have hno := h.no_key (by omega) hn
      have c0 : nd (k + 1 + 1) (2 * (2 * v + r)) = none := h.up _ _ (by rw [show 2 * (2 * v + r) / 2 = 2 * v + r by omega]; exact hn)
      have c1 : nd (k + 1 + 1) (2 * (2 * v + r) + 1) = none := h.up _ _ (by rw [show (2 * (2 * v + r) + 1) / 2 = 2 * v + r by omega]; exact hn)
      simp only [nodeCells, newNode, hno]
      rw [ndNew_other (by omega), ndNew_other (by omega), c0, c1]
      rfl
    · obtain ⟨h3, h4⟩ := old h1 e
      by_cases eb : b' = b
      · subst eb
        obtain ⟨rfl, rfl⟩ := h.inj _ _ _ _ _ h3 hb
        rw [blk_set (blk_alloc (h.node _ _ _ h3 h2) _), cellsB]
      · rw [Below.heap_setCell _ _ _ _ eb, cellsN h3 eb]
        exact blk_alloc (h.node _ _ _ h3 h2) _
  · by_cases eb : tb = b
    · subst eb
      obtain ⟨rfl, rfl⟩ := h.inj _ _ _ _ _ hb h.root
      rw [blk_set (blk_alloc h.top _)]
      have : ((nodeCells nd l 0 0 ++ [Value.int .i64 room, Value.int .i64 many]).toArray.setIfInBounds (2 + r) (.pointer (some ⟨w.heap.size, 0, none⟩))) = ((nodeCells nd l 0 0).toArray.setIfInBounds (2 + r) (.pointer (some ⟨w.heap.size, 0, none⟩)) ++ #[Value.int .i64 room, Value.int .i64 many]) := by
        match r, hr with
        | 0, _ => rfl
        | 1, _ => rfl
      rw [this, cellsB]
      simp
    · rw [Below.heap_setCell _ _ _ _ eb, cellsN h.root eb]
      exact blk_alloc h.top _
  · intro p hp
    obtain ⟨k', v', h1, h2, h3, h4⟩ := h.keys p hp
    refine ⟨k', v', h1, h2, h3, ?_⟩
    by_cases e : k' = k + 1 ∧ v' = 2 * v + r
    · obtain ⟨rfl, rfl⟩ := e; rw [ndNew_same]; rfl
    · rw [ndNew_other e]; exact h4
end Go.Proofs.Ytkofjejdgdhapaa
