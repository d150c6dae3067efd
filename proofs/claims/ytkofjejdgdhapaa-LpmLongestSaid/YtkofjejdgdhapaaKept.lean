/- 'Kept l w w'': of what was there nothing has turned but the blocks of the list l. -/
import Derived.Test.YtkofjejdgdhapaaBase
import Derived.Deep.Draws
namespace Go.Proofs.Ytkofjejdgdhapaa
open Go.RowKit
theorem ret_i {k : IntKind} {a b : Int} (h : a = b) : Ending.returned (.int k a) = .returned (.int k b) := by rw [h]
theorem ret_b {a b : Bool} (h : a = b) : Ending.returned (.bool a) = .returned (.bool b) := by rw [h]
structure Kept (l : List Nat) (w w' : World) : Prop where
  os : w'.os = w.os
  tape : w'.tape = w.tape
  output : w'.output = w.output
  size : w.heap.size ≤ w'.heap.size
  block : ∀ k, k < w.heap.size → k ∉ l → w'.heap[k]? = w.heap[k]?
theorem Kept.refl (l : List Nat) (w : World) : Kept l w w := ⟨rfl, rfl, rfl, Nat.le_refl _, fun _ _ _ => rfl⟩
theorem Kept.trans {l : List Nat} {a b c : World} (h : Kept l a b) (k : Kept l b c) : Kept l a c :=
  ⟨k.os.trans h.os, k.tape.trans h.tape, k.output.trans h.output, Nat.le_trans h.size k.size, fun i hi hn => (k.block i (Nat.lt_of_lt_of_le hi h.size) hn).trans (h.block i hi hn)⟩
theorem Kept.more {l l' : List Nat} {a b : World} (h : Kept l a b) (hl : ∀ k, k ∈ l → k ∈ l') : Kept l' a b := ⟨h.os, h.tape, h.output, h.size, fun k hk hn => h.block k hk (fun h => hn (hl k h))⟩
theorem Kept.of_below {w w' : World} (h : Below w.heap.size w w') : Kept [] w w' := ⟨h.os, h.tape, h.output, h.size, fun k hk _ => h.block k hk⟩
theorem Kept.below_trans {l : List Nat} {a b c : World} (h : Kept l a b) (k : Below b.heap.size b c) : Kept l a c := h.trans ((Kept.of_below k).more (by simp))
theorem Kept.drew {l : List Nat} {a b : World} (h : Kept l a b) : Kept l a b.drew := h.trans ⟨rfl, rfl, rfl, Nat.le_refl _, fun _ _ _ => rfl⟩
theorem Kept.drewN {l : List Nat} {a b : World} {n : Nat} (h : Kept l a b) : Kept l a (b.drewN n) := h.trans ⟨rfl, rfl, rfl, Nat.le_refl _, fun _ _ _ => rfl⟩
theorem Kept.alloc {l : List Nat} {a b : World} (h : Kept l a b) (o : Obj) : Kept l a (b.alloc o) := h.below_trans ((Below.refl _ _).alloc (Nat.le_refl _) o)
theorem Kept.grown {l : List Nat} {a b c : World} {row : Option Nat} (h : Kept l a b) (hg : b.grownBy c row) (hr : ∀ k, row = some k → k ∈ l ∨ a.heap.size ≤ k) : Kept l a c :=
  ⟨hg.os.trans h.os, hg.tape.trans h.tape, hg.output.trans h.output, Nat.le_trans h.size hg.size, fun k hk hn => by
    rw [hg.block k (Nat.lt_of_lt_of_le hk h.size) (fun e => by rcases hr k e.symm with h1 | h1; exact hn h1; omega)]
    exact h.block k hk hn⟩
theorem Kept.setCell {l : List Nat} {a b : World} (h : Kept l a b) {p : Addr} (hp : p.block ∈ l ∨ a.heap.size ≤ p.block) (u : Value) : Kept l a (b.setCell p u) :=
  ⟨h.os, h.tape, h.output, by rw [World.size_setCell]; exact h.size, fun k hk hn => by
    rw [Below.heap_setCell _ _ _ _ (fun e => by rcases hp with h1 | h1; exact hn (e ▸ h1); omega)]
    exact h.block k hk hn⟩
/-- Where all that turned is from B on, nothing below B has. -/
theorem Kept.below {l : List Nat} {B : Nat} {w w' : World} (h : Kept l w w') (hB : B ≤ w.heap.size) (hl : ∀ k, k ∈ l → B ≤ k) : Below B w w' :=
  ⟨h.os, h.tape, h.output, h.size, fun k hk => h.block k (Nat.lt_of_lt_of_le hk hB) (fun hm => by have := hl k hm; omega)⟩
theorem Kept.blk {l : List Nat} {w w' : World} {b : Nat} {x : Obj} (h : Kept l w w') (hb : w.heap[b]? = some x) (hn : b ∉ l) : w'.heap[b]? = some x := by
  rw [h.block b (size_of hb) hn]; exact hb
theorem Kept.cell {l : List Nat} {w w' : World} {b o : Nat} {v : Value} (h : Kept l w w') (hc : w.cell? ⟨b, o, none⟩ = some v) (hn : b ∉ l) : w'.cell? ⟨b, o, none⟩ = some v := by
  rw [World.cell?_of_block (h.block b (cell_size hc) hn)]; exact hc
end Go.Proofs.Ytkofjejdgdhapaa
