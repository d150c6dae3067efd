/- awake: true. -/
import Derived.Test.YtnibdmbkefldfaaFlG
namespace Go.Proofs.Ytnibdmbkefldfaa
open Go.RowKit

def t0 : Tie := ⟨2, 7, 1, 0, 0, 0, 0, false, ⟨none, 0, []⟩, ⟨none, 0, []⟩⟩
theorem t0_reads (w : World) : rTie.R w t0.cells t0 := by
  have hi : ∀ n : Int, (Lit.int .i64 n).wf = true → (Rd.int .i64).R w [.int .i64 n] n := fun n h => ⟨rfl, h⟩
  have hs1 : (Rd.slice rEdge).R w [.slice none 0 0] ⟨none, 0, []⟩ := ⟨rfl, Nat.le_refl _, Nat.zero_le _, .inl rfl⟩
  have hs2 : (Rd.slice rReach).R w [.slice none 0 0] ⟨none, 0, []⟩ := ⟨rfl, Nat.le_refl _, Nat.zero_le _, .inl rfl⟩
  refine ⟨(((2, 7, 1, 0), 0, 0), 0, false, ⟨none, 0, []⟩, ⟨none, 0, []⟩), ⟨_, _, rfl, ⟨_, _, rfl, ⟨_, _, rfl, hi 2 rfl, ⟨_, _, rfl, hi 7 rfl, ⟨_, _, rfl, hi 1 rfl, hi 0 rfl⟩⟩⟩, ⟨_, _, rfl, hi 0 rfl, hi 0 rfl⟩⟩, ⟨_, _, rfl, hi 0 rfl, ⟨_, _, rfl, rfl, ⟨_, _, rfl, hs1, hs2⟩⟩⟩⟩, rfl⟩

theorem awake_calls (w : World) : Calls Try.prog 7 #[] w fun e w' => e = .returned (.bool true) ∧ Below w.heap.size w w' := by
  go_enter Try.func7, Try.ntmps7
  go_wp2_with fail
  refine (goes_calls t0 ⟨1, 0, false, 2, 0, 1, 0⟩ _).mono ?_
  rintro e w1 ⟨rfl, hb1⟩
  rw [show goes ⟨1, 0, false, 2, 0, 1, 0⟩ t0 = true from by decide]
  have h1 := blk_below' hb1 (blk_new _ _)
  have k1 := cells_all h1
  simp only [CellsAt, Nat.reduceAdd, and_true] at k1
  obtain ⟨a0, a1, a2, a3, a4, a5, a6, a7, a8, a9⟩ := k1
  have HB := Lib.hid (((Below.refl w.heap.size w).alloc (Nat.le_refl _) _).trans (hb1.mono (by simp)))
  clear hb1 h1
  go_wp2_with fail
  refine (some_calls (some ⟨w1.heap.size, 0, none⟩) 1 [t0] ⟨0, 0, false, 0, 0, 0, 0⟩ _ ?_ (by simp)).mono ?_
  · refine .inr ⟨_, _, rfl, fun i x hx => ⟨t0.cells, fun j v hj => ?_, ?_⟩⟩
    · obtain rfl : i = 0 := by have := (List.getElem?_eq_some_iff.1 hx).1; simp at this; exact this
      have := cell_of (blk_new w1 (.cells t0.cells.toArray 35 (0, 0))) (o := j) (v := v) (by simpa using hj)
      rw [show 0 + 0 * rTie.n + j = j by rw [Nat.zero_mul]; omega]
      exact this
    · obtain rfl : x = t0 := by
        have := List.mem_of_getElem? hx
        simpa using this
      exact t0_reads _
  rintro e w2 ⟨a', c', rfl, hr, hb2⟩
  rw [show List.filter (goes ⟨0, 0, false, 0, 0, 0, 0⟩) [t0] = [] from by decide]
  have HB2 := Lib.hid ((HB.out.alloc HB.out.size _).trans (hb2.mono (by rw [World.size_alloc]; have := HB.out.size; omega)))
  clear hb2 hr
  go_wp2_with fail
  go_ret
  exact ⟨rfl, HB2.out⟩
end Go.Proofs.Ytnibdmbkefldfaa
