/- TopTables: a path is the same as itself. -/
import Derived.Test.YtjeanolcdmfbeaaTpB
namespace Go.Proofs.Ytjeanolcdmfbeaa
open Go.RowKit

def SBox (p : Pth) (w wr : World) : Prop := Below w.heap.size w wr ∧ wr.heap[w.heap.size]? = some (.cells p.cells.toArray 32 (0, 0)) ∧ wr.heap[w.heap.size + 1]? = some (.cells p.cells.toArray 32 (0, 0))
theorem SBox.drew {p : Pth} {w wr : World} (h : SBox p w wr) (n : Nat) : SBox p w (wr.drewN n) := ⟨below_drewN h.1 n, h.2⟩
theorem sbox_new (p : Pth) (w : World) : SBox p w ((w.alloc (.cells p.cells.toArray 32 (0, 0))).alloc (.cells p.cells.toArray 32 (0, 0))) :=
  ⟨((Below.refl _ _).alloc (Nat.le_refl _) _).alloc (by rw [World.size_alloc]; omega) _, blk_alloc (blk_new _ _) _, blk_new' _ _ _ (World.size_alloc _ _).symm⟩

set_option maxRecDepth 100000 in
set_option maxHeartbeats 4000000 in
theorem same_calls (p : Pth) (w : World) (hv : (Rd.slice (Rd.int .i64)).R w [.slice p.via.a p.via.l.length p.via.cap] p.via) :
    Calls Try.prog 8 #[.agg p.cells.toArray, .agg p.cells.toArray] w fun e w' => e = .returned (.bool true) ∧ Below w.heap.size w w' := by
  obtain ⟨-, hl, hc, hr⟩ := hv
  unfold maxLen at hc
  have HR := Lib.hid hr
  have HB0 := Lib.hid (sbox_new p w)
  clear hr
  simp only [Pth.cells]
  go_enter Try.func8, Try.ntmps8
  go_wp2_with (fail)
  go_loopg [5] (p.via.l.length + 1) (fun g i wr => ∃ j : Nat, j ≤ p.via.l.length ∧ g + j = p.via.l.length + 1 ∧ i = .int .i64 j ∧ Hid (SBox p w wr))
  case atStart => exact ⟨0, Nat.zero_le _, rfl, rfl, HB0⟩
  case round =>
    clear HB0
    obtain ⟨j, hj, hg, rfl, HI⟩ := hrel
    have k1 := cells_all HI.out.2.1
    have k2 := cells_all HI.out.2.2
    have z1 := size_of HI.out.2.1
    have z2 := size_of HI.out.2.2
    simp only [CellsAt, Pth.cells, Nat.reduceAdd, and_true] at k1 k2
    obtain ⟨a0, a1, a2, a3, a4⟩ := k1
    obtain ⟨b0, b1, b2, b3, b4⟩ := k2
    by_cases hlt : j < p.via.l.length
    · have e1 : IntKind.i64.wrap ((j : Int) + 1) = (j : Int) + 1 := IntWalk.i64_in _ (by omega)
      obtain ⟨b, off, cs, hva, hcs, hR⟩ := HR.out.get (List.getElem?_eq_getElem hlt)
      generalize p.via.l[j] = x at hR
      obtain ⟨rfl, -⟩ := hR
      have hx := hcs.mono (CK.of_below HI.out.1)
      simp only [CellsOff, Rd.int, Nat.mul_one, Nat.add_zero, and_true] at hx
      have hbl := cell_size hx
      rw [hva] at a4 b4
      clear hva hcs
      go_wp2_with (fail)
      go_quiet (fail)
      go_wp2_with (fail)
      go_roundg (p.via.l.length - j)
      case measure => omega
      case rel => exact ⟨j + 1, by omega, by omega, by go_num, Lib.hid (HI.out.drew _)⟩
    · have hlt3 : ¬ (j : Int) < p.via.l.length := by omega
      go_wp2_with (fail)
      go_ret
      exact ⟨rfl, HI.out.1⟩
end Go.Proofs.Ytjeanolcdmfbeaa
