/- Quiet: whether a link is offered none. -/
import Derived.Test.YthdhodopmffdmaaZtD
import Derived.Deep.QuietTactic
import Derived.BigQuiet
namespace Go.Proofs.Ythdhodopmffdmaa
open Go.RowKit

def quietB (z : Zs) (m : Offs) (link : Int) : Bool := match getM m link with
  | some x => !toldB z && (x.1 == z.taken)
  | none => false
theorem below_drewN {B : Nat} {w w' : World} (h : Below B w w') (n : Nat) : Below B w (w'.drewN n) := ⟨h.os, h.tape, h.output, h.size, h.block⟩
theorem told_same (zb mb : Nat) (z : Zs) (w : World) (h : w.heap[zb]? = some (zBlk z mb)) {b : Bool} (hb : toldB z = b) : Calls Try.prog 24 #[.pointer (some ⟨zb, 0, none⟩)] w fun e w' => e = .returned (.bool b) ∧ w' = w :=
  (told_calls zb mb z w h).mono fun e w' h => ⟨by rw [h.1, hb], h.2.symm⟩

theorem told_quiet {zb mb : Nat} {z : Zs} (w : World) (h : w.heap[zb]? = some (zBlk z mb)) {b : Bool} (hb : toldB z = b) (n : Nat) : Calls Try.prog 24 #[.pointer (some ⟨zb, 0, none⟩)] (w.drewN n) fun e w' => e = .returned (.bool b) ∧ ∃ m, w' = w.drewN m :=
  Calls.quiet_of_same (told_same zb mb z (w.drewN n) h hb)
set_option maxHeartbeats 1000000 in
theorem quiet_calls (zb mb : Nat) (z : Zs) (m : Offs) (w : World) (link : Int) (h : ZAt w zb mb z m) : Calls Try.prog 20 #[.pointer (some ⟨zb, 0, none⟩), .int .i64 link] w fun e w' => e = .returned (.bool (quietB z m link)) ∧ Below w.heap.size w w' := by
  have HZ := Lib.hid h
  have k1 := cells_all h.1
  simp only [CellsAt, Nat.reduceAdd, and_true] at k1
  obtain ⟨-, -, -, c3, c4, -, -⟩ := k1
  have hlt : zb < w.heap.size := size_of h.1
  clear h
  cases hg : getM m link with
  | none =>
    have HG := Lib.hid hg
    clear hg
    go_enter Try.func20, Try.ntmps20
    go_wp2_with (refine wpList_look_none rfl (.tmp 11) (.tmp 12) 44 rfl 3 51 Try.underlying44 rfl (.agg #[.int .i64 0, .int .i64 0]) (by rfl) rfl link rfl HZ.out.2 HG.out ?_)
    go_quiet (fail)
    go_wp2
    go_ret
    exact ⟨ret_b (by rw [quietB, HG.out]), below_drewN ((Below.refl _ _).alloc (Nat.le_refl _) _) _⟩
  | some x =>
    have HG := Lib.hid hg
    clear hg
    cases ht : toldB z
    · have HT := Lib.hid ht
      have HC := Lib.hid (told_quiet (w.alloc (.cells #[.int .i64 x.1, .int .i64 x.2] 51)) (HZ.out.alloc _).1 ht)
      clear ht
      go_enter Try.func20, Try.ntmps20
      go_wp2_with (refine wpList_look_some rfl (.tmp 11) (.tmp 12) 44 rfl 3 51 Try.underlying44 rfl (.agg #[.int .i64 0, .int .i64 0]) (by rfl) rfl link rfl HZ.out.2 x HG.out (.agg #[.int .i64 x.1, .int .i64 x.2]) rfl ?_)
      go_quiet ((go_at_call 24; exact HC.out _))
      go_wp2
      go_ret
      exact ⟨ret_b (by rw [quietB, HG.out]; simp [HT.out]), below_drewN ((Below.refl _ _).alloc (Nat.le_refl _) _) _⟩
    · have HT := Lib.hid ht
      have HC := Lib.hid (told_quiet (w.alloc (.cells #[.int .i64 x.1, .int .i64 x.2] 51)) (HZ.out.alloc _).1 ht)
      clear ht
      go_enter Try.func20, Try.ntmps20
      go_wp2_with (refine wpList_look_some rfl (.tmp 11) (.tmp 12) 44 rfl 3 51 Try.underlying44 rfl (.agg #[.int .i64 0, .int .i64 0]) (by rfl) rfl link rfl HZ.out.2 x HG.out (.agg #[.int .i64 x.1, .int .i64 x.2]) rfl ?_)
      go_quiet ((go_at_call 24; exact HC.out _))
      go_wp2
      go_ret
      exact ⟨ret_b (by rw [quietB, HG.out]; simp [HT.out]), below_drewN ((Below.refl _ _).alloc (Nat.le_refl _) _) _⟩
end Go.Proofs.Ythdhodopmffdmaa
