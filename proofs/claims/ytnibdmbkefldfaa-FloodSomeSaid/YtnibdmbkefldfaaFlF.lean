/- SameTie and Same at equal pieces, at equal lists: true. -/
import Derived.Test.YtnibdmbkefldfaaFlE
import Derived.Deep.QuietTactic
import Derived.BigQuiet
namespace Go.Proofs.Ytnibdmbkefldfaa
open Go.RowKit

def TwoInv (t : Tie) (w wr : World) : Prop := Below w.heap.size w wr ∧ wr.heap[w.heap.size]? = some (.cells t.cells.toArray 35 (0, 0)) ∧ wr.heap[w.heap.size + 1]? = some (.cells t.cells.toArray 35 (0, 0))
theorem TwoInv.drewN {t : Tie} {w wr : World} {n : Nat} (h : TwoInv t w wr) : TwoInv t w (wr.drewN n) := ⟨h.1.trans ⟨rfl, rfl, rfl, Nat.le_refl _, fun _ _ => rfl⟩, h.2.1, h.2.2⟩
theorem rEdge_out {w : World} {cs : List Value} {x : Int × Int × Int} (h : rEdge.R w cs x) : cs = [.int .i64 x.1, .int .i64 x.2.1, .int .i64 x.2.2] := by
  obtain ⟨_, _, rfl, ⟨rfl, _⟩, ⟨_, _, rfl, ⟨rfl, _⟩, ⟨rfl, _⟩⟩⟩ := h
  rfl
theorem rReach_out {w : World} {cs : List Value} {x : (Int × Int) × Int} (h : rReach.R w cs x) : cs = [.int .u32 x.1.1, .int .i64 x.1.2, .int .i64 x.2] := by
  obtain ⟨_, _, rfl, ⟨_, _, rfl, ⟨rfl, _⟩, ⟨rfl, _⟩⟩, ⟨rfl, _⟩⟩ := h
  rfl

theorem sametie_calls (t : Tie) (w : World) (hR : rTie.R w t.cells t) : Calls Try.prog 15 #[t.v, t.v] w fun e w' => e = .returned (.bool true) ∧ Below w.heap.size w w' := by
  obtain ⟨_, he1, he2⟩ := rTie_out hR
  have HE := Lib.hid he1
  have HQ := Lib.hid he2
  clear hR he1 he2
  unfold Tie.v Tie.cells
  go_enter Try.func15, Try.ntmps15
  go_wp2_with fail
  go_loopg [5] (t.e.l.length + 1) (fun g k wr => ∃ i : Nat, i ≤ t.e.l.length ∧ g + i = t.e.l.length + 1 ∧ k = .int .i64 i ∧ Hid (TwoInv t w wr))
  case atStart => exact ⟨0, Nat.zero_le _, rfl, rfl, ((Below.refl _ _).alloc (Nat.le_refl _) _).alloc (by simp) _, blk_alloc (blk_new _ _) _, blk_new' _ _ _ (by simp)⟩
  case round =>
    obtain ⟨i, hil, hg, rfl, HI⟩ := hrel
    obtain ⟨hBel, h1, h2⟩ := HI.out
    have HB := Lib.hid hBel
    have hy := size_of h1
    have hy2 := size_of h2
    have k1 := cells_all h1
    have k2 := cells_all h2
    clear hBel h1 h2
    simp only [CellsAt, Tie.cells, Nat.reduceAdd, and_true] at k1 k2
    obtain ⟨a0, a1, a2, a3, a4, a5, a6, a7, a8, a9⟩ := k1
    obtain ⟨b0, b1, b2, b3, b4, b5, b6, b7, b8, b9⟩ := k2
    have hmax : t.e.l.length ≤ 9223372036854775807 := by have := HE.out.2.1; have := HE.out.2.2.1; unfold maxLen at *; omega
    by_cases hlt : i < t.e.l.length
    · obtain ⟨b, off, cs, ha, hc, hRe⟩ := HE.out.2.2.2.get (List.getElem?_eq_getElem hlt)
      generalize t.e.l[i] = x at hRe
      obtain rfl := rEdge_out hRe
      replace hc := hc.mono (CK.of_below HB.out)
      change CellsOff wr b (off + i * 3) 0 _ at hc
      have hyb := cell_size hc.1
      simp only [CellsOff, Nat.reduceAdd, Nat.add_zero, and_true] at hc
      obtain ⟨e0, e1, e2⟩ := hc
      clear hRe
      rw [ha] at a8 b8
      have HA := Lib.hid ha
      clear ha
      go_wp2_with fail
      go_quiet (fail)
      go_wp2_with fail
      go_roundg (t.e.l.length - i)
      case measure => omega
      case rel => exact ⟨i + 1, by omega, by omega, by go_num, HI.out.drewN⟩
    · go_wp2_with fail
      clear hmax a0 a1 a2 a3 a4 a5 a6 a7 a8 a9 b0 b1 b2 b3 b4 b5 b6 b7 b8 b9 hlt hil hg hy hy2 HB
      generalize wr = w0 at HI
      go_loopg [6] (t.r.l.length + 1) (fun g k wr => ∃ i : Nat, i ≤ t.r.l.length ∧ g + i = t.r.l.length + 1 ∧ k = .int .i64 i ∧ Hid (TwoInv t w wr))
      case atStart => exact ⟨0, Nat.zero_le _, rfl, rfl, HI⟩
      case round =>
        obtain ⟨i, hil, hg, rfl, HI⟩ := hrel
        obtain ⟨hBel, h1, h2⟩ := HI.out
        have HB := Lib.hid hBel
        have hy := size_of h1
        have hy2 := size_of h2
        have k1 := cells_all h1
        have k2 := cells_all h2
        clear hBel h1 h2
        simp only [CellsAt, Tie.cells, Nat.reduceAdd, and_true] at k1 k2
        obtain ⟨a0, a1, a2, a3, a4, a5, a6, a7, a8, a9⟩ := k1
        obtain ⟨b0, b1, b2, b3, b4, b5, b6, b7, b8, b9⟩ := k2
        have hmax : t.r.l.length ≤ 9223372036854775807 := by have := HQ.out.2.1; have := HQ.out.2.2.1; unfold maxLen at *; omega
        by_cases hlt : i < t.r.l.length
        · obtain ⟨b, off, cs, ha, hc, hRe⟩ := HQ.out.2.2.2.get (List.getElem?_eq_getElem hlt)
          generalize t.r.l[i] = x at hRe
          obtain rfl := rReach_out hRe
          replace hc := hc.mono (CK.of_below HB.out)
          change CellsOff wr b (off + i * 3) 0 _ at hc
          have hyb := cell_size hc.1
          simp only [CellsOff, Nat.reduceAdd, Nat.add_zero, and_true] at hc
          obtain ⟨e0, e1, e2⟩ := hc
          clear hRe
          rw [ha] at a9 b9
          have HA := Lib.hid ha
          clear ha
          go_wp2_with fail
          go_quiet (fail)
          go_wp2_with fail
          go_roundg (t.r.l.length - i)
          case measure => omega
          case rel => exact ⟨i + 1, by omega, by omega, by go_num, HI.out.drewN⟩
        · go_wp2_with fail
          go_ret
          exact ⟨rfl, HB.out⟩
end Go.Proofs.Ytnibdmbkefldfaa
