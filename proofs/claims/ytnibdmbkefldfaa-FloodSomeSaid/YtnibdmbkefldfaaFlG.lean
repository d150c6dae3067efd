/- Same at equal lists. -/
import Derived.Test.YtnibdmbkefldfaaFlF
namespace Go.Proofs.Ytnibdmbkefldfaa
open Go.RowKit

theorem same_calls (a1 a2 : Option Addr) (c1 c2 : Nat) (l : List Tie) (w : World) (h1 : RowAt rTie w a1 l) (h2 : RowAt rTie w a2 l) (hl : l.length ≤ 100000) :
    Calls Try.prog 10 #[.slice a1 l.length c1, .slice a2 l.length c2] w fun e w' => e = .returned (.bool true) ∧ Below w.heap.size w w' := by
  have H1 := Lib.hid h1
  have H2 := Lib.hid h2
  clear h1 h2
  go_enter Try.func10, Try.ntmps10
  go_wp2_with fail
  go_loopg [5] (l.length + 1) (fun g k wr => ∃ i : Nat, i ≤ l.length ∧ g + i = l.length + 1 ∧ k = .int .i64 i ∧ Hid (Below w.heap.size w wr))
  case atStart => exact ⟨0, Nat.zero_le _, rfl, rfl, Below.refl _ _⟩
  case round =>
    obtain ⟨i, hil, hg, rfl, HB⟩ := hrel
    by_cases hlt : i < l.length
    · obtain ⟨b1, off1, cs1, rfl, hc1, hR1⟩ := H1.out.get (List.getElem?_eq_getElem hlt)
      obtain ⟨b2, off2, cs2, rfl, hc2, hR2⟩ := H2.out.get (List.getElem?_eq_getElem hlt)
      generalize l[i] = t at hR1 hR2
      obtain ⟨rfl, _⟩ := rTie_out hR1
      obtain ⟨rfl, _⟩ := rTie_out hR2
      have HR := Lib.hid (rTie.mono (CK.of_below HB.out) hR1)
      replace hc1 := hc1.mono (CK.of_below HB.out)
      replace hc2 := hc2.mono (CK.of_below HB.out)
      change CellsOff wr b1 (off1 + i * 10) 0 _ at hc1
      change CellsOff wr b2 (off2 + i * 10) 0 _ at hc2
      simp only [CellsOff, Tie.cells, Nat.reduceAdd, Nat.add_zero, and_true] at hc1 hc2
      obtain ⟨c0, c1, c2, c3, c4, c5, c6, c7, c8, c9⟩ := hc1
      obtain ⟨d0, d1, d2, d3, d4, d5, d6, d7, d8, d9⟩ := hc2
      clear hR1 hR2
      go_wp2_with fail
      go_still_tail 8, (by kernel_rfl)
      clear c0 c1 c2 c3 c4 c5 c6 c7 c8 c9 d0 d1 d2 d3 d4 d5 d6 d7 d8 d9
      go_wp2_with fail
      refine (sametie_calls t wr.drew (rTie.mono (w := wr) (fun _ _ h => h) HR.out)).mono ?_
      rintro e w2 ⟨rfl, hb2⟩
      change Below wr.heap.size wr.drew w2 at hb2
      have HB2 := Lib.hid (HB.out.trans ((((Below.refl _ _).drew).trans hb2).mono HB.out.size))
      clear hb2
      go_wp2_with fail
      go_roundg (l.length - i)
      case measure => omega
      case rel => exact ⟨i + 1, by omega, by omega, by go_num, HB2⟩
    · go_wp2_with fail
      go_ret
      exact ⟨rfl, HB.out⟩
end Go.Proofs.Ytnibdmbkefldfaa
