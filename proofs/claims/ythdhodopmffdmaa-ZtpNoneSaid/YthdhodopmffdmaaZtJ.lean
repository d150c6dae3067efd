/- ZtpNone: offers that are none give no level. -/
import Derived.Test.YthdhodopmffdmaaZtI
namespace Go.Proofs.Ythdhodopmffdmaa
open Go.RowKit

theorem none_off {link level now : Int} {none : Bool} (h : level < 1 ∨ none = true) : (offM [] link level none now).2 = [] := by
  unfold offM
  split
  · rfl
  · rw [if_pos (by rcases h with h | h <;> simp [h])]
    rfl
theorem none_tick (now : Int) : tickS z0 [] now = (z0, []) := by
  unfold tickS
  split
  · rfl
  · rfl
theorem none_quiet (link : Int) : quietB z0 [] link = false := rfl

set_option maxRecDepth 100000 in
set_option maxHeartbeats 1000000 in
theorem none_law (a : Option Addr) (c : Nat) (l : List Stp) (w : World) (hr : RowAt rStp w a l) (hmax : l.length ≤ maxLen) : Calls Try.prog 8 #[.slice a l.length c] w
    fun e w' => e = .returned (.bool true) ∧ Below w.heap.size w w' := by
  have HR := Lib.hid hr
  clear hr
  unfold maxLen at hmax
  go_enter Try.func8, Try.ntmps8
  go_wp2_with (first
    | (go_at_call 9; refine (awake_calls w).mono ?_; rintro e wa ⟨rfl, ha⟩; have HA := Lib.hid ha; clear ha)
    | (go_at_call 10; refine (new_zs w _ HA.out).mono ?_; rintro e w1 ⟨zb, mb, rfl, h1⟩; have H1 := Lib.hid h1; clear h1))
  go_loopg [6] (l.length + 1) (fun g k wr => ∃ i : Nat, i ≤ l.length ∧ g + i = l.length + 1 ∧ k = .int .i64 i ∧ Hid (ZS w zb mb z0 [] wr))
  case atStart => exact ⟨0, Nat.zero_le _, rfl, rfl, H1⟩
  case round =>
    clear H1
    obtain ⟨i, hil, hg, rfl, HI⟩ := hrel
    by_cases hlt : i < l.length
    · have e1 : IntKind.i64.wrap ((i : Int) + 1) = (i : Int) + 1 := IntWalk.i64_in _ (by omega)
      obtain ⟨b, off, cs, rfl, hc, hR⟩ := HR.out.get (List.getElem?_eq_getElem hlt)
      generalize l[i] = t at hR
      obtain rfl := rStp_out hR
      replace hc := hc.mono (CK.of_below HI.out.below)
      change CellsOff wr b (off + i * 5) 0 t.cells at hc
      simp only [CellsOff, Stp.cells, Nat.reduceAdd, Nat.add_zero, and_true] at hc
      obtain ⟨c0, c1, c2, c3, c4⟩ := hc
      clear hR
      have HS := Lib.hid (ZT.new HI.out t)
      by_cases h150 : (i : Int) < 150
      · have b150 : decide ((i : Int) < 150) = true := decide_eq_true h150
        go_wp2_with (first
          | (go_at_call 14; refine (tick_zt HS.out _).mono ?_; rintro e w2 ⟨rfl, h2⟩; rw [none_tick] at h2; obtain ⟨⟨s0, s1, s2, s3, s4⟩, sl⟩ := h2.cells; have HV := Lib.hid h2; clear h2)
          | (go_at_call 12; refine (offer_zt HU.out _ _ _ _).mono ?_; rintro e w2 ⟨rfl, h2⟩; rw [none_off (.inr rfl)] at h2; obtain ⟨⟨s0, s1, s2, s3, s4⟩, sl⟩ := h2.cells; have HV := Lib.hid h2; clear h2)
          | (go_at_call 12; refine (offer_zt HS.out _ _ _ _).mono ?_; rintro e w2 ⟨rfl, h2⟩; rw [none_off (.inl (by omega))] at h2; obtain ⟨⟨s0, s1, s2, s3, s4⟩, sl⟩ := h2.cells; have HU := Lib.hid h2; clear h2)
          | (go_at_call 16; refine (level_zt HV.out).mono ?_; rintro e w2 ⟨rfl, h2⟩; rw [lev0]; obtain ⟨⟨s0, s1, s2, s3, s4⟩, sl⟩ := h2.cells; have HX := Lib.hid h2; clear h2)
          | (go_at_call 18; refine (best_zt HX.out).mono ?_; rintro e w2 ⟨rfl, h2⟩; rw [show bestM [] = 0 from rfl]; obtain ⟨⟨s0, s1, s2, s3, s4⟩, sl⟩ := h2.cells; have HY := Lib.hid h2; clear h2)
          | (go_at_call 20; refine (quiet_zt HY.out _).mono ?_; rintro e w2 ⟨rfl, h2⟩; rw [none_quiet]; obtain ⟨⟨s0, s1, s2, s3, s4⟩, sl⟩ := h2.cells; have HZ := Lib.hid h2; clear h2))
        all_goals
          go_roundg (l.length - i)
          case measure => omega
          case rel => exact ⟨i + 1, by omega, by omega, by go_num, Lib.hid HZ.out.zs⟩
      · have b150 : decide ((i : Int) < 150) = false := decide_eq_false h150
        go_wp2
        go_ret
        exact ⟨rfl, HI.out.below⟩
    · have hlt' : ¬ (i : Int) < l.length := by omega
      have bl : decide ((i : Int) < l.length) = false := decide_eq_false hlt'
      go_wp2
      go_ret
      exact ⟨rfl, HI.out.below⟩
end Go.Proofs.Ythdhodopmffdmaa
