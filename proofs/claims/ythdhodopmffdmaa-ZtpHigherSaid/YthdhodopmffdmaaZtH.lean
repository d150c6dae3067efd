/- ZtpHigher: the walk. -/
import Derived.Test.YthdhodopmffdmaaZtG
namespace Go.Proofs.Ythdhodopmffdmaa
open Go.RowKit

set_option maxRecDepth 100000 in
set_option maxHeartbeats 1000000 in
theorem higher_no (low high now : Int) (w : World) (h : low < 1 ∨ 24 < high ∨ high ≤ low ∨ now < 0 ∨ 549755813888 < now) : Calls Try.prog 7 #[.int .i64 low, .int .i64 high, .int .i64 now] w fun e w' => e = .returned (.bool true) ∧ Below w.heap.size w w' := by
  by_cases h1 : low < 1
  case neg =>
    have b1 : decide (low < 1) = false := decide_eq_false h1
    by_cases h2 : 24 < high
    case neg =>
      have b2 : decide (24 < high) = false := decide_eq_false h2
      by_cases h3 : high ≤ low
      case neg =>
        have b3 : decide (high ≤ low) = false := decide_eq_false h3
        by_cases h4 : now < 0
        case neg =>
          have b4 : decide (now < 0) = false := decide_eq_false h4
          have h5 : 549755813888 < now := by omega
          have b5 : decide (549755813888 < now) = true := decide_eq_true h5
          clear h
          go_enter Try.func7, Try.ntmps7
          go_wp2_with (first | (go_at_call 9; refine (awake_calls w).mono ?_; rintro e wa ⟨rfl, ha⟩; have HA := Lib.hid ha; clear ha) | (go_at_call 10; refine (new_zs w _ HA.out).mono ?_; rintro e w1 ⟨zb, mb, rfl, h1⟩; have H1 := Lib.hid h1; clear h1))
          go_ret
          exact ⟨rfl, H1.out.below⟩
        have b4 : decide (now < 0) = true := decide_eq_true h4
        clear h
        go_enter Try.func7, Try.ntmps7
        go_wp2_with (first | (go_at_call 9; refine (awake_calls w).mono ?_; rintro e wa ⟨rfl, ha⟩; have HA := Lib.hid ha; clear ha) | (go_at_call 10; refine (new_zs w _ HA.out).mono ?_; rintro e w1 ⟨zb, mb, rfl, h1⟩; have H1 := Lib.hid h1; clear h1))
        go_ret
        exact ⟨rfl, H1.out.below⟩
      have b3 : decide (high ≤ low) = true := decide_eq_true h3
      clear h
      go_enter Try.func7, Try.ntmps7
      go_wp2_with (first | (go_at_call 9; refine (awake_calls w).mono ?_; rintro e wa ⟨rfl, ha⟩; have HA := Lib.hid ha; clear ha) | (go_at_call 10; refine (new_zs w _ HA.out).mono ?_; rintro e w1 ⟨zb, mb, rfl, h1⟩; have H1 := Lib.hid h1; clear h1))
      go_ret
      exact ⟨rfl, H1.out.below⟩
    have b2 : decide (24 < high) = true := decide_eq_true h2
    clear h
    go_enter Try.func7, Try.ntmps7
    go_wp2_with (first | (go_at_call 9; refine (awake_calls w).mono ?_; rintro e wa ⟨rfl, ha⟩; have HA := Lib.hid ha; clear ha) | (go_at_call 10; refine (new_zs w _ HA.out).mono ?_; rintro e w1 ⟨zb, mb, rfl, h1⟩; have H1 := Lib.hid h1; clear h1))
    go_ret
    exact ⟨rfl, H1.out.below⟩
  have b1 : decide (low < 1) = true := decide_eq_true h1
  clear h
  go_enter Try.func7, Try.ntmps7
  go_wp2_with (first | (go_at_call 9; refine (awake_calls w).mono ?_; rintro e wa ⟨rfl, ha⟩; have HA := Lib.hid ha; clear ha) | (go_at_call 10; refine (new_zs w _ HA.out).mono ?_; rintro e w1 ⟨zb, mb, rfl, h1⟩; have H1 := Lib.hid h1; clear h1))
  go_ret
  exact ⟨rfl, H1.out.below⟩

set_option maxRecDepth 100000 in
set_option maxHeartbeats 1000000 in
theorem higher_law (low high now : Int) (w : World) : Calls Try.prog 7 #[.int .i64 low, .int .i64 high, .int .i64 now] w fun e w' => e = .returned (.bool true) ∧ Below w.heap.size w w' := by
  by_cases hc : low < 1 ∨ 24 < high ∨ high ≤ low ∨ now < 0 ∨ 549755813888 < now
  · exact higher_no low high now w hc
  have h1 : ¬ low < 1 := by omega
  have h2 : ¬ 24 < high := by omega
  have h3 : ¬ high ≤ low := by omega
  have h4 : ¬ now < 0 := by omega
  have h5 : ¬ 549755813888 < now := by omega
  clear hc
  have L1 := Lib.hid (show 1 ≤ low by omega)
  have L2 := Lib.hid (show high ≤ 24 by omega)
  have L3 := Lib.hid (show low < high by omega)
  have L4 := Lib.hid (show 0 ≤ now by omega)
  have L5 := Lib.hid (show now ≤ 549755813888 by omega)
  have b1 : decide (low < 1) = false := decide_eq_false h1
  have b2 : decide (24 < high) = false := decide_eq_false h2
  have b3 : decide (high ≤ low) = false := decide_eq_false h3
  have b4 : decide (now < 0) = false := decide_eq_false h4
  have b5 : decide (549755813888 < now) = false := decide_eq_false h5
  have e1 : IntKind.i64.wrap (now + 1) = now + 1 := IntWalk.i64_in _ (by omega)
  have e2 : IntKind.i64.wrap (now + 2) = now + 2 := IntWalk.i64_in _ (by omega)
  have e3 : IntKind.i64.wrap (low - 1) = low - 1 := IntWalk.i64_in _ (by omega)
  have e4 : IntKind.i64.wrap (high - 1) = high - 1 := IntWalk.i64_in _ (by omega)
  clear h1 h2 h3 h4 h5
  have q1 := Lib.hid (hi1 L1.out L2.out L3.out L4.out L5.out)
  have q2 := Lib.hid (hi2 L1.out L2.out L3.out L4.out L5.out)
  have q3 := Lib.hid (hi3 L1.out L2.out L3.out L4.out L5.out)
  have q4 := Lib.hid (hi4 L1.out L2.out L3.out L4.out L5.out)
  have q5 := Lib.hid (hi5 L1.out L2.out L3.out L4.out L5.out)
  have q6 := Lib.hid (hi6 L1.out L2.out L3.out L4.out L5.out)
  have q7 := Lib.hid (hi7 L1.out L2.out L3.out L4.out L5.out)
  have q8 := Lib.hid (hi8 L1.out L2.out L3.out L4.out L5.out)
  have q9 := Lib.hid (hi9 L1.out L2.out L3.out L4.out L5.out)
  have v1 := Lib.hid (lev_of (h := false) (u := 0) (show 0 ≤ low by have := L1.out; omega) (by have := L2.out; have := L3.out; omega))
  have v2 := Lib.hid (lev_of (h := false) (u := 0) (show 0 ≤ high by have := L1.out; have := L3.out; omega) L2.out)
  go_enter Try.func7, Try.ntmps7
  go_wp2_with (first
    | (go_at_call 9; refine (awake_calls w).mono ?_; rintro e wa ⟨rfl, ha⟩; have HA := Lib.hid ha; clear ha)
    | (go_at_call 10; refine (new_zs w _ HA.out).mono ?_; rintro e w1 ⟨zb, mb, rfl, h1⟩; have H1 := Lib.hid h1; clear h1)
    | (go_at_call 12; refine (offer_zs H5.out _ _ _ _).mono ?_; rintro e w2 ⟨rfl, h2⟩; rw [q5.out] at h2 ⊢; have H6 := Lib.hid h2; clear h2)
    | (go_at_call 12; refine (offer_zs H3.out _ _ _ _).mono ?_; rintro e w2 ⟨rfl, h2⟩; rw [q3.out] at h2 ⊢; have H4 := Lib.hid h2; clear h2)
    | (go_at_call 12; refine (offer_zs H1.out _ _ _ _).mono ?_; rintro e w2 ⟨rfl, h2⟩; rw [q1.out] at h2 ⊢; have H2 := Lib.hid h2; clear h2)
    | (go_at_call 14; refine (tick_zs H6.out _).mono ?_; rintro e w2 ⟨rfl, h2⟩; rw [q6.out] at h2; have H7 := Lib.hid h2; clear h2)
    | (go_at_call 14; refine (tick_zs H4.out _).mono ?_; rintro e w2 ⟨rfl, h2⟩; rw [q4.out] at h2; have H5 := Lib.hid h2; clear h2)
    | (go_at_call 14; refine (tick_zs H2.out _).mono ?_; rintro e w2 ⟨rfl, h2⟩; rw [q2.out] at h2; have H3 := Lib.hid h2; clear h2)
    | (go_at_call 16; refine (level_zs H7.out).mono ?_; rintro e w5 ⟨rfl, h5⟩; have H7 := Lib.hid h5; clear h5; rw [v2.out])
    | (go_at_call 16; refine (level_zs H5.out).mono ?_; rintro e w5 ⟨rfl, h5⟩; have H5 := Lib.hid h5; clear h5; rw [v2.out])
    | (go_at_call 16; refine (level_zs H3.out).mono ?_; rintro e w5 ⟨rfl, h5⟩; have H3 := Lib.hid h5; clear h5; rw [v1.out])
    | (go_at_call 20; refine (quiet_zs H7.out _).mono ?_; rintro e w7 ⟨rfl, h7⟩; have H7 := Lib.hid h7; clear h7; (first | rw [q7.out] | rw [q8.out] | rw [q9.out])))
  go_ret
  exact ⟨rfl, H7.out.below⟩
end Go.Proofs.Ythdhodopmffdmaa
