/- ZtpHolds. -/
import Derived.Test.YthdhodopmffdmaaZtG
namespace Go.Proofs.Ythdhodopmffdmaa
open Go.RowKit

def hoZ (n high : Int) : Zs := if n = 11 then ⟨-1, false, false, high, false, 0⟩ else ⟨-1, false, false, 0, true, 14⟩
theorem hoZ_lev (n high : Int) (hn : ¬ n = 11) : hoZ n high = ⟨-1, false, false, 0, true, 14⟩ := if_neg hn
section
set_option linter.unusedSectionVars false
variable {low high : Int} (hl : 1 ≤ low) (hh : high ≤ 24) (hlh : low < high)
include hl hh hlh
theorem ho1 : offM [] 1 high false 10 = (0, [(1, (high, 14))]) := offM_new (by decide) (by decide) (by omega) hh (by decide) (by decide) rfl (by simp)
theorem ho2 : offM [(1, (high, 14))] 2 low false 10 = (0, [(1, (high, 14)), (2, (low, 14))]) := offM_new (by decide) (by decide) (by omega) (by omega) (by decide) (by decide) (by simp [getM]) (by simp)
theorem ho3 : tickS z0 [(1, (high, 14)), (2, (low, 14))] 10 = (⟨-1, false, false, high, false, 0⟩, [(1, (high, 14)), (2, (low, 14))]) := by
  have e : liveM [(1, (high, 14)), (2, (low, 14))] 10 = [(1, (high, 14)), (2, (low, 14))] := by simp [liveM]
  have b : bestM [(1, (high, 14)), (2, (low, 14))] = high := by simp only [bestM, List.foldr_cons, List.foldr_nil]; omega
  have hp : 0 < high := by omega
  rw [tickS_eq (by decide) (by decide), e, b]
  simp [tickZ, z0, hp]
theorem ho4 : offM [(1, (high, 14)), (2, (low, 14))] 1 high true 11 = (0, [(2, (low, 14))]) := by
  rw [offM, if_neg (by rw [badO_false (by decide) (by decide) (by omega) hh (by decide) (by decide)]; simp), if_pos (by simp)]
  simp [delM]
theorem ho5 {n x : Int} (h0 : 0 ≤ n) (h1 : n ≤ 1000) : offM [(2, (low, x))] 2 low false n = (0, [(2, (low, n + 4))]) := by
  rw [offM_again (x := (low, x)) (by decide) (by decide) hl (by omega) h0 (by omega) (by simp [getM])]
  simp
theorem ho6 {n : Int} (h0 : 11 ≤ n) (h1 : n < 14) : tickS (hoZ n high) [(2, (low, n + 4))] n = (⟨-1, false, false, 0, true, 14⟩, [(2, (low, n + 4))]) := by
  have e : liveM [(2, (low, n + 4))] n = [(2, (low, n + 4))] := by simp [liveM]; omega
  have b : bestM [(2, (low, n + 4))] = low := by simp only [bestM, List.foldr_cons, List.foldr_nil]; omega
  rw [tickS_eq (by omega) (by omega), e, b]
  by_cases hn : n = 11
  · subst hn
    have hx : ¬ high < low := by omega
    simp [hoZ, tickZ, hlh, hx]
  · have hx : 0 < low := by omega
    have hy : ¬ low < 0 := by omega
    have hz : ¬ 14 ≤ n := by omega
    simp [hoZ, hn, tickZ, hx, hy, hz]
theorem ho7 : tickS ⟨-1, false, false, 0, true, 14⟩ [(2, (low, 14 + 4))] 14 = (⟨-1, false, false, low, false, 14⟩, [(2, (low, 14 + 4))]) := by
  have e : liveM [(2, (low, 14 + 4))] 14 = [(2, (low, 14 + 4))] := by simp [liveM]
  have b : bestM [(2, (low, 14 + 4))] = low := by simp only [bestM, List.foldr_cons, List.foldr_nil]; omega
  have hx : 0 < low := by omega
  have hy : ¬ low < 0 := by omega
  rw [tickS_eq (by decide) (by decide), e, b]
  simp [tickZ, hx, hy]
theorem ho8 {x : Int} : bestM [(2, (low, x))] = low := by simp only [bestM, List.foldr_cons, List.foldr_nil]; omega
end

set_option maxRecDepth 100000 in
set_option maxHeartbeats 1000000 in
theorem holds_no (high low : Int) (w : World) (h : low < 1 ∨ 24 < high ∨ high ≤ low) : Calls Try.prog 6 #[.int .i64 high, .int .i64 low] w fun e w' => e = .returned (.bool true) ∧ Below w.heap.size w w' := by
  by_cases h1 : low < 1
  case neg =>
    have b1 : decide (low < 1) = false := decide_eq_false h1
    by_cases h2 : 24 < high
    case neg =>
      have b2 : decide (24 < high) = false := decide_eq_false h2
      have h3 : high ≤ low := by omega
      have b3 : decide (high ≤ low) = true := decide_eq_true h3
      clear h
      go_enter Try.func6, Try.ntmps6
      go_wp2_with (first | (go_at_call 9; refine (awake_calls w).mono ?_; rintro e wa ⟨rfl, ha⟩; have HA := Lib.hid ha; clear ha) | (go_at_call 10; refine (new_zs w _ HA.out).mono ?_; rintro e w1 ⟨zb, mb, rfl, h1⟩; have H1 := Lib.hid h1; clear h1))
      go_ret
      exact ⟨rfl, H1.out.below⟩
    have b2 : decide (24 < high) = true := decide_eq_true h2
    clear h
    go_enter Try.func6, Try.ntmps6
    go_wp2_with (first | (go_at_call 9; refine (awake_calls w).mono ?_; rintro e wa ⟨rfl, ha⟩; have HA := Lib.hid ha; clear ha) | (go_at_call 10; refine (new_zs w _ HA.out).mono ?_; rintro e w1 ⟨zb, mb, rfl, h1⟩; have H1 := Lib.hid h1; clear h1))
    go_ret
    exact ⟨rfl, H1.out.below⟩
  have b1 : decide (low < 1) = true := decide_eq_true h1
  clear h
  go_enter Try.func6, Try.ntmps6
  go_wp2_with (first | (go_at_call 9; refine (awake_calls w).mono ?_; rintro e wa ⟨rfl, ha⟩; have HA := Lib.hid ha; clear ha) | (go_at_call 10; refine (new_zs w _ HA.out).mono ?_; rintro e w1 ⟨zb, mb, rfl, h1⟩; have H1 := Lib.hid h1; clear h1))
  go_ret
  exact ⟨rfl, H1.out.below⟩

set_option maxRecDepth 100000 in
set_option maxHeartbeats 1000000 in
theorem holds_law (high low : Int) (w : World) : Calls Try.prog 6 #[.int .i64 high, .int .i64 low] w fun e w' => e = .returned (.bool true) ∧ Below w.heap.size w w' := by
  by_cases hc : low < 1 ∨ 24 < high ∨ high ≤ low
  · exact holds_no high low w hc
  have h1 : ¬ low < 1 := by omega
  have h2 : ¬ 24 < high := by omega
  have h3 : ¬ high ≤ low := by omega
  clear hc
  have L1 := Lib.hid (show 1 ≤ low by omega)
  have L2 := Lib.hid (show high ≤ 24 by omega)
  have L3 := Lib.hid (show low < high by omega)
  have b1 : decide (low < 1) = false := decide_eq_false h1
  have b2 : decide (24 < high) = false := decide_eq_false h2
  have b3 : decide (high ≤ low) = false := decide_eq_false h3
  have e3 : IntKind.i64.wrap (low - 1) = low - 1 := IntWalk.i64_in _ (by omega)
  have e4 : IntKind.i64.wrap (high - 1) = high - 1 := IntWalk.i64_in _ (by omega)
  clear h1 h2 h3
  have q1 := Lib.hid (ho1 L1.out L2.out L3.out)
  have q2 := Lib.hid (ho2 L1.out L2.out L3.out)
  have q3 := Lib.hid (ho3 L1.out L2.out L3.out)
  have q4 := Lib.hid (ho4 L1.out L2.out L3.out)
  have v1 := Lib.hid (lev_of (h := false) (u := 0) (show 0 ≤ high by have := L1.out; have := L3.out; omega) L2.out)
  have v2 := Lib.hid (lev_of (h := true) (u := 14) (show (0 : Int) ≤ 0 by decide) (by decide))
  have v3 := Lib.hid (lev_of (h := false) (u := 14) (show 0 ≤ low by have := L1.out; omega) (by have := L2.out; have := L3.out; omega))
  go_enter Try.func6, Try.ntmps6
  go_wp2_with (first
    | (go_at_call 9; refine (awake_calls w).mono ?_; rintro e wa ⟨rfl, ha⟩; have HA := Lib.hid ha; clear ha)
    | (go_at_call 10; refine (new_zs w _ HA.out).mono ?_; rintro e w1 ⟨zb, mb, rfl, h1⟩; have H1 := Lib.hid h1; clear h1)
    | (go_at_call 12; refine (offer_zs H4.out _ _ _ _).mono ?_; rintro e w2 ⟨rfl, h2⟩; rw [q4.out] at h2 ⊢; have H5 : Hid (ZS w zb mb (hoZ 11 high) [(2, (low, 14))] w2) := h2; clear h2)
    | (go_at_call 12; refine (offer_zs H2.out _ _ _ _).mono ?_; rintro e w2 ⟨rfl, h2⟩; rw [q2.out] at h2 ⊢; have H3 := Lib.hid h2; clear h2)
    | (go_at_call 12; refine (offer_zs H1.out _ _ _ _).mono ?_; rintro e w2 ⟨rfl, h2⟩; rw [q1.out] at h2 ⊢; have H2 := Lib.hid h2; clear h2)
    | (go_at_call 14; refine (tick_zs H3.out _).mono ?_; rintro e w2 ⟨rfl, h2⟩; rw [q3.out] at h2; have H4 := Lib.hid h2; clear h2)
    | (go_at_call 16; refine (level_zs H4.out).mono ?_; rintro e w5 ⟨rfl, h5⟩; have H4 := Lib.hid h5; clear h5; rw [v1.out]))
  go_loopg [9] 4 (fun g k wr => ∃ n x : Int, 11 ≤ n ∧ n ≤ 14 ∧ g + n = 15 ∧ k = .int .i64 n ∧ Hid (ZS w zb mb (hoZ n high) [(2, (low, x))] wr))
  case atStart => exact ⟨11, 14, by decide, by decide, by decide, rfl, H5⟩
  case round =>
    clear H1 H2 H3 H4 H5
    obtain ⟨n, x, hn1, hn2, hg, rfl, HI⟩ := hrel
    by_cases hlt : n < 14
    · have bn : decide (n < 14) = true := decide_eq_true hlt
      have e1 : IntKind.i64.wrap (n + 1) = n + 1 := IntWalk.i64_in _ (by omega)
      have q5 := Lib.hid (ho5 (x := x) L1.out L2.out L3.out (show 0 ≤ n by omega) (by omega))
      have q6 := Lib.hid (ho6 L1.out L2.out L3.out hn1 hlt)
      have q8 := Lib.hid (ho8 (x := n + 4) L1.out L2.out L3.out)
      go_wp2_with (first
        | (go_at_call 12; refine (offer_zs HI.out _ _ _ _).mono ?_; rintro e w2 ⟨rfl, h2⟩; rw [q5.out] at h2; have H2 := Lib.hid h2; clear h2)
        | (go_at_call 14; refine (tick_zs H2.out _).mono ?_; rintro e w2 ⟨rfl, h2⟩; rw [q6.out] at h2; have H3 := Lib.hid h2; clear h2)
        | (go_at_call 16; refine (level_zs H3.out).mono ?_; rintro e w5 ⟨rfl, h5⟩; have H4 := Lib.hid h5; clear h5; rw [v2.out])
        | (go_at_call 18; refine (best_zs H4.out).mono ?_; rintro e w5 ⟨rfl, h5⟩; have H5 := Lib.hid h5; clear h5; rw [q8.out]))
      go_roundg (14 - n).toNat
      case measure => omega
      case rel => exact ⟨n + 1, n + 4, by omega, by omega, by omega, rfl, by rw [hoZ_lev _ _ (by omega)]; exact H5⟩
    · have bn : decide (n < 14) = false := decide_eq_false hlt
      obtain rfl : n = 14 := by omega
      have q5 := Lib.hid (ho5 (n := 14) (x := x) L1.out L2.out L3.out (by decide) (by decide))
      have q7 := Lib.hid (ho7 L1.out L2.out L3.out)
      have HJ : Hid (ZS w zb mb ⟨-1, false, false, 0, true, 14⟩ [(2, (low, x))] wr) := HI
      go_wp2_with (first
        | (go_at_call 12; refine (offer_zs HJ.out _ _ _ _).mono ?_; rintro e w2 ⟨rfl, h2⟩; rw [q5.out] at h2; have H2 := Lib.hid h2; clear h2)
        | (go_at_call 14; refine (tick_zs H2.out _).mono ?_; rintro e w2 ⟨rfl, h2⟩; rw [q7.out] at h2; have H3 := Lib.hid h2; clear h2)
        | (go_at_call 16; refine (level_zs H3.out).mono ?_; rintro e w5 ⟨rfl, h5⟩; have H4 := Lib.hid h5; clear h5; rw [v3.out]))
      go_ret
      exact ⟨rfl, H4.out.below⟩
end Go.Proofs.Ythdhodopmffdmaa
