/- The reference's size, Right, In, Compare. -/
import Derived.Test.YtkofjejdgdhapaaLpG
import Derived.StillTailTactics
import Derived.Deep.RegionHeld3
namespace Go.Proofs.Ytkofjejdgdhapaa
open Go.RowKit

/-- 2 ^ m, behind a name. -/
def pwN (m : Nat) : Nat := 2 ^ m
theorem pwN_pos (m : Nat) : 1 ≤ pwN m := Nat.two_pow_pos m
theorem pwN_le {m : Nat} (h : m ≤ 32) : pwN m ≤ 4294967296 := Nat.le_trans (Nat.pow_le_pow_right (by decide : 0 < 2) h) (by decide)
theorem pwN_step {k n : Nat} (h : n ≤ k) : pwN (k + 1 - n) = pwN (k - n) * 2 := by
  unfold pwN
  rw [show k + 1 - n = (k - n) + 1 by omega, Nat.pow_succ]
set_option maxHeartbeats 400000 in
theorem size_calls (n : Nat) (w : World) (h : n ≤ 32) : Calls Try.prog 39 #[.int .i64 n] w fun e w' => e = .returned (.int .i64 (pwN (32 - n) : Nat)) ∧ w = w' := by
  go_enter Try.func39, Try.ntmps39
  go_wp2_with (fail)
  go_loop [3, 4] (fun x i => ∃ k : Nat, n ≤ k ∧ k ≤ 32 ∧ i = .int .i64 k ∧ x = .int .i64 (pwN (k - n) : Nat)) (fun _ i => 32 - (intOf i).toNat)
  case atStart => exact ⟨n, Nat.le_refl _, h, rfl, by rw [Nat.sub_self]; rfl⟩
  case round =>
    obtain ⟨k, h1, h2, rfl, rfl⟩ := hrel
    have hp := pwN_pos (k - n)
    have hq := pwN_le (m := k - n) (by omega)
    by_cases hlt : k < 32
    · have HS := Lib.hid (pwN_step h1)
      go_wp2_with (fail)
      go_round
      case rel => exact ⟨k + 1, by omega, by omega, by go_num, by rw [HS.out]; go_num⟩
      case measure => simp [intOf]; omega
    · obtain rfl : k = 32 := by omega
      go_wp2_with (fail)
      go_ret
      exact ⟨rfl, rfl⟩
theorem size_quiet (n : Nat) (w : World) (h : n ≤ 32) (m : Nat) : Calls Try.prog 39 #[.int .i64 n] (w.drewN m) fun e w' => e = .returned (.int .i64 (pwN (32 - n) : Nat)) ∧ ∃ m, w' = w.drewN m :=
  Calls.quiet_of_same ((size_calls n (w.drewN m) h).mono fun _ _ h => ⟨h.1, h.2.symm⟩)

theorem zmod (net d : Nat) : ((net : Int) % (d : Int) == 0) = decide (net % d = 0) := by
  rw [← Int.natCast_emod]; exact natz _
set_option maxHeartbeats 400000 in
theorem rright_calls (net : Nat) (b : Int) (w : World) (hn : net < 2 ^ 32) : Calls Try.prog 38 #[.agg #[.int .u32 net, .int .i64 b]] w fun e w' => e = .returned (.bool (rightB net b)) ∧ Below w.heap.size w w' := by
  by_cases h0 : 0 ≤ b
  case neg =>
    have b0 : decide (0 ≤ b) = false := decide_eq_false h0
    have HB := Lib.hid b0
    clear h0
    go_enter Try.func38, Try.ntmps38
    go_wp2_with (fail)
    go_quiet (fail)
    go_wp2_with (fail)
    go_ret
    exact ⟨ret_b (by rw [rightB, HB.out]; rfl), below_drewN ((Below.refl _ _).alloc (Nat.le_refl _) _) _⟩
  by_cases h1 : b ≤ 32
  case neg =>
    have b0 : decide (0 ≤ b) = true := decide_eq_true h0
    have b1 : decide (b ≤ 32) = false := decide_eq_false h1
    have HB := Lib.hid b1
    clear h1
    go_enter Try.func38, Try.ntmps38
    go_wp2_with (fail)
    go_quiet (fail)
    go_wp2_with (fail)
    go_ret
    exact ⟨ret_b (by rw [rightB, HB.out]; simp), below_drewN ((Below.refl _ _).alloc (Nat.le_refl _) _) _⟩
  obtain ⟨n, rfl⟩ := Int.eq_ofNat_of_zero_le h0
  have hn32 : n ≤ 32 := by omega
  have b0 : decide (0 ≤ (n : Int)) = true := decide_eq_true h0
  have b1 : decide ((n : Int) ≤ 32) = true := decide_eq_true h1
  have hp := pwN_pos (32 - n)
  have hq := pwN_le (m := 32 - n) (by omega)
  have HC := Lib.hid (size_quiet n (w.alloc (.cells #[.int .u32 net, .int .i64 n] 30)) hn32)
  have hnet : (net : Int) < 4294967296 := by omega
  clear hn
  go_enter Try.func38, Try.ntmps38
  go_wp2_with (fail)
  go_quiet ((go_at_call 39; exact HC.out _))
  go_wp2_with (fail)
  go_ret
  refine ⟨ret_b ?_, below_drewN ((Below.refl _ _).alloc (Nat.le_refl _) _) _⟩
  rw [rightB, b0, b1]
  simp only [Bool.true_and, Int.toNat_natCast]
  exact zmod _ _

theorem in_iff {net a d : Nat} (hd : 0 < d) (h : net % d = 0) : a / d * d = net ↔ net ≤ a ∧ a < net + d := by
  have h1 := Nat.div_add_mod a d
  have h2 := Nat.mod_lt a hd
  have h3 := Nat.div_add_mod net d
  rw [h, Nat.add_zero] at h3
  rw [Nat.mul_comm] at h1 h3
  constructor
  · intro e; omega
  · rintro ⟨h4, h5⟩
    have : a / d = net / d := by
      have h6 : net / d ≤ a / d := Nat.div_le_div_right h4
      have h7 : a / d < net / d + 1 := by
        rw [Nat.div_lt_iff_lt_mul hd, Nat.succ_mul, h3]; omega
      omega
    rw [this, h3]
theorem rightB_of {net : Nat} {b : Int} (h : rightB net b = true) : ∃ k : Nat, b = k ∧ k ≤ 32 ∧ net % pwN (32 - k) = 0 := by
  obtain ⟨h0, h1⟩ := rightB_lt h
  obtain ⟨k, rfl⟩ := Int.eq_ofNat_of_zero_le h0
  simp only [rightB, Bool.and_eq_true, decide_eq_true_eq, Int.toNat_natCast] at h
  exact ⟨k, rfl, by omega, h.2.2⟩
theorem inB_not {net : Nat} {b : Int} {a : Nat} (h : rightB net b = false) : inB net b a = false := by rw [inB, h]; rfl
theorem inB_eq {net k a : Nat} (h : rightB net k = true) : inB net k a = (decide (net ≤ a) && decide (a < net + pwN (32 - k))) := by
  obtain ⟨k', hk, _, hm⟩ := rightB_of h
  obtain rfl : k = k' := by omega
  rw [inB, h, Bool.true_and, Bool.eq_iff_iff, decide_eq_true_eq, Bool.and_eq_true, decide_eq_true_eq, decide_eq_true_eq]
  exact in_iff (pwN_pos _) hm
set_option maxHeartbeats 1000000 in
theorem rin_calls (net : Nat) (b : Int) (a : Nat) (w : World) (hn : net < 2 ^ 32) (ha : a < 2 ^ 32) : Calls Try.prog 30 #[.agg #[.int .u32 net, .int .i64 b], .int .u32 a] w fun e w' => e = .returned (.bool (inB net b a)) ∧ Below w.heap.size w w' := by
  have HN := Lib.hid hn
  have ha2 : (a : Int) < 4294967296 := by omega
  have hn2 : (net : Int) < 4294967296 := by omega
  have HW := Lib.hid (show Below w.heap.size w (w.alloc (.cells #[.int .u32 net, .int .i64 b] 30 (0, 0))) ∧ (w.alloc (.cells #[.int .u32 net, .int .i64 b] 30 (0, 0))).heap[w.heap.size]? = some (.cells #[.int .u32 net, .int .i64 b] 30 (0, 0)) from ⟨(Below.refl _ _).alloc (Nat.le_refl _) _, blk_new _ _⟩)
  clear hn ha
  cases hr : rightB net b with
  | false =>
    have HR := Lib.hid hr
    clear hr
    go_enter Try.func30, Try.ntmps30
    go_wp2_with ((go_at_call 38; refine (rright_calls net b _ HN.out).mono ?_; rintro e w2 ⟨rfl, hb⟩; rw [HR.out]; have HB := Lib.hid (HW.out.1.trans (hb.mono HW.out.1.size)); clear hb))
    go_quiet (fail)
    go_wp2_with (fail)
    go_ret
    exact ⟨ret_b (inB_not HR.out).symm, below_drewN HB.out _⟩
  | true =>
    obtain ⟨k, rfl, hk, hm⟩ := rightB_of hr
    have HR := Lib.hid hr
    have hp := pwN_pos (32 - k)
    have hq := pwN_le (m := 32 - k) (by omega)
    have HS := Lib.hid (fun w m => size_quiet k w hk m)
    clear hr hm
    by_cases h1 : (net : Int) ≤ a
    case neg =>
      have b1 : decide (net ≤ a) = false := decide_eq_false (by omega)
      have H1 := Lib.hid h1
      clear h1
      go_enter Try.func30, Try.ntmps30
      go_wp2_with ((go_at_call 38; refine (rright_calls net k _ HN.out).mono ?_; rintro e w2 ⟨rfl, hb⟩; rw [HR.out]; have HB := Lib.hid (HW.out.1.trans (hb.mono HW.out.1.size)); have HX := Lib.hid (blk_below' hb HW.out.2); have k2 := cells_all HX.out; have z2 := size_of HX.out; simp only [CellsAt, Nat.reduceAdd, and_true] at k2; obtain ⟨d0, d1⟩ := k2; clear hb))
      have ea : IntKind.i64.wrap (a : Int) = a := IntWalk.i64_in _ (by omega)
      have en : IntKind.i64.wrap (net : Int) = net := IntWalk.i64_in _ (by omega)
      go_quiet (fail)
      go_wp2_with (fail)
      go_ret
      exact ⟨ret_b (by rw [inB_eq HR.out, decide_eq_false (show ¬ net ≤ a by have := H1.out; omega)]; rfl), below_drewN HB.out _⟩
    have b1 : decide (net ≤ a) = true := decide_eq_true (by omega)
    go_enter Try.func30, Try.ntmps30
    go_wp2_with ((go_at_call 38; refine (rright_calls net k _ HN.out).mono ?_; rintro e w2 ⟨rfl, hb⟩; rw [HR.out]; have HB := Lib.hid (HW.out.1.trans (hb.mono HW.out.1.size)); have HX := Lib.hid (blk_below' hb HW.out.2); have k2 := cells_all HX.out; have z2 := size_of HX.out; simp only [CellsAt, Nat.reduceAdd, and_true] at k2; obtain ⟨d0, d1⟩ := k2; clear hb))
    have ea : IntKind.i64.wrap (a : Int) = a := IntWalk.i64_in _ (by omega)
    have en : IntKind.i64.wrap (net : Int) = net := IntWalk.i64_in _ (by omega)
    have e1 : IntKind.i64.wrap ((net : Int) + (pwN (32 - k) : Nat)) = (net : Int) + (pwN (32 - k) : Nat) := IntWalk.i64_in _ (by omega)
    go_quiet ((go_at_call 39; exact HS.out _ _))
    go_wp2_with (fail)
    go_ret
    refine ⟨ret_b ?_, below_drewN HB.out _⟩
    rw [inB_eq HR.out, decide_eq_true (show net ≤ a by omega), Bool.true_and]
    exact decide_eq_decide.2 (by omega)

/-! ### Compare -/
def cmpK (p q : Nat × Int) : Int := if p.1 < q.1 then -1 else if q.1 < p.1 then 1 else if p.2 < q.2 then -1 else if q.2 < p.2 then 1 else 0
set_option maxHeartbeats 400000 in
theorem rcmp_calls (n1 : Nat) (b1 : Int) (n2 : Nat) (b2 : Int) (w : World) : Calls Try.prog 41 #[.agg #[.int .u32 n1, .int .i64 b1], .agg #[.int .u32 n2, .int .i64 b2]] w fun e w' => e = .returned (.int .i64 (cmpK (n1, b1) (n2, b2))) ∧ Below w.heap.size w w' := by
  have HW := Lib.hid (show Below w.heap.size w ((w.alloc (.cells #[.int .u32 n1, .int .i64 b1] 30)).alloc (.cells #[.int .u32 n2, .int .i64 b2] 30)) from ((Below.refl _ _).alloc (Nat.le_refl _) _).alloc (by rw [World.size_alloc]; omega) _)
  rcases Nat.lt_trichotomy n1 n2 with h | rfl | h
  · have t1 : ((n1 : Int) == n2) = false := by simpa using (show ¬ (n1 : Int) = n2 by omega)
    have t2 : ((n1 : Int) != n2) = true := by simpa using (show ¬ (n1 : Int) = n2 by omega)
    have t3 : (n1 : Int) < n2 := by omega
    have HV := Lib.hid (show cmpK (n1, b1) (n2, b2) = -1 by simp only [cmpK]; rw [if_pos h])
    clear h
    go_enter Try.func41, Try.ntmps41
    go_wp2_with (fail)
    go_ret
    exact ⟨ret_i HV.out.symm, HW.out⟩
  · rcases Int.lt_trichotomy b1 b2 with h | rfl | h
    · have t1 : (b1 == b2) = false := by simpa using (show ¬ b1 = b2 by omega)
      have t2 : (b1 != b2) = true := by simpa using (show ¬ b1 = b2 by omega)
      have HV := Lib.hid (show cmpK (n1, b1) (n1, b2) = -1 by simp only [cmpK]; rw [if_neg (by omega), if_neg (by omega), if_pos h])
      go_enter Try.func41, Try.ntmps41
      go_wp2_with (fail)
      go_ret
      exact ⟨ret_i HV.out.symm, HW.out⟩
    · have HV := Lib.hid (show cmpK (n1, b1) (n1, b1) = 0 by simp only [cmpK]; rw [if_neg (by omega), if_neg (by omega), if_neg (by omega), if_neg (by omega)])
      go_enter Try.func41, Try.ntmps41
      go_wp2_with (fail)
      go_ret
      exact ⟨ret_i HV.out.symm, HW.out⟩
    · have t1 : (b1 == b2) = false := by simpa using (show ¬ b1 = b2 by omega)
      have t2 : (b1 != b2) = true := by simpa using (show ¬ b1 = b2 by omega)
      have t3 : ¬ b1 < b2 := by omega
      have HV := Lib.hid (show cmpK (n1, b1) (n1, b2) = 1 by simp only [cmpK]; rw [if_neg (by omega), if_neg (by omega), if_neg (by omega), if_pos h])
      go_enter Try.func41, Try.ntmps41
      go_wp2_with (fail)
      go_ret
      exact ⟨ret_i HV.out.symm, HW.out⟩
  · have t1 : ((n1 : Int) == n2) = false := by simpa using (show ¬ (n1 : Int) = n2 by omega)
    have t2 : ((n1 : Int) != n2) = true := by simpa using (show ¬ (n1 : Int) = n2 by omega)
    have t3 : ¬ (n1 : Int) < n2 := by omega
    have HV := Lib.hid (show cmpK (n1, b1) (n2, b2) = 1 by simp only [cmpK]; rw [if_neg (by omega), if_pos h])
    clear h
    go_enter Try.func41, Try.ntmps41
    go_wp2_with (fail)
    go_ret
    exact ⟨ret_i HV.out.symm, HW.out⟩
end Go.Proofs.Ytkofjejdgdhapaa
