/- prefix: mask, Right, Cut, In; lpm: bit. -/
import Derived.Test.YtkofjejdgdhapaaProg
import Derived.Test.YtkofjejdgdhapaaKept
import Derived.Test.YtkofjejdgdhapaaBits
import Derived.Deep.QuietTactic
import Derived.BigQuiet
import Derived.Laws.Rows
namespace Go.Proofs.Ytkofjejdgdhapaa
open Go.RowKit

theorem le32 {n : Nat} (h : n ≤ 32) : n = 0 ∨ n = 1 ∨ n = 2 ∨ n = 3 ∨ n = 4 ∨ n = 5 ∨ n = 6 ∨ n = 7 ∨ n = 8 ∨ n = 9 ∨ n = 10 ∨ n = 11 ∨ n = 12 ∨ n = 13 ∨ n = 14 ∨ n = 15 ∨ n = 16 ∨ n = 17 ∨ n = 18 ∨ n = 19 ∨ n = 20 ∨ n = 21 ∨ n = 22 ∨ n = 23 ∨ n = 24 ∨ n = 25 ∨ n = 26 ∨ n = 27 ∨ n = 28 ∨ n = 29 ∨ n = 30 ∨ n = 31 ∨ n = 32 := by omega
theorem lt32 {n : Nat} (h : n < 32) : n = 0 ∨ n = 1 ∨ n = 2 ∨ n = 3 ∨ n = 4 ∨ n = 5 ∨ n = 6 ∨ n = 7 ∨ n = 8 ∨ n = 9 ∨ n = 10 ∨ n = 11 ∨ n = 12 ∨ n = 13 ∨ n = 14 ∨ n = 15 ∨ n = 16 ∨ n = 17 ∨ n = 18 ∨ n = 19 ∨ n = 20 ∨ n = 21 ∨ n = 22 ∨ n = 23 ∨ n = 24 ∨ n = 25 ∨ n = 26 ∨ n = 27 ∨ n = 28 ∨ n = 29 ∨ n = 30 ∨ n = 31 := by omega
theorem mask_calls (n : Nat) (w : World) (h : n ≤ 32) : Calls Try.prog 33 #[.int .i64 n] w fun e w' => e = .returned (.int .u32 (leadI n)) ∧ w = w' := by
  rcases le32 h with rfl | rfl | rfl | rfl | rfl | rfl | rfl | rfl | rfl | rfl | rfl | rfl | rfl | rfl | rfl | rfl | rfl | rfl | rfl | rfl | rfl | rfl | rfl | rfl | rfl | rfl | rfl | rfl | rfl | rfl | rfl | rfl | rfl
  all_goals
    go_enter Try.func33, Try.ntmps33
    go_wp2
    go_ret
    exact ⟨rfl, rfl⟩
theorem ret_u {a b : Int} (h : a = b) : Ending.returned (.int .u32 a) = .returned (.int .u32 b) := by rw [h]
theorem bit_fin {a : Nat} (D : Nat) (ha : a < 2 ^ 32) : bits .and .u32 ((a : Int) / (D : Int)) 1 = ((a / D % 2 : Nat) : Int) := by
  have h1 : a / D < 2 ^ 32 := Nat.lt_of_le_of_lt (Nat.div_le_self _ _) ha
  have := bits_one h1
  rw [← this, Int.natCast_ediv]
theorem bit_fin0 {a : Nat} (ha : a < 2 ^ 32) : bits .and .u32 (a : Int) 1 = ((a / 1 % 2 : Nat) : Int) := by
  rw [bits_one ha, Nat.div_one]
theorem bit_calls (a n : Nat) (w : World) (ha : a < 2 ^ 32) (h : n < 32) : Calls Try.prog 29 #[.int .u32 a, .int .i64 n] w fun e w' => e = .returned (.int .u32 ((a / 2 ^ (31 - n) % 2 : Nat) : Int)) ∧ w = w' := by
  have H := Lib.hid ha
  have h0 : (a : Int) < 4294967296 := by omega
  clear ha
  rcases lt32 h with rfl | rfl | rfl | rfl | rfl | rfl | rfl | rfl | rfl | rfl | rfl | rfl | rfl | rfl | rfl | rfl | rfl | rfl | rfl | rfl | rfl | rfl | rfl | rfl | rfl | rfl | rfl | rfl | rfl | rfl | rfl | rfl
  · go_enter Try.func29, Try.ntmps29
    go_wp2
    go_ret
    exact ⟨ret_u (bit_fin 2147483648 H.out), rfl⟩
  · go_enter Try.func29, Try.ntmps29
    go_wp2
    go_ret
    exact ⟨ret_u (bit_fin 1073741824 H.out), rfl⟩
  · go_enter Try.func29, Try.ntmps29
    go_wp2
    go_ret
    exact ⟨ret_u (bit_fin 536870912 H.out), rfl⟩
  · go_enter Try.func29, Try.ntmps29
    go_wp2
    go_ret
    exact ⟨ret_u (bit_fin 268435456 H.out), rfl⟩
  · go_enter Try.func29, Try.ntmps29
    go_wp2
    go_ret
    exact ⟨ret_u (bit_fin 134217728 H.out), rfl⟩
  · go_enter Try.func29, Try.ntmps29
    go_wp2
    go_ret
    exact ⟨ret_u (bit_fin 67108864 H.out), rfl⟩
  · go_enter Try.func29, Try.ntmps29
    go_wp2
    go_ret
    exact ⟨ret_u (bit_fin 33554432 H.out), rfl⟩
  · go_enter Try.func29, Try.ntmps29
    go_wp2
    go_ret
    exact ⟨ret_u (bit_fin 16777216 H.out), rfl⟩
  · go_enter Try.func29, Try.ntmps29
    go_wp2
    go_ret
    exact ⟨ret_u (bit_fin 8388608 H.out), rfl⟩
  · go_enter Try.func29, Try.ntmps29
    go_wp2
    go_ret
    exact ⟨ret_u (bit_fin 4194304 H.out), rfl⟩
  · go_enter Try.func29, Try.ntmps29
    go_wp2
    go_ret
    exact ⟨ret_u (bit_fin 2097152 H.out), rfl⟩
  · go_enter Try.func29, Try.ntmps29
    go_wp2
    go_ret
    exact ⟨ret_u (bit_fin 1048576 H.out), rfl⟩
  · go_enter Try.func29, Try.ntmps29
    go_wp2
    go_ret
    exact ⟨ret_u (bit_fin 524288 H.out), rfl⟩
  · go_enter Try.func29, Try.ntmps29
    go_wp2
    go_ret
    exact ⟨ret_u (bit_fin 262144 H.out), rfl⟩
  · go_enter Try.func29, Try.ntmps29
    go_wp2
    go_ret
    exact ⟨ret_u (bit_fin 131072 H.out), rfl⟩
  · go_enter Try.func29, Try.ntmps29
    go_wp2
    go_ret
    exact ⟨ret_u (bit_fin 65536 H.out), rfl⟩
  · go_enter Try.func29, Try.ntmps29
    go_wp2
    go_ret
    exact ⟨ret_u (bit_fin 32768 H.out), rfl⟩
  · go_enter Try.func29, Try.ntmps29
    go_wp2
    go_ret
    exact ⟨ret_u (bit_fin 16384 H.out), rfl⟩
  · go_enter Try.func29, Try.ntmps29
    go_wp2
    go_ret
    exact ⟨ret_u (bit_fin 8192 H.out), rfl⟩
  · go_enter Try.func29, Try.ntmps29
    go_wp2
    go_ret
    exact ⟨ret_u (bit_fin 4096 H.out), rfl⟩
  · go_enter Try.func29, Try.ntmps29
    go_wp2
    go_ret
    exact ⟨ret_u (bit_fin 2048 H.out), rfl⟩
  · go_enter Try.func29, Try.ntmps29
    go_wp2
    go_ret
    exact ⟨ret_u (bit_fin 1024 H.out), rfl⟩
  · go_enter Try.func29, Try.ntmps29
    go_wp2
    go_ret
    exact ⟨ret_u (bit_fin 512 H.out), rfl⟩
  · go_enter Try.func29, Try.ntmps29
    go_wp2
    go_ret
    exact ⟨ret_u (bit_fin 256 H.out), rfl⟩
  · go_enter Try.func29, Try.ntmps29
    go_wp2
    go_ret
    exact ⟨ret_u (bit_fin 128 H.out), rfl⟩
  · go_enter Try.func29, Try.ntmps29
    go_wp2
    go_ret
    exact ⟨ret_u (bit_fin 64 H.out), rfl⟩
  · go_enter Try.func29, Try.ntmps29
    go_wp2
    go_ret
    exact ⟨ret_u (bit_fin 32 H.out), rfl⟩
  · go_enter Try.func29, Try.ntmps29
    go_wp2
    go_ret
    exact ⟨ret_u (bit_fin 16 H.out), rfl⟩
  · go_enter Try.func29, Try.ntmps29
    go_wp2
    go_ret
    exact ⟨ret_u (bit_fin 8 H.out), rfl⟩
  · go_enter Try.func29, Try.ntmps29
    go_wp2
    go_ret
    exact ⟨ret_u (bit_fin 4 H.out), rfl⟩
  · go_enter Try.func29, Try.ntmps29
    go_wp2
    go_ret
    exact ⟨ret_u (bit_fin 2 H.out), rfl⟩
  · go_enter Try.func29, Try.ntmps29
    go_wp2
    go_ret
    exact ⟨ret_u (bit_fin0 H.out), rfl⟩

theorem natz (r : Nat) : ((r : Int) == 0) = decide (r = 0) := by
  by_cases hz : r = 0
  · subst hz; rfl
  · simp [hz]
theorem results_cell_tmp {P : Program} {fn : Func} {t u : Tmp} {ty : TypeId} (h : fn.results = #[.cell t ty, .tmp u]) (tmps : Array Value) (w : World) {ad : Addr} {v : Value} (ha : tmps.getD t undef = .pointer (some ad)) (hl : (loadVar ty ad).run P w = .ok v w) :
    (results fn tmps).run P w = .ok (.tuple #[v, tmps.getD u undef]) w := by
  have ha' : tmps[t]?.getD undef = .pointer (some ad) := by simpa using ha
  simp [results, h, ha', asAddr, hl, Result.andThen]
/-! ### Right -/
def rightB (net : Nat) (b : Int) : Bool := decide (0 ≤ b) && (decide (b ≤ 32) && decide (net % 2 ^ (32 - b.toNat) = 0))
theorem mask_quiet (n : Nat) (w : World) (h : n ≤ 32) (m : Nat) : Calls Try.prog 33 #[.int .i64 n] (w.drewN m) fun e w' => e = .returned (.int .u32 (leadI n)) ∧ ∃ m, w' = w.drewN m :=
  Calls.quiet_of_same ((mask_calls n (w.drewN m) h).mono fun _ _ h => ⟨h.1, h.2.symm⟩)
theorem below_drewN {B : Nat} {w w' : World} (h : Below B w w') (n : Nat) : Below B w (w'.drewN n) := ⟨h.os, h.tape, h.output, h.size, h.block⟩
theorem right_calls (net : Nat) (b : Int) (w : World) (hn : net < 2 ^ 32) : Calls Try.prog 24 #[.agg #[.int .u32 net, .int .i64 b]] w fun e w' => e = .returned (.bool (rightB net b)) ∧ Below w.heap.size w w' := by
  by_cases h0 : 0 ≤ b
  case neg =>
    have b0 : decide (0 ≤ b) = false := decide_eq_false h0
    have HB := Lib.hid b0
    clear h0
    go_enter Try.func24, Try.ntmps24
    go_wp2
    go_quiet (fail)
    go_wp2
    go_ret
    exact ⟨ret_b (by rw [rightB, HB.out]; rfl), below_drewN ((Below.refl _ _).alloc (Nat.le_refl _) _) _⟩
  by_cases h1 : b ≤ 32
  case neg =>
    have b0 : decide (0 ≤ b) = true := decide_eq_true h0
    have b1 : decide (b ≤ 32) = false := decide_eq_false h1
    have HB := Lib.hid b1
    clear h1
    go_enter Try.func24, Try.ntmps24
    go_wp2
    go_quiet (fail)
    go_wp2
    go_ret
    exact ⟨ret_b (by rw [rightB, HB.out]; simp), below_drewN ((Below.refl _ _).alloc (Nat.le_refl _) _) _⟩
  obtain ⟨n, rfl⟩ := Int.eq_ofNat_of_zero_le h0
  have hn32 : n ≤ 32 := by omega
  have b0 : decide (0 ≤ (n : Int)) = true := decide_eq_true h0
  have b1 : decide ((n : Int) ≤ 32) = true := decide_eq_true h1
  have HE := Lib.hid (bits_tail hn32 hn)
  have HC := Lib.hid (mask_quiet n (w.alloc (.cells #[.int .u32 net, .int .i64 n] 30)) hn32)
  clear hn
  go_enter Try.func24, Try.ntmps24
  go_wp2
  go_quiet ((go_at_call 33; exact HC.out _))
  go_wp2
  go_ret
  refine ⟨ret_b ?_, below_drewN ((Below.refl _ _).alloc (Nat.le_refl _) _) _⟩
  rw [HE.out, rightB, b0, b1]
  simp only [Bool.true_and, Int.toNat_natCast]
  exact natz _

/-! ### In, Cut -/
def inB (net : Nat) (b : Int) (a : Nat) : Bool := rightB net b && decide (a / 2 ^ (32 - b.toNat) * 2 ^ (32 - b.toNat) = net)
def cutN (a n : Nat) : Nat := a / 2 ^ (32 - n) * 2 ^ (32 - n)
theorem cut_calls (a n : Nat) (w : World) (ha : a < 2 ^ 32) (h : n ≤ 32) : Calls Try.prog 28 #[.int .u32 a, .int .i64 n] w fun e w' => e = .returned (.tuple #[.agg #[.int .u32 (cutN a n), .int .i64 n], .int .i64 0]) ∧ Below w.heap.size w w' := by
  have b0 : decide ((n : Int) < 0) = false := decide_eq_false (by omega)
  have b1 : decide (32 < (n : Int)) = false := decide_eq_false (by omega)
  have HE := Lib.hid (bits_lead h ha)
  have h0 : (a : Int) < 4294967296 := by omega
  clear ha
  go_enter Try.func28, Try.ntmps28
  go_wp2_with ((go_at_call 33; refine (mask_calls n _ h).mono ?_; rintro e w' ⟨rfl, rfl⟩))
  refine bodyPost_ret (results_cell_tmp rfl _ _ rfl (run_loadVar_row _ _ 30 30 _ (0, 0) _ (blk_new _ _) Try.underlying30 rfl (by kernel_rfl))) rfl ?_
  exact ⟨by rw [HE.out]; rfl, (Below.refl _ _).alloc (Nat.le_refl _) _⟩
end Go.Proofs.Ytkofjejdgdhapaa
