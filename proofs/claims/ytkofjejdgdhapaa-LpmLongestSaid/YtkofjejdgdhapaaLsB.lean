/- prefix.In, prefix.Compare. -/
import Derived.Test.YtkofjejdgdhapaaLqA
namespace Go.Proofs.Ytkofjejdgdhapaa
open Go.RowKit

theorem nat_beq (x y : Nat) : ((x : Int) == (y : Int)) = decide (x = y) := by
  by_cases h : x = y
  · subst h; simp
  · rw [decide_eq_false h]; simpa using (show ¬ (x : Int) = y by omega)
theorem keepIn {w W W' : World} {B n : Nat} {u0 u1 : Value} (hb0 : Below n W W') (hn : W.heap.size ≤ n) (h : Hid (Below w.heap.size w W) ∧ w.heap.size ≤ W.heap.size ∧ B < W.heap.size ∧ W.cell? ⟨B, 0, none⟩ = some u0 ∧ W.cell? ⟨B, 1, none⟩ = some u1) :
    Hid (Below w.heap.size w W') ∧ w.heap.size ≤ W'.heap.size ∧ B < W'.heap.size ∧ W'.cell? ⟨B, 0, none⟩ = some u0 ∧ W'.cell? ⟨B, 1, none⟩ = some u1 := by
  have hb := hb0.mono hn
  obtain ⟨h0, h1, h2, h3, h4⟩ := h
  exact ⟨h0.out.trans (hb.mono h1), Nat.le_trans h1 hb.size, Nat.lt_of_lt_of_le h2 hb.size, CK.of_below hb _ _ h3, CK.of_below hb _ _ h4⟩
theorem below_drew (w : World) : Below w.heap.size w w.drew := (Below.refl _ _).drew
set_option maxHeartbeats 1000000 in
theorem in_calls (net : Nat) (b : Int) (a : Nat) (w : World) (hn : net < 2 ^ 32) (ha : a < 2 ^ 32) : Calls Try.prog 16 #[.agg #[.int .u32 net, .int .i64 b], .int .u32 a] w fun e w' => e = .returned (.bool (inB net b a)) ∧ Below w.heap.size w w' := by
  have HN := Lib.hid hn
  have HW := Lib.hid (show Below w.heap.size w (w.alloc (.cells #[.int .u32 net, .int .i64 b] 30 (0, 0))) from (Below.refl _ _).alloc (Nat.le_refl _) _)
  have hblk : (w.alloc (.cells #[.int .u32 net, .int .i64 b] 30 (0, 0))).heap[w.heap.size]? = some (.cells #[.int .u32 net, .int .i64 b] 30 (0, 0)) := blk_new _ _
  have z0 := cells_all (l := [_, _]) hblk
  have zs := size_of hblk
  simp only [CellsAt, Nat.reduceAdd, and_true] at z0
  obtain ⟨z0, z1⟩ := z0
  clear hblk
  cases hr : rightB net b with
  | false =>
    have HR := Lib.hid hr
    clear hr hn ha
    go_enter Try.func16, Try.ntmps16
    go_wp2_with (fail)
    generalize (w.alloc (.cells #[.int .u32 net, .int .i64 b] 30 (0, 0))) = V at HW z0 z1 zs ⊢
    refine wp_region_any (by kernel_rfl) ?_
    change wpAny _ _ _ _ _ _ _ (World.drew _)
    have HL0 := Lib.hid (fun (w2 : World) (hb : Below V.drew.heap.size V.drew w2) => HW.out.trans (((below_drew _).trans hb).mono (Nat.le_of_lt zs)))
    refine wpAny_ready (rs := [0]) (by kernel_rfl) (by simp) ?_
    refine AllReady.cons rfl (fun K hK => ?_) AllReady.nil
    go_simp
    refine hK _ _ ?_
    clear hK K
    refine wpAny_ready (rs := [1]) (by kernel_rfl) (by simp) ?_
    refine AllReady.cons rfl (fun K hK => ?_) AllReady.nil
    go_simp
    refine (right_calls net b _ HN.out).mono ?_
    rintro e w2 ⟨rfl, hb⟩
    rw [HR.out]
    have HL := Lib.hid (HL0.out _ hb)
    clear hb
    go_simp
    refine hK _ _ ?_
    clear hK K
    refine wpAny_ready (rs := [2]) (by kernel_rfl) (by simp) ?_
    refine AllReady.cons rfl (fun K hK => ?_) AllReady.nil
    go_simp
    refine hK _ _ ?_
    clear hK K
    refine wpAny_take (i := 3) (v := undef) rfl (by kernel_rfl) (by kernel_rfl) (by kernel_rfl) (fun _ _ _ h => h) (Or.inr ⟨rfl, rfl⟩) ?_
    refine wpAny_take (i := 4) (v := undef) rfl (by kernel_rfl) (by kernel_rfl) (by kernel_rfl) (fun _ _ _ h => h) (Or.inr ⟨rfl, rfl⟩) ?_
    refine wpAny_take (i := 5) (v := undef) rfl (by kernel_rfl) (by kernel_rfl) (by kernel_rfl) (fun _ _ _ h => h) (Or.inr ⟨rfl, rfl⟩) ?_
    refine wpAny_take (i := 6) (v := undef) rfl (by kernel_rfl) (by kernel_rfl) (by kernel_rfl) (fun _ _ _ h => h) (Or.inr ⟨rfl, rfl⟩) ?_
    refine wpAny_take (i := 7) (v := undef) rfl (by kernel_rfl) (by kernel_rfl) (by kernel_rfl) (fun _ _ _ h => h) (Or.inr ⟨rfl, rfl⟩) ?_
    refine wpAny_take (i := 8) (v := undef) rfl (by kernel_rfl) (by kernel_rfl) (by kernel_rfl) (fun _ _ _ h => h) (Or.inr ⟨rfl, rfl⟩) ?_
    refine wpAny_take (i := 9) (v := undef) rfl (by kernel_rfl) (by kernel_rfl) (by kernel_rfl) (fun _ _ _ h => h) (Or.inr ⟨rfl, rfl⟩) ?_
    refine wpAny_take (i := 10) (v := undef) rfl (by kernel_rfl) (by kernel_rfl) (by kernel_rfl) (fun _ _ _ h => h) (Or.inr ⟨rfl, rfl⟩) ?_
    refine wpAny_ready (rs := [11]) (by kernel_rfl) (by simp) ?_
    refine AllReady.cons rfl (fun K hK => ?_) AllReady.nil
    go_simp
    refine hK _ _ ?_
    clear hK K
    refine wpAny_ready (rs := [12]) (by kernel_rfl) (by simp) ?_
    refine AllReady.cons rfl (fun K hK => ?_) AllReady.nil
    go_simp
    refine hK _ _ ?_
    clear hK K
    refine wpAny_done (by kernel_rfl) ?_ _
    go_wp2_with (fail)
    go_ret
    exact ⟨ret_b (inB_not HR.out).symm, HL.out⟩
  | true =>
    obtain ⟨k, rfl, hk, hm⟩ := rightB_of hr
    have HR := Lib.hid hr
    have HK := Lib.hid hk
    have hE := bits_lead hk ha
    have hin : inB net k a = decide (cutN a k = net) := by rw [inB, hr, Bool.true_and, cutN, Int.toNat_natCast]
    have HE := Lib.hid hE
    have HI := Lib.hid hin
    have h0 : (a : Int) < 4294967296 := by omega
    clear hr hm hn ha hE hin
    go_enter Try.func16, Try.ntmps16
    go_wp2_with (fail)
    generalize (w.alloc (.cells #[.int .u32 net, .int .i64 k] 30 (0, 0))) = V at HW z0 z1 zs ⊢
    go_region_held3 (fun w' => Hid (Below w.heap.size w w') ∧ w.heap.size ≤ w'.heap.size ∧ w.heap.size < w'.heap.size ∧ w'.cell? ⟨w.heap.size, 0, none⟩ = some (.int .u32 net) ∧ w'.cell? ⟨w.heap.size, 1, none⟩ = some (.int .i64 k))
      (first | exact keepIn (below_drew V) (Nat.le_refl _) ⟨HW, Nat.le_of_lt zs, zs, z0, z1⟩ | (refine keepIn hb (Nat.le_refl _) ?_; assumption) | assumption)
      (first | (go_at_call 24; refine (right_calls net k _ HN.out).mono ?_; rintro e w2 ⟨rfl, hb⟩; rw [HR.out]) | (go_at_call 33; refine (mask_calls k _ HK.out).mono ?_; rintro e w2 ⟨rfl, rfl⟩))
    rename_i hHeld
    have HL := Lib.hid hHeld.1.out
    clear hHeld
    go_wp2_with (fail)
    go_ret
    refine ⟨ret_b ?_, HL.out⟩
    rw [HE.out, HI.out]
    exact nat_beq _ _
theorem nan_u (a : Nat) (w : World) : Calls Try.prog 42 #[.int .u32 a] w fun e w' => e = .returned (.bool false) ∧ w = w' := by
  go_enter Try.func42, Try.ntmps42
  go_wp2_with (fail)
  go_ret
  exact ⟨by simp, rfl⟩
theorem nan_i (a : Int) (w : World) : Calls Try.prog 43 #[.int .i64 a] w fun e w' => e = .returned (.bool false) ∧ w = w' := by
  go_enter Try.func43, Try.ntmps43
  go_wp2_with (fail)
  go_ret
  exact ⟨by simp, rfl⟩
def cmpZ (a b : Int) : Int := if a < b then -1 else if b < a then 1 else 0
theorem cmp_u (a b : Nat) (w : World) : Calls Try.prog 36 #[.int .u32 a, .int .u32 b] w fun e w' => e = .returned (.int .i64 (cmpZ a b)) ∧ w = w' := by
  by_cases h1 : (a : Int) < b
  · have HV := Lib.hid (show cmpZ a b = -1 by rw [cmpZ, if_pos h1])
    go_enter Try.func36, Try.ntmps36
    go_wp2_with ((go_at_call 42; refine (nan_u _ _).mono ?_; rintro e w2 ⟨rfl, rfl⟩))
    go_ret
    exact ⟨ret_i HV.out.symm, rfl⟩
  by_cases h2 : (b : Int) < a
  · have HV := Lib.hid (show cmpZ a b = 1 by rw [cmpZ, if_neg h1, if_pos h2])
    go_enter Try.func36, Try.ntmps36
    go_wp2_with ((go_at_call 42; refine (nan_u _ _).mono ?_; rintro e w2 ⟨rfl, rfl⟩))
    go_ret
    exact ⟨ret_i HV.out.symm, rfl⟩
  · have HV := Lib.hid (show cmpZ a b = 0 by rw [cmpZ, if_neg h1, if_neg h2])
    go_enter Try.func36, Try.ntmps36
    go_wp2_with ((go_at_call 42; refine (nan_u _ _).mono ?_; rintro e w2 ⟨rfl, rfl⟩))
    go_ret
    exact ⟨ret_i HV.out.symm, rfl⟩
theorem cmp_i (a b : Int) (w : World) : Calls Try.prog 37 #[.int .i64 a, .int .i64 b] w fun e w' => e = .returned (.int .i64 (cmpZ a b)) ∧ w = w' := by
  by_cases h1 : a < b
  · have HV := Lib.hid (show cmpZ a b = -1 by rw [cmpZ, if_pos h1])
    go_enter Try.func37, Try.ntmps37
    go_wp2_with ((go_at_call 43; refine (nan_i _ _).mono ?_; rintro e w2 ⟨rfl, rfl⟩))
    go_ret
    exact ⟨ret_i HV.out.symm, rfl⟩
  by_cases h2 : b < a
  · have HV := Lib.hid (show cmpZ a b = 1 by rw [cmpZ, if_neg h1, if_pos h2])
    go_enter Try.func37, Try.ntmps37
    go_wp2_with ((go_at_call 43; refine (nan_i _ _).mono ?_; rintro e w2 ⟨rfl, rfl⟩))
    go_ret
    exact ⟨ret_i HV.out.symm, rfl⟩
  · have HV := Lib.hid (show cmpZ a b = 0 by rw [cmpZ, if_neg h1, if_neg h2])
    go_enter Try.func37, Try.ntmps37
    go_wp2_with ((go_at_call 43; refine (nan_i _ _).mono ?_; rintro e w2 ⟨rfl, rfl⟩))
    go_ret
    exact ⟨ret_i HV.out.symm, rfl⟩
end Go.Proofs.Ytkofjejdgdhapaa
