/- prefix.Compare. -/
import Derived.Test.YtkofjejdgdhapaaLsB
namespace Go.Proofs.Ytkofjejdgdhapaa
open Go.RowKit

def orZ (x y : Int) : Int := if x = 0 then y else x
theorem or_calls (x y : Int) (B : Nat) (w : World) (h0 : w.cell? ⟨B, 0, none⟩ = some (.int .i64 x)) (h1 : w.cell? ⟨B, 1, none⟩ = some (.int .i64 y)) :
    Calls Try.prog 35 #[.slice (some ⟨B, 0, none⟩) 2 2] w fun e w' => e = .returned (.int .i64 (orZ x y)) ∧ w = w' := by
  by_cases hx : x = 0
  · subst hx
    have HV := Lib.hid (show orZ 0 y = y by rw [orZ, if_pos rfl])
    go_enter Try.func35, Try.ntmps35
    go_wp2_with (fail)
    go_loopg [5, 8] 3 (fun g c i wr => wr = w ∧ ((g = 3 ∧ i = .int .i64 0) ∨ (g = 2 ∧ i = .int .i64 1) ∨ (g = 1 ∧ i = .int .i64 2 ∧ y = 0)))
    case atStart => exact ⟨rfl, .inl ⟨rfl, rfl⟩⟩
    case round =>
      obtain ⟨rfl, h⟩ := hrel
      rcases h with ⟨rfl, rfl⟩ | ⟨rfl, rfl⟩ | ⟨rfl, rfl, rfl⟩
      · go_wp2_with (fail)
        go_roundg 2
        case measure => omega
        case rel => first | exact ⟨rfl, .inr (.inl ⟨rfl, rfl⟩)⟩ | simp
      · by_cases hy : y = 0
        · subst hy
          go_wp2_with (fail)
          go_roundg 1
          case measure => omega
          case rel => first | exact ⟨rfl, .inr (.inr ⟨rfl, rfl, rfl⟩)⟩ | simp
        · have t1 : (y == 0) = false := by simpa using hy
          have t2 : (y != 0) = true := by simpa using hy
          go_wp2_with (fail)
          go_ret
          exact ⟨ret_i HV.out.symm, rfl⟩
      · go_wp2_with (fail)
        go_ret
        exact ⟨ret_i HV.out.symm, rfl⟩
  · have HV := Lib.hid (show orZ x y = x by rw [orZ, if_neg hx])
    have t1 : (x == 0) = false := by simpa using hx
    have t2 : (x != 0) = true := by simpa using hx
    go_enter Try.func35, Try.ntmps35
    go_wp2_with (fail)
    go_loopg [5, 8] 3 (fun g c i wr => wr = w ∧ i = .int .i64 0)
    case atStart => exact ⟨rfl, rfl⟩
    case round =>
      obtain ⟨rfl, rfl⟩ := hrel
      go_wp2_with (fail)
      go_ret
      exact ⟨ret_i HV.out.symm, rfl⟩
theorem orZ_cmp (n1 : Nat) (b1 : Int) (n2 : Nat) (b2 : Int) : orZ (cmpZ n1 n2) (cmpZ b1 b2) = cmpK (n1, b1) (n2, b2) := by
  rcases Nat.lt_trichotomy n1 n2 with h | rfl | h
  · have e : cmpZ n1 n2 = -1 := by unfold cmpZ; rw [if_pos (by omega)]
    rw [e, orZ, if_neg (by decide), cmpK, if_pos h]
  · have e : cmpZ n1 n1 = 0 := by unfold cmpZ; rw [if_neg (by omega), if_neg (by omega)]
    rw [e, orZ, if_pos rfl, cmpK, if_neg (by simp), if_neg (by simp), cmpZ]
  · have e : cmpZ n1 n2 = 1 := by unfold cmpZ; rw [if_neg (by omega), if_pos (by omega)]
    rw [e, orZ, if_neg (by decide), cmpK, if_neg (by simp; omega), if_pos h]
theorem keepC {w W W' : World} {B n : Nat} {u0 u1 u2 u3 : Value} (hb0 : Below n W W') (hn : W.heap.size ≤ n) (h : Hid (Below w.heap.size w W) ∧ w.heap.size ≤ W.heap.size ∧ B < W.heap.size ∧ B + 1 < W.heap.size ∧ W.cell? ⟨B, 0, none⟩ = some u0 ∧ W.cell? ⟨B, 1, none⟩ = some u1 ∧ W.cell? ⟨B + 1, 0, none⟩ = some u2 ∧ W.cell? ⟨B + 1, 1, none⟩ = some u3) :
    Hid (Below w.heap.size w W') ∧ w.heap.size ≤ W'.heap.size ∧ B < W'.heap.size ∧ B + 1 < W'.heap.size ∧ W'.cell? ⟨B, 0, none⟩ = some u0 ∧ W'.cell? ⟨B, 1, none⟩ = some u1 ∧ W'.cell? ⟨B + 1, 0, none⟩ = some u2 ∧ W'.cell? ⟨B + 1, 1, none⟩ = some u3 := by
  have hb := hb0.mono hn
  obtain ⟨h0, h1, h2, h2', h3, h4, h5, h6⟩ := h
  exact ⟨h0.out.trans (hb.mono h1), Nat.le_trans h1 hb.size, Nat.lt_of_lt_of_le h2 hb.size, Nat.lt_of_lt_of_le h2' hb.size, CK.of_below hb _ _ h3, CK.of_below hb _ _ h4, CK.of_below hb _ _ h5, CK.of_below hb _ _ h6⟩
theorem below_alloc_drew (w : World) (o : Obj) : Below w.heap.size w.drew (w.alloc o).drew := ⟨rfl, rfl, rfl, ((Below.refl w.heap.size w).alloc (Nat.le_refl _) o).size, ((Below.refl w.heap.size w).alloc (Nat.le_refl _) o).block⟩
set_option maxHeartbeats 1000000 in
theorem cmp_calls (n1 : Nat) (b1 : Int) (n2 : Nat) (b2 : Int) (w : World) : Calls Try.prog 23 #[.agg #[.int .u32 n1, .int .i64 b1], .agg #[.int .u32 n2, .int .i64 b2]] w fun e w' => e = .returned (.int .i64 (cmpK (n1, b1) (n2, b2))) ∧ Below w.heap.size w w' := by
  have HV := Lib.hid (orZ_cmp n1 b1 n2 b2)
  have hs1 : (w.alloc (.cells #[.int .u32 n1, .int .i64 b1] 30 (0, 0))).heap.size = w.heap.size + 1 := World.size_alloc _ _
  have hb1 : (w.alloc (.cells #[.int .u32 n1, .int .i64 b1] 30 (0, 0))).heap[w.heap.size]? = some (.cells #[.int .u32 n1, .int .i64 b1] 30 (0, 0)) := blk_new _ _
  have hb2 : ((w.alloc (.cells #[.int .u32 n1, .int .i64 b1] 30 (0, 0))).alloc (.cells #[.int .u32 n2, .int .i64 b2] 30 (0, 0))).heap[w.heap.size + 1]? = some (.cells #[.int .u32 n2, .int .i64 b2] 30 (0, 0)) := by
    have := blk_new (w.alloc (.cells #[.int .u32 n1, .int .i64 b1] 30 (0, 0))) (.cells #[.int .u32 n2, .int .i64 b2] 30 (0, 0))
    rw [hs1] at this; exact this
  have HW := Lib.hid (show Below w.heap.size w ((w.alloc (.cells #[.int .u32 n1, .int .i64 b1] 30 (0, 0))).alloc (.cells #[.int .u32 n2, .int .i64 b2] 30 (0, 0))) from ((Below.refl _ _).alloc (Nat.le_refl _) _).alloc (by rw [World.size_alloc]; omega) _)
  have hb3 := blk_alloc hb1 (.cells #[.int .u32 n2, .int .i64 b2] 30 (0, 0))
  have z0 := cells_all (l := [_, _]) hb3
  have z2 := cells_all (l := [_, _]) hb2
  have zs := size_of hb3
  have zt := size_of hb2
  simp only [CellsAt, Nat.reduceAdd, and_true] at z0 z2
  obtain ⟨z0, z1⟩ := z0
  obtain ⟨z2, z3⟩ := z2
  clear hb1 hb2 hb3
  go_enter Try.func23, Try.ntmps23
  go_wp2_with (fail)
  generalize ((w.alloc (.cells #[.int .u32 n1, .int .i64 b1] 30 (0, 0))).alloc (.cells #[.int .u32 n2, .int .i64 b2] 30 (0, 0))) = V at HW z0 z1 z2 z3 zs zt ⊢
  clear hs1
  have hc0 : (V.alloc (.cells #[.int .i64 (cmpZ n1 n2), .int .i64 (cmpZ b1 b2)] 3 (0, 0))).drew.cell? ⟨V.heap.size, 0, none⟩ = some (.int .i64 (cmpZ n1 n2)) := cell_of (blk_new V (.cells #[.int .i64 (cmpZ n1 n2), .int .i64 (cmpZ b1 b2)] 3 (0, 0))) rfl
  have hc1 : (V.alloc (.cells #[.int .i64 (cmpZ n1 n2), .int .i64 (cmpZ b1 b2)] 3 (0, 0))).drew.cell? ⟨V.heap.size, 1, none⟩ = some (.int .i64 (cmpZ b1 b2)) := cell_of (blk_new V (.cells #[.int .i64 (cmpZ n1 n2), .int .i64 (cmpZ b1 b2)] 3 (0, 0))) rfl
  go_region_held3 (fun w' => Hid (Below w.heap.size w w') ∧ w.heap.size ≤ w'.heap.size ∧ w.heap.size < w'.heap.size ∧ w.heap.size + 1 < w'.heap.size ∧ w'.cell? ⟨w.heap.size, 0, none⟩ = some (.int .u32 n1) ∧ w'.cell? ⟨w.heap.size, 1, none⟩ = some (.int .i64 b1) ∧ w'.cell? ⟨w.heap.size + 1, 0, none⟩ = some (.int .u32 n2) ∧ w'.cell? ⟨w.heap.size + 1, 1, none⟩ = some (.int .i64 b2))
    (first | exact keepC (below_drew V) (Nat.le_refl _) ⟨HW, Nat.le_of_lt zs, zs, zt, z0, z1, z2, z3⟩ | assumption | (refine keepC (below_alloc_drew V _) (Nat.le_refl _) ?_; assumption))
    (first | (go_at_call 36; refine (cmp_u _ _ _).mono ?_; rintro e w2 ⟨rfl, rfl⟩) | (go_at_call 37; refine (cmp_i _ _ _).mono ?_; rintro e w2 ⟨rfl, rfl⟩) | (go_at_call 35; refine (or_calls (cmpZ n1 n2) (cmpZ b1 b2) _ _ hc0 hc1).mono ?_; rintro e w2 ⟨rfl, rfl⟩; rw [HV.out]))
  rename_i hHeld
  have HL := Lib.hid hHeld.1.out
  clear hHeld
  go_wp2_with (fail)
  go_ret
  exact ⟨rfl, HL.out⟩
end Go.Proofs.Ytkofjejdgdhapaa
