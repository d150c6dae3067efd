/- The law FloodScopes: the walk. -/
import Derived.Test.YtnibdmbkefldfaaFlI
namespace Go.Proofs.Ytnibdmbkefldfaa
open Go.RowKit

theorem rTie_v {w : World} {cs : List Value} {t : Tie} (h : rTie.R w cs t) : Value.agg cs.toArray = t.v := by rw [(rTie_out h).1]; rfl
theorem goes_north {s : Scope} {t : Tie} (h : goes s t = true) (hd : t.d = 2) : s.slv ≤ s.olv := by
  unfold goes refB at h
  rw [if_pos hd] at h
  by_cases h1 : s.olv > s.slv
  · omega
  · rw [if_neg h1] at h
    by_cases h2 : s.olv = s.slv
    · omega
    · rw [if_neg h2] at h; simp at h
theorem goes_south {s : Scope} {t : Tie} (h : goes s t = true) (hd : ¬ t.d = 2) : t.d = 1 ∧ (s.olv ≤ s.slv → t.o = s.self) ∧ (s.slv ≤ s.olv → t.k = 1) := by
  unfold goes refB at h
  rw [if_neg hd] at h
  by_cases h0 : t.d = 1
  · rw [if_pos h0] at h
    refine ⟨h0, ?_⟩
    by_cases h1 : s.olv > s.slv
    · rw [if_pos h1] at h
      simp only [Bool.and_eq_true, beq_iff_eq] at h
      exact ⟨fun _ => by omega, fun _ => h.1⟩
    · rw [if_neg h1] at h
      by_cases h2 : s.olv = s.slv
      · rw [if_pos h2] at h
        simp only [Bool.and_eq_true, beq_iff_eq] at h
        exact ⟨fun _ => h.2, fun _ => h.1⟩
      · rw [if_neg h2] at h
        simp only [beq_iff_eq] at h
        exact ⟨fun _ => h, fun _ => by omega⟩
  · rw [if_neg h0] at h; simp at h

theorem scopes_law (t : Tie) (s : Scope) (w : World) : Calls Try.prog 4 #[t.v, s.v] w
    fun e w' => e = .returned (.bool true) ∧ Below w.heap.size w w' := by
  unfold Tie.v Tie.cells Scope.v
  go_enter Try.func4, Try.ntmps4
  go_wp2_with fail
  refine (awake_calls _).mono ?_
  rintro e w1 ⟨rfl, hb1⟩
  have H1 := Lib.hid (blk_below' hb1 (blk_alloc (blk_new w (.cells t.cells.toArray 35 (0, 0))) _))
  have H2 := Lib.hid (blk_below' hb1 (blk_new (w.alloc (.cells t.cells.toArray 35 (0, 0))) (.cells #[.int .i64 s.self, .int .i64 s.slv, .bool s.top, .int .i64 s.on, .int .i64 s.ol, .int .i64 s.olv, .int .i64 s.onc] 26 (0, 0))))
  have HB := Lib.hid ((((Below.refl w.heap.size w).alloc (Nat.le_refl _) (.cells t.cells.toArray 35 (0, 0))).alloc (by simp) _).trans (hb1.mono (by simp; omega)))
  clear hb1
  rw [World.size_alloc] at H2
  have k1 := cells_all H1.out
  have k2 := cells_all H2.out
  have y1 := size_of H1.out
  have y2 := size_of H2.out
  simp only [CellsAt, Tie.cells, Nat.reduceAdd, and_true] at k1 k2
  obtain ⟨a0, a1, a2, a3, a4, a5, a6, a7, a8, a9⟩ := k1
  obtain ⟨b0, b1, b2, b3, b4, b5, b6⟩ := k2
  go_wp2_with fail
  refine (goes_calls t s _).mono ?_
  rintro e w2 ⟨rfl, hb2⟩
  have k1 := cells_all (blk_below' hb2 H1.out)
  have k2 := cells_all (blk_below' hb2 H2.out)
  have HB2 := Lib.hid (HB.out.trans (hb2.mono HB.out.size))
  have z1 : w.heap.size < w2.heap.size := by have := hb2.size; omega
  have z2 : w.heap.size + 1 < w2.heap.size := by have := hb2.size; omega
  clear hb2 a0 a1 a2 a3 a4 a5 a6 a7 a8 a9 b0 b1 b2 b3 b4 b5 b6
  simp only [CellsAt, Tie.cells, Nat.reduceAdd, and_true] at k1 k2
  obtain ⟨a0, a1, a2, a3, a4, a5, a6, a7, a8, a9⟩ := k1
  obtain ⟨b0, b1, b2, b3, b4, b5, b6⟩ := k2
  have hfin : Hid (Below w.heap.size w (w2.alloc (.cells #[.int .i64 t.d, .int .i64 t.o, .int .i64 t.k, .int .i64 t.nr] 29 (0, 0)))) := HB2.out.alloc HB2.out.size _
  obtain ⟨g, hgs⟩ : ∃ g, g = goes s t := ⟨_, rfl⟩
  have HG := Lib.hid hgs
  rw [← hgs]
  clear hgs
  cases g
  · go_wp2
    go_ret
    exact ⟨rfl, hfin⟩
  · by_cases hd : t.d = 2
    · have hx := goes_north HG.out.symm hd
      have hdb : (t.d == 2) = true := beq_iff_eq.2 hd
      clear hd
      go_wp2
      go_ret
      exact ⟨by simp; omega, hfin⟩
    · obtain ⟨h1, h2, h3⟩ := goes_south HG.out.symm hd
      have hdb : (t.d == 2) = false := beq_eq_false_iff_ne.2 hd
      have h1b : (t.d == 1) = true := beq_iff_eq.2 h1
      have H2' := Lib.hid h2
      have H3' := Lib.hid h3
      clear hd h1 h2 h3
      by_cases hle : s.olv ≤ s.slv
      · have ho : (t.o != s.self) = false := by simp [H2'.out hle]
        by_cases hlt : s.olv < s.slv
        · go_wp2
          go_ret
          exact ⟨rfl, hfin⟩
        · have hk : (t.k == 1) = true := beq_iff_eq.2 (H3'.out (by omega))
          go_wp2
          go_ret
          exact ⟨rfl, hfin⟩
      · have hk : (t.k == 1) = true := beq_iff_eq.2 (H3'.out (by omega))
        have hlt : ¬ s.olv < s.slv := by omega
        go_wp2
        go_ret
        exact ⟨rfl, hfin⟩
end Go.Proofs.Ytnibdmbkefldfaa
