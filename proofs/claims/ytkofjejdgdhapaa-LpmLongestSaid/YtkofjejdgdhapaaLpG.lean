/- lpm: Find. -/
import Derived.Test.YtkofjejdgdhapaaLpF
namespace Go.Proofs.Ytkofjejdgdhapaa
open Go.RowKit

/-- The net of the most bits among the first i. -/
def bestTo (l : Nets) (a : Nat) : Nat → Option (Nat × Int)
  | 0 => none
  | i + 1 => match getM l (keyK i (headN a i)) with
    | some n => some (i, n)
    | none => bestTo l a i
theorem bestTo_some {l : Nets} {a i : Nat} {n : Int} (h : getM l (keyK i (headN a i)) = some n) : bestTo l a (i + 1) = some (i, n) := by simp [bestTo, h]
theorem bestTo_none {l : Nets} {a i : Nat} (h : getM l (keyK i (headN a i)) = none) : bestTo l a (i + 1) = bestTo l a i := by simp [bestTo, h]
theorem bestTo_end {w : World} {tb : Nat} {nd : Nd} {l : Nets} {room many : Int} (h : TreeAt w tb nd l room many) {a i : Nat} (hn : nd i (headN a i) = none) : ∀ j, i ≤ j → j ≤ 33 → bestTo l a j = bestTo l a i
  | 0, h1, _ => by obtain rfl : i = 0 := by omega
                   rfl
  | j + 1, h1, h2 => by
    by_cases e : i = j + 1
    · rw [e]
    · rw [bestTo_none (h.no_key (by omega) (none_on h hn j (by omega) (by omega)))]
      exact bestTo_end h hn j (by omega) (by omega)
def pfxCells (a : Nat) : Option (Nat × Int) → List Value
  | none => [.int .u32 0, .int .i64 0]
  | some r => [.int .u32 (cutN a r.1), .int .i64 r.1]
def numOf (r : Option (Nat × Int)) : Int := match r with | none => 0 | some r => r.2
def FInv (tb : Nat) (nd : Nd) (l : Nets) (a : Nat) (w : World) (i : Nat) (x n f : Value) (wr : World) : Prop :=
  Below w.heap.size w wr ∧ wr.heap[w.heap.size]? = some (.cells #[.int .u32 0, .int .i64 0] 30 (0, 0)) ∧ wr.heap[w.heap.size + 1]? = some (.cells (pfxCells a (bestTo l a i)).toArray 30 (0, 0)) ∧
  x = ptrV (nd i (headN a i)) ∧ n = .int .i64 (numOf (bestTo l a i)) ∧ f = .bool (bestTo l a i).isSome
theorem results_cell_tmp2 {P : Program} {fn : Func} {t u v : Tmp} {ty : TypeId} (h : fn.results = #[.cell t ty, .tmp u, .tmp v]) (tmps : Array Value) (w : World) {ad : Addr} {x : Value} (ha : tmps.getD t undef = .pointer (some ad)) (hl : (loadVar ty ad).run P w = .ok x w) :
    (results fn tmps).run P w = .ok (.tuple #[x, tmps.getD u undef, tmps.getD v undef]) w := by
  have ha' : tmps[t]?.getD undef = .pointer (some ad) := by simpa using ha
  simp [results, h, ha', asAddr, hl, Result.andThen]
def findV (l : Nets) (a : Nat) : Value := .tuple #[.agg (pfxCells a (bestTo l a 33)).toArray, .int .i64 (numOf (bestTo l a 33)), .bool (bestTo l a 33).isSome]
def HasBlk (w : World) (b : Nat) (cs : Array Value) (t : TypeId) : Prop := w.heap[b]? = some (.cells cs t (0, 0))
theorem HasBlk.set2 {w : World} {b b' : Nat} {cs : Array Value} {t : TypeId} (h : HasBlk w b cs t) (hb : b ≠ b') (u v : Value) : HasBlk ((w.setCell ⟨b', 0, none⟩ u).setCell ⟨b', 1, none⟩ v) b cs t := by
  unfold HasBlk
  rw [Below.heap_setCell _ _ _ _ hb, Below.heap_setCell _ _ _ _ hb]; exact h
theorem fin2_below {w wr : World} (h : Below w.heap.size w wr) (p q : Value) : Below w.heap.size w ((wr.setCell ⟨w.heap.size + 1, 0, none⟩ p).setCell ⟨w.heap.size + 1, 1, none⟩ q) := ((Kept.of_below h).setCell (.inr (Nat.le_succ _)) _ |>.setCell (.inr (Nat.le_succ _)) _).below (Nat.le_refl _) (by simp)
theorem fin_below {w wr : World} (h : Below w.heap.size w wr) (p q : Value) : Below w.heap.size w ((wr.setCell ⟨w.heap.size, 0, none⟩ p).setCell ⟨w.heap.size, 1, none⟩ q) := ((Kept.of_below h).setCell (.inr (Nat.le_refl _)) _ |>.setCell (.inr (Nat.le_refl _)) _).below (Nat.le_refl _) (by simp)
theorem pfx_two (a : Nat) (r : Option (Nat × Int)) : ∃ p q, pfxCells a r = [.int .u32 p, .int .i64 q] := by
  cases r with
  | none => exact ⟨_, _, rfl⟩
  | some r => exact ⟨_, _, rfl⟩
theorem frz {w : World} {b : Nat} {cs : Array Value} {t : TypeId} (h : w.heap[b]? = some (.cells cs t (0, 0))) (o : Nat) : w.frozen? ⟨b, o, none⟩ = false := by
  simp [World.frozen?, h]

set_option maxRecDepth 100000 in
set_option maxHeartbeats 4000000 in
theorem find_calls (tb : Nat) (nd : Nd) (l : Nets) (room many : Int) (a : Nat) (w : World) (h : TreeAt w tb nd l room many) (ha : a < 2 ^ 32) :
    Calls Try.prog 11 #[.pointer (some ⟨tb, 0, none⟩), .int .u32 a] w fun e w' => e = .returned (findV l a) ∧ Below w.heap.size w w' := by
  have HT := Lib.hid h
  have HA := Lib.hid ha
  have HX := Lib.hid (show Value.pointer (some ⟨tb, 0, none⟩) = ptrV (nd 0 (headN a 0)) by rw [headN_zero ha, h.root]; rfl)
  clear h ha
  go_enter Try.func11, Try.ntmps11
  go_wp2_with (fail)
  go_loopg [8, 9, 10, 11] 34 (fun g n f x i wr => ∃ j : Nat, j ≤ 32 ∧ g + j = 34 ∧ i = .int .i64 j ∧ Hid (FInv tb nd l a w j x n f wr))
  case atStart => exact ⟨0, by decide, rfl, rfl, Lib.hid ⟨((Below.refl _ _).alloc (Nat.le_refl _) _).alloc (by rw [World.size_alloc]; omega) _, blk_alloc (blk_new _ _) _, blk_new' _ _ _ (World.size_alloc _ _).symm, HX.out, rfl, rfl⟩⟩
  case round =>
    obtain ⟨j, hj, hg, rfl, HI⟩ := hrel
    obtain ⟨hb, h1, h2, rfl, rfl, rfl⟩ := HI.out
    obtain ⟨p, q, hpq⟩ := pfx_two a (bestTo l a j)
    have HF := Lib.hid (show Below w.heap.size w wr ∧ wr.heap[w.heap.size]? = some (.cells #[.int .u32 0, .int .i64 0] 30 (0, 0)) ∧ wr.heap[w.heap.size + 1]? = some (.cells (pfxCells a (bestTo l a j)).toArray 30 (0, 0)) from ⟨hb, h1, h2⟩)
    have HPQ := Lib.hid hpq
    rw [hpq] at h2
    have HTW := Lib.hid (HT.out.of_same hb)
    have hle := hb.size
    have y1 := size_of h1
    have y2 := size_of h2
    have f0 := frz h2 0
    have f1 := frz h2 1
    have g0 := frz h1 0
    have g1 := frz h1 1
    have k2 := cells_all h2
    simp only [CellsAt, Nat.reduceAdd, and_true] at k2
    obtain ⟨d0, d1⟩ := k2
    have k3 := cells_all h1
    simp only [CellsAt, Nat.reduceAdd, and_true] at k3
    obtain ⟨z0, z1⟩ := k3
    obtain ⟨n0, hn0⟩ : ∃ n0, numOf (bestTo l a j) = n0 := ⟨_, rfl⟩
    obtain ⟨b0, hb0⟩ : ∃ b0, (bestTo l a j).isSome = b0 := ⟨_, rfl⟩
    rw [hn0, hb0]
    have HN0 := Lib.hid hn0
    have HB0 := Lib.hid hb0
    clear hb h1 h2 HI hpq hn0 hb0
    cases hx : nd j (headN a j) with
    | none =>
      have HE := Lib.hid (bestTo_end HT.out hx 33 (by omega) (by decide))
      clear hx
      simp only [ptrV]
      go_wp2_with (fail)
      refine bodyPost_ret (results_cell_tmp2 rfl _ _ rfl (run_loadVar_row _ _ 30 30 _ (0, 0) _ (blk_set (blk_set HF.out.2.1 0 _) 1 _) Try.underlying30 rfl (by kernel_rfl))) rfl ?_
      exact ⟨by rw [findV, HE.out, HPQ.out, HN0.out, HB0.out]; rfl, fin_below HF.out.1 _ _⟩
    | some b =>
      have hbw := HT.out.lt_of hx
      obtain ⟨⟨m0, m1, m2, m3⟩, ml, -⟩ := HTW.out.cells hx
      have HX2 := Lib.hid hx
      cases hk : getM l (keyK j (headN a j)) with
      | none =>
        have HS := Lib.hid (bestTo_none hk)
        rw [hk] at m0 m1
        simp only [Option.isSome_none, Option.getD_none] at m0 m1
        clear hk hx
        simp only [ptrV]
        by_cases h32 : j = 32
        · subst h32
          go_wp2_with (fail)
          refine bodyPost_ret (results_cell_tmp2 rfl _ _ rfl (run_loadVar_row _ _ 30 30 _ (0, 0) _ (blk_set (blk_set HF.out.2.1 0 _) 1 _) Try.underlying30 rfl (by kernel_rfl))) rfl ?_
          exact ⟨by rw [findV, HS.out, HPQ.out, HN0.out, HB0.out]; rfl, fin_below HF.out.1 _ _⟩
        · have b32 : ((j : Int) == 32) = false := by simpa using (show ¬ (j : Int) = 32 by omega)
          have e1 : IntKind.i64.wrap ((j : Int) + 1) = (j : Int) + 1 := IntWalk.i64_in _ (by omega)
          have hj32 : j < 32 := by omega
          clear h32
          rcases Nat.mod_two_eq_zero_or_one (a / 2 ^ (31 - j)) with hr | hr
          · have HQ := Lib.hid (bit_quiet a j wr HA.out hj32 hr)
            have HY := Lib.hid (show nd (j + 1) (2 * headN a j) = nd (j + 1) (headN a (j + 1)) by rw [headN_succ hj32, hr]; rfl)
            clear hr
            go_wp2_with (fail)
            go_quiet ((go_at_call 29; exact HQ.out _))
            go_wp2_with (fail)
            go_roundg (33 - j)
            case measure => omega
            case rel => exact ⟨j + 1, by omega, by omega, by go_num, Lib.hid ⟨below_drewN HF.out.1 _, HF.out.2.1, by rw [HS.out]; exact HF.out.2.2, by rw [HY.out], by rw [HS.out, HN0.out], by rw [HS.out, HB0.out]⟩⟩
          · have HQ := Lib.hid (bit_quiet a j wr HA.out hj32 hr)
            have HY := Lib.hid (show nd (j + 1) (2 * headN a j + 1) = nd (j + 1) (headN a (j + 1)) by rw [headN_succ hj32, hr])
            clear hr
            go_wp2_with (fail)
            go_quiet ((go_at_call 29; exact HQ.out _))
            go_wp2_with (fail)
            go_roundg (33 - j)
            case measure => omega
            case rel => exact ⟨j + 1, by omega, by omega, by go_num, Lib.hid ⟨below_drewN HF.out.1 _, HF.out.2.1, by rw [HS.out]; exact HF.out.2.2, by rw [HY.out], by rw [HS.out, HN0.out], by rw [HS.out, HB0.out]⟩⟩
      | some y =>
        have HS := Lib.hid (bestTo_some hk)
        have HK := Lib.hid hk
        have hcut := HA.out
        rw [hk] at m0 m1
        simp only [Option.isSome_some, Option.getD_some] at m0 m1
        clear hk hx hcut
        simp only [ptrV]
        by_cases h32 : j = 32
        · have b32 : ((j : Int) == 32) = true := by simpa using (show (j : Int) = 32 by omega)
          have H33 := Lib.hid (show 33 = j + 1 by omega)
          clear h32
          go_wp2_with ((go_at_call 28; refine (cut_calls a j _ HA.out hj).mono ?_; rintro e w3 ⟨rfl, hb3⟩; have HF3 : Hid (Below w.heap.size w w3 ∧ HasBlk w3 w.heap.size #[.int .u32 0, .int .i64 0] 30 ∧ w3.heap[w.heap.size + 1]? = some (.cells #[.int .u32 p, .int .i64 q] 30 (0, 0))) := Lib.hid ⟨HF.out.1.trans (hb3.mono HF.out.1.size), blk_below' hb3 HF.out.2.1, (by (have h := HF.out.2.2; rw [HPQ.out] at h; exact blk_below' hb3 h))⟩; obtain ⟨⟨v0, v1, v2, v3⟩, vl, -⟩ := (HT.out.of_same HF3.out.1).cells HX2.out; rw [HK.out] at v1; simp only [Option.getD_some] at v1; have x1 := cells_all HF3.out.2.1; have x2 := cells_all HF3.out.2.2; simp only [CellsAt, Nat.reduceAdd, and_true] at x1 x2; obtain ⟨x10, x11⟩ := x1; obtain ⟨x20, x21⟩ := x2; have xs1 := size_of HF3.out.2.1; have xs2 := size_of HF3.out.2.2; have xf0 := frz HF3.out.2.2 0; have xf1 := frz HF3.out.2.2 1; have xg0 := frz HF3.out.2.1 0; have xg1 := frz HF3.out.2.1 1; clear hb3))
          refine bodyPost_ret (results_cell_tmp2 rfl _ _ rfl (run_loadVar_row _ _ 30 30 _ (0, 0) _ (blk_set (blk_set (HF3.out.2.1.set2 (by omega) _ _) 0 _) 1 _) Try.underlying30 rfl (by kernel_rfl))) rfl ?_
          exact ⟨by rw [findV, H33.out, HS.out]; rfl, fin_below (fin2_below HF3.out.1 _ _) _ _⟩
        · have b32 : ((j : Int) == 32) = false := by simpa using (show ¬ (j : Int) = 32 by omega)
          have e1 : IntKind.i64.wrap ((j : Int) + 1) = (j : Int) + 1 := IntWalk.i64_in _ (by omega)
          have hj32 : j < 32 := by omega
          clear h32
          rcases Nat.mod_two_eq_zero_or_one (a / 2 ^ (31 - j)) with hr | hr
          · have HQB := Lib.hid (fun w => bit_quiet a j w HA.out hj32 hr)
            have HY := Lib.hid (show nd (j + 1) (2 * headN a j) = nd (j + 1) (headN a (j + 1)) from by rw [headN_succ hj32, hr]; rfl)
            clear hr
            go_wp2_with ((go_at_call 28; refine (cut_calls a j _ HA.out hj).mono ?_; rintro e w3 ⟨rfl, hb3⟩; have HF3 : Hid (Below w.heap.size w w3 ∧ HasBlk w3 w.heap.size #[.int .u32 0, .int .i64 0] 30 ∧ w3.heap[w.heap.size + 1]? = some (.cells #[.int .u32 p, .int .i64 q] 30 (0, 0))) := Lib.hid ⟨HF.out.1.trans (hb3.mono HF.out.1.size), blk_below' hb3 HF.out.2.1, (by (have h := HF.out.2.2; rw [HPQ.out] at h; exact blk_below' hb3 h))⟩; obtain ⟨⟨v0, v1, v2, v3⟩, vl, -⟩ := (HT.out.of_same HF3.out.1).cells HX2.out; rw [HK.out] at v1; simp only [Option.getD_some] at v1; have x1 := cells_all HF3.out.2.1; have x2 := cells_all HF3.out.2.2; simp only [CellsAt, Nat.reduceAdd, and_true] at x1 x2; obtain ⟨x10, x11⟩ := x1; obtain ⟨x20, x21⟩ := x2; have xs1 := size_of HF3.out.2.1; have xs2 := size_of HF3.out.2.2; have xf0 := frz HF3.out.2.2 0; have xf1 := frz HF3.out.2.2 1; have xg0 := frz HF3.out.2.1 0; have xg1 := frz HF3.out.2.1 1; clear hb3))
            go_quiet ((go_at_call 29; exact HQB.out _ _))
            go_wp2_with (fail)
            go_roundg (33 - j)
            case measure => omega
            case rel => exact ⟨j + 1, by omega, by omega, by go_num, Lib.hid ⟨below_drewN (fin2_below HF3.out.1 _ _) _, HF3.out.2.1.set2 (by omega) _ _, by rw [HS.out]; exact blk_set (blk_set HF3.out.2.2 0 _) 1 _, by rw [HY.out], by rw [HS.out]; rfl, by rw [HS.out]; rfl⟩⟩
          · have HQB := Lib.hid (fun w => bit_quiet a j w HA.out hj32 hr)
            have HY := Lib.hid (show nd (j + 1) (2 * headN a j + 1) = nd (j + 1) (headN a (j + 1)) from by rw [headN_succ hj32, hr])
            clear hr
            go_wp2_with ((go_at_call 28; refine (cut_calls a j _ HA.out hj).mono ?_; rintro e w3 ⟨rfl, hb3⟩; have HF3 : Hid (Below w.heap.size w w3 ∧ HasBlk w3 w.heap.size #[.int .u32 0, .int .i64 0] 30 ∧ w3.heap[w.heap.size + 1]? = some (.cells #[.int .u32 p, .int .i64 q] 30 (0, 0))) := Lib.hid ⟨HF.out.1.trans (hb3.mono HF.out.1.size), blk_below' hb3 HF.out.2.1, (by (have h := HF.out.2.2; rw [HPQ.out] at h; exact blk_below' hb3 h))⟩; obtain ⟨⟨v0, v1, v2, v3⟩, vl, -⟩ := (HT.out.of_same HF3.out.1).cells HX2.out; rw [HK.out] at v1; simp only [Option.getD_some] at v1; have x1 := cells_all HF3.out.2.1; have x2 := cells_all HF3.out.2.2; simp only [CellsAt, Nat.reduceAdd, and_true] at x1 x2; obtain ⟨x10, x11⟩ := x1; obtain ⟨x20, x21⟩ := x2; have xs1 := size_of HF3.out.2.1; have xs2 := size_of HF3.out.2.2; have xf0 := frz HF3.out.2.2 0; have xf1 := frz HF3.out.2.2 1; have xg0 := frz HF3.out.2.1 0; have xg1 := frz HF3.out.2.1 1; clear hb3))
            go_quiet ((go_at_call 29; exact HQB.out _ _))
            go_wp2_with (fail)
            go_roundg (33 - j)
            case measure => omega
            case rel => exact ⟨j + 1, by omega, by omega, by go_num, Lib.hid ⟨below_drewN (fin2_below HF3.out.1 _ _) _, HF3.out.2.1.set2 (by omega) _ _, by rw [HS.out]; exact blk_set (blk_set HF3.out.2.2 0 _) 1 _, by rw [HY.out], by rw [HS.out]; rfl, by rw [HS.out]; rfl⟩⟩
end Go.Proofs.Ytkofjejdgdhapaa
