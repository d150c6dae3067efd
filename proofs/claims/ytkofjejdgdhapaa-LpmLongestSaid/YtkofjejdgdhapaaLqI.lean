/- The reference's Find. -/
import Derived.Test.YtkofjejdgdhapaaLqB
import Derived.RegionTactic
import Derived.ChangeAlike
namespace Go.Proofs.Ytkofjejdgdhapaa
open Go.RowKit

def winsK (L : List Kn) (bo : Option Nat) (x : Kn) : Bool := match bo with | none => true | some i => match L[i]? with | none => true | some y => decide (y.b < x.b)
/-- The place of the best among the first j. -/
def bestK (L : List Kn) (a : Nat) : Nat → Option Nat
  | 0 => none
  | j + 1 => match L[j]? with
    | none => bestK L a j
    | some x => if inB x.net x.b a && winsK L (bestK L a j) x then some j else bestK L a j
theorem bestK_skip {L : List Kn} {a j : Nat} {x : Kn} (hx : L[j]? = some x) (h : inB x.net x.b a = false) : bestK L a (j + 1) = bestK L a j := by simp [bestK, hx, h]
theorem bestK_first {L : List Kn} {a j : Nat} {x : Kn} (hx : L[j]? = some x) (h : inB x.net x.b a = true) (hb : bestK L a j = none) : bestK L a (j + 1) = some j := by simp [bestK, winsK, hx, h, hb]
theorem bestK_more {L : List Kn} {a j i : Nat} {x y : Kn} (hx : L[j]? = some x) (h : inB x.net x.b a = true) (hb : bestK L a j = some i) (hy : L[i]? = some y) (hlt : y.b < x.b) : bestK L a (j + 1) = some j := by simp [bestK, winsK, hx, h, hb, hy, hlt]
theorem bestK_less {L : List Kn} {a j i : Nat} {x y : Kn} (hx : L[j]? = some x) (hb : bestK L a j = some i) (hy : L[i]? = some y) (hlt : ¬ y.b < x.b) : bestK L a (j + 1) = some i := by simp [bestK, winsK, hx, hb, hy, hlt]
theorem bestK_is {L : List Kn} {a : Nat} : ∀ {j i : Nat}, bestK L a j = some i → i < j ∧ ∃ x, L[i]? = some x ∧ inB x.net x.b a = true
  | 0, i, h => by simp [bestK] at h
  | j + 1, i, h => by
    cases hx : L[j]? with
    | none =>
      have e : bestK L a (j + 1) = bestK L a j := by simp [bestK, hx]
      rw [e] at h
      have := bestK_is h
      exact ⟨by omega, this.2⟩
    | some x =>
      simp only [bestK, hx] at h
      split at h
      · rename_i hc
        obtain rfl := Option.some.inj h
        exact ⟨by omega, x, hx, by simp only [Bool.and_eq_true] at hc; exact hc.1⟩
      · have := bestK_is h
        exact ⟨by omega, this.2⟩
def findR (L : List Kn) (a : Nat) : Value := match (bestK L a L.length).bind (fun i => L[i]?) with
  | none => .tuple #[.agg #[.int .u32 0, .int .i64 0], .int .i64 0, .bool false]
  | some x => .tuple #[.agg #[.int .u32 x.net, .int .i64 x.b], .int .i64 x.n, .bool true]
def bestV : Option Nat → Value
  | none => .int .i64 (-1)
  | some i => .int .i64 i
def RFInv (w wr : World) : Prop := Below w.heap.size w wr ∧ wr.heap[w.heap.size]? = some (.cells #[.int .u32 0, .int .i64 0] 30 (0, 0))
theorem RFInv.on {w wr w2 : World} (h : RFInv w wr) (hb : Below wr.heap.size wr w2) : RFInv w w2 := ⟨h.1.trans (hb.mono h.1.size), blk_below' hb h.2⟩

set_option maxRecDepth 100000 in
set_option maxHeartbeats 2000000 in
theorem rfind_calls (B rb : Nat) (room : Int) (v : Value) (L : List Kn) (a : Nat) (w : World) (h : RefAt w B rb room v L) (hl : L.length ≤ 100000) (ha : a < 2 ^ 32) (hL : ∀ x ∈ L, x.net < 2 ^ 32) :
    Calls Try.prog 12 #[.pointer (some ⟨rb, 0, none⟩), .int .u32 a] w fun e w' => e = .returned (findR L a) ∧ Below w.heap.size w w' := by
  have HT := Lib.hid h
  have HA := Lib.hid ha
  have HN := Lib.hid hL
  obtain ⟨ra, c, rfl, hr⟩ := h.row
  have HR := Lib.hid hr
  have HI0 := Lib.hid (show RFInv w (w.alloc (.cells #[.int .u32 0, .int .i64 0] 30 (0, 0))) from ⟨(Below.refl _ _).alloc (Nat.le_refl _) _, blk_new _ _⟩)
  clear hr h ha hL
  go_enter Try.func12, Try.ntmps12
  go_wp2_with (fail)
  go_loopg [7, 8] (L.length + 1) (fun g x i wr => ∃ j : Nat, j ≤ L.length ∧ g + j = L.length + 1 ∧ x = bestV (bestK L a j) ∧ i = .int .i64 j ∧ Hid (RFInv w wr))
  case atStart => exact ⟨0, Nat.zero_le _, rfl, rfl, rfl, HI0⟩
  case round =>
    clear HI0
    obtain ⟨j, hj, hg, rfl, rfl, HI⟩ := hrel
    obtain ⟨t0, t1, tl, -⟩ := (HT.out.on HI.out.1).cells
    by_cases hlt : j < L.length
    · have e1 : IntKind.i64.wrap ((j : Int) + 1) = (j : Int) + 1 := IntWalk.i64_in _ (by omega)
      obtain ⟨bk, off, cs, rfl, hc, hR⟩ := HR.out.get (List.getElem?_eq_getElem hlt)
      have hx? : L[j]? = some L[j] := List.getElem?_eq_getElem hlt
      have HNX := Lib.hid (HN.out L[j] (List.getElem_mem hlt))
      generalize L[j] = x at hR hx? HNX
      obtain ⟨⟨x0, x1, x2⟩, bl⟩ := kn_cells hc hR (CK.of_below HI.out.1)
      have HX := Lib.hid hx?
      have HCS := Lib.hid (And.intro hc hR)
      clear hc hR hx?
      cases hin : inB x.net x.b a with
      | false =>
        have HIN := Lib.hid hin
        have HV := Lib.hid (bestK_skip HX.out hin)
        obtain ⟨bo, hbo⟩ : ∃ bo, bestK L a j = bo := ⟨_, rfl⟩
        rw [hbo] at HV ⊢
        clear hin hbo
        cases bo with
        | none =>
          simp only [bestV] at *
          go_wp2_with ((go_at_call 30; refine (rin_calls x.net x.b a _ HNX.out HA.out).mono ?_; rintro e w2 ⟨rfl, hb2⟩; rw [HIN.out]; have HI2 := Lib.hid (HI.out.on hb2); clear hb2))
          go_quiet (fail)
          go_wp2_with (fail)
          go_roundg (L.length - j)
          case measure => omega
          case rel => exact ⟨j + 1, by omega, by omega, by rw [HV.out], by go_num, Lib.hid (HI2.out.on (below_drewN (Below.refl _ _) _))⟩
        | some i =>
          simp only [bestV] at *
          go_wp2_with ((go_at_call 30; refine (rin_calls x.net x.b a _ HNX.out HA.out).mono ?_; rintro e w2 ⟨rfl, hb2⟩; rw [HIN.out]; have HI2 := Lib.hid (HI.out.on hb2); clear hb2))
          go_quiet (fail)
          go_wp2_with (fail)
          go_roundg (L.length - j)
          case measure => omega
          case rel => exact ⟨j + 1, by omega, by omega, by rw [HV.out], by go_num, Lib.hid (HI2.out.on (below_drewN (Below.refl _ _) _))⟩
      | true =>
        have HIN := Lib.hid hin
        cases hbo : bestK L a j with
        | none =>
          have HV := Lib.hid (bestK_first HX.out hin hbo)
          clear hin hbo
          simp only [bestV] at *
          go_wp2_with ((go_at_call 30; refine (rin_calls x.net x.b a _ HNX.out HA.out).mono ?_; rintro e w2 ⟨rfl, hb2⟩; rw [HIN.out]; have HI2 := Lib.hid (HI.out.on hb2); clear hb2))
          go_quiet (fail)
          go_wp2_with (fail)
          go_roundg (L.length - j)
          case measure => omega
          case rel => exact ⟨j + 1, by omega, by omega, by rw [HV.out], by go_num, Lib.hid (HI2.out.on (below_drewN (Below.refl _ _) _))⟩
        | some i =>
          obtain ⟨hij, y, hy, -⟩ := bestK_is hbo
          have hil : (i : Int) < L.length := by omega
          obtain ⟨bk2, off2, cs2, h2, hc2, hR2⟩ := HR.out.get hy
          cases h2
          have HCY := Lib.hid (And.intro hc2 hR2)
          have HY := Lib.hid hy
          have HBO := Lib.hid hbo
          clear hin hbo hc2 hR2 hy
          simp only [bestV] at *
          by_cases hyx : y.b < x.b
          · have HV := Lib.hid (bestK_more HX.out HIN.out HBO.out HY.out hyx)
            have byx : decide (y.b < x.b) = true := decide_eq_true hyx
            go_wp2_with ((go_at_call 30; refine (rin_calls x.net x.b a _ HNX.out HA.out).mono ?_; rintro e w2 ⟨rfl, hb2⟩; rw [HIN.out]; have HI2 := Lib.hid (HI.out.on hb2); obtain ⟨s0, s1, sl, -⟩ := (HT.out.on HI2.out.1).cells; obtain ⟨⟨v0, v1, v2⟩, vl⟩ := kn_cells HCS.out.1 HCS.out.2 (CK.of_below HI2.out.1); obtain ⟨⟨q0, q1, q2⟩, ql⟩ := kn_cells HCY.out.1 HCY.out.2 (CK.of_below HI2.out.1); clear hb2))
            go_quiet (fail)
            go_wp2_with (fail)
            go_roundg (L.length - j)
            case measure => omega
            case rel => exact ⟨j + 1, by omega, by omega, by rw [HV.out], by go_num, Lib.hid (HI2.out.on (below_drewN (Below.refl _ _) _))⟩
          · have HV := Lib.hid (bestK_less HX.out HBO.out HY.out hyx)
            have byx : decide (y.b < x.b) = false := decide_eq_false hyx
            go_wp2_with ((go_at_call 30; refine (rin_calls x.net x.b a _ HNX.out HA.out).mono ?_; rintro e w2 ⟨rfl, hb2⟩; rw [HIN.out]; have HI2 := Lib.hid (HI.out.on hb2); obtain ⟨s0, s1, sl, -⟩ := (HT.out.on HI2.out.1).cells; obtain ⟨⟨v0, v1, v2⟩, vl⟩ := kn_cells HCS.out.1 HCS.out.2 (CK.of_below HI2.out.1); obtain ⟨⟨q0, q1, q2⟩, ql⟩ := kn_cells HCY.out.1 HCY.out.2 (CK.of_below HI2.out.1); clear hb2))
            go_quiet (fail)
            go_wp2_with (fail)
            go_roundg (L.length - j)
            case measure => omega
            case rel => exact ⟨j + 1, by omega, by omega, by rw [HV.out], by go_num, Lib.hid (HI2.out.on (below_drewN (Below.refl _ _) _))⟩
    · obtain rfl : j = L.length := by omega
      have hlt3 : ¬ (L.length : Int) < L.length := by omega
      have z0 := cells_all (l := [_, _]) HI.out.2
      have zs := size_of HI.out.2
      have zf0 := frz HI.out.2 0
      have zf1 := frz HI.out.2 1
      simp only [CellsAt, Nat.reduceAdd, and_true] at z0
      obtain ⟨z0, z1⟩ := z0
      cases hbo : bestK L a L.length with
      | none =>
        have HV := Lib.hid (show findR L a = .tuple #[.agg #[.int .u32 0, .int .i64 0], .int .i64 0, .bool false] by rw [findR, hbo]; rfl)
        clear hbo
        simp only [bestV] at *
        go_wp2_with (fail)
        refine bodyPost_ret (results_cell_tmp2 rfl _ _ rfl (run_loadVar_row _ _ 30 30 _ (0, 0) _ (blk_set (blk_set HI.out.2 0 _) 1 _) Try.underlying30 rfl (by kernel_rfl))) rfl ?_
        exact ⟨by rw [HV.out]; rfl, fin_below HI.out.1 _ _⟩
      | some i =>
        obtain ⟨hij, y, hy, -⟩ := bestK_is hbo
        have HV := Lib.hid (show findR L a = .tuple #[.agg #[.int .u32 y.net, .int .i64 y.b], .int .i64 y.n, .bool true] by rw [findR, hbo, Option.bind_some, hy])
        have hil : (i : Int) < L.length := by omega
        obtain ⟨bk2, off2, cs2, rfl, hc2, hR2⟩ := HR.out.get hy
        obtain ⟨⟨q0, q1, q2⟩, ql⟩ := kn_cells hc2 hR2 (CK.of_below HI.out.1)
        obtain ⟨-, qw⟩ := kn_cells hc2 hR2 (CK.refl w)
        obtain ⟨-, -, tw, -⟩ := HT.out.cells
        have n1 : bk2 ≠ w.heap.size := by omega
        have n2 : rb ≠ w.heap.size := by omega
        clear hbo hc2 hR2 hy
        simp only [bestV] at *
        go_wp2_with (fail)
        go_region
        all_goals
          go_wp2_with (fail)
          refine bodyPost_ret (results_cell_tmp2 rfl _ _ rfl (run_loadVar_row _ _ 30 30 _ (0, 0) _ (blk_set (blk_set HI.out.2 0 _) 1 _) Try.underlying30 rfl (by kernel_rfl))) rfl ?_
          exact ⟨by rw [HV.out]; rfl, (fin_below HI.out.1 _ _).drew⟩
end Go.Proofs.Ytkofjejdgdhapaa
