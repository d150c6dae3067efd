/- lpm: LpmRises. -/
import Derived.Test.YtkofjejdgdhapaaLsC
import Derived.Test.YtkofjejdgdhapaaLsE
namespace Go.Proofs.Ytkofjejdgdhapaa
open Go.RowKit

theorem pf_right {l : Nets} {L : List Kn} (h : Tied l L) {i : Nat} {xn xk : Nat} (hx : (L.map pfOf)[i]? = some (xn, xk)) : ∃ x, L[i]? = some x ∧ x.net = xn ∧ x.b = xk ∧ rightB x.net x.b = true ∧ x.net < 2 ^ 32 := by
  rw [List.getElem?_map, Option.map_eq_some_iff] at hx
  obtain ⟨x, h1, h2⟩ := hx
  obtain ⟨hr, hn⟩ := h.rt x (List.mem_of_getElem? h1)
  obtain ⟨k, e, _, _⟩ := rightB_of hr
  have e1 : x.net = xn := congrArg Prod.fst h2
  have e2 : x.b.toNat = xk := congrArg Prod.snd h2
  exact ⟨x, h1, e1, by omega, hr, hn⟩
theorem Tied.rises {l : Nets} {L : List Kn} (h : Tied l L) {k j : Nat} (hj : j = k + 1) {xn xk yn yk : Nat} (hx : (L.map pfOf)[k]? = some (xn, xk)) (hy : (L.map pfOf)[j]? = some (yn, yk)) : cmpK (xn, (xk : Int)) (yn, (yk : Int)) < 0 := by
  obtain ⟨x, h1, h2, h3, _⟩ := pf_right h hx
  obtain ⟨y, h4, h5, h6, _⟩ := pf_right h hy
  obtain ⟨g1, rfl⟩ := List.getElem?_eq_some_iff.1 h1
  obtain ⟨g2, rfl⟩ := List.getElem?_eq_some_iff.1 h4
  have := List.pairwise_iff_getElem.1 h.srt k j g1 g2 (by omega)
  rw [← h2, ← h3, ← h5, ← h6]
  exact cmpK_lt.2 this
theorem pf_row' {w : World} {B n m c : Nat} {a : Option Addr} {xs : List Pf} (hn : xs.length = n) (h : w.ownsRow B 30 2 (.slice a m c) n (flatP xs)) : RowAt rPf w a xs := by
  subst hn
  obtain ⟨a', c', e, r⟩ := pf_row h
  cases e
  exact r
/-- A Put's code and what is known behind it. -/
theorem put_cases (l : Nets) (room : Int) (net : Nat) (b n : Int) : (putCode l room net b = 0 ∧ knowsN (putN l room net b n) net b = some n) ∨ (putCode l room net b = 3 ∧ knowsN (putN l room net b n) net b = none) ∨ (putCode l room net b = 1 ∧ knowsN (putN l room net b n) net b = none ∧ rightB net b = false) := by
  cases hr : rightB net b with
  | false => exact .inr (.inr ⟨by rw [putCode, hr]; rfl, by rw [knowsN, hr]; rfl, rfl⟩)
  | true =>
    cases hm : mayPut l room net b with
    | true => exact .inl ⟨by rw [putCode, hr, hm]; rfl, by rw [knowsN, hr, putN, hm, if_pos rfl, if_pos rfl, getM_put_self]⟩
    | false =>
      refine .inr (.inl ⟨by rw [putCode, hr, hm]; rfl, ?_⟩)
      rw [putN, hm, knowsN, hr]
      unfold mayPut at hm
      rw [hr, Bool.true_and, Bool.or_eq_false_iff] at hm
      simpa using hm.1

set_option maxRecDepth 100000 in
set_option maxHeartbeats 4000000 in
theorem rises_law (room : Int) (ad : Option Addr) (c : Nat) (ss : List Stp) (p : Pre) (w : World) (hr : RowAt rStp w ad ss) (hlen : ss.length ≤ maxLen) (hp : p.net < 2 ^ 32) :
    Calls Try.prog 8 #[.int .i64 room, .slice ad ss.length c, p.v] w fun e w' => e = .returned (.bool true) ∧ Below w.heap.size w w' := by
  obtain ⟨net, b⟩ := p
  have HA := Lib.hid (show net < 2 ^ 32 from hp)
  have HR := Lib.hid hr
  have HL := Lib.hid hlen
  clear hr hlen hp
  show Calls _ _ #[.int .i64 room, .slice ad ss.length c, .agg #[.int .u32 net, .int .i64 b]] _ _
  by_cases hroom : 1 ≤ room ∧ room ≤ 4096
  · obtain ⟨hr1, hr2⟩ := hroom
    go_enter Try.func8, Try.ntmps8
    go_wp2_with ((go_at_call 9; refine (awake_calls _).mono ?_; rintro e w1 ⟨rfl, hb1⟩; have HB1 := Lib.hid (box_trans hb1); have HX1 := Lib.hid (blk_below' hb1 (blk_new _ _)); clear hb1))
    refine (made_ok room ad c ss _ (HR.out.mono (CK.of_below HB1.out)) HL.out hr1 hr2).mono ?_
    rintro e w2 ⟨rfl, hm2⟩
    obtain ⟨l, L, hm, ht, hll, hlr⟩ := hm2
    have hlen := ht.len
    have hlroom : (L.length : Int) ≤ room := by omega
    have HM := Lib.hid hm
    have HT := Lib.hid ht
    have HLL := Lib.hid (show L.length ≤ 100000 by omega)
    have HLl := Lib.hid (show l.length ≤ 100000 by omega)
    have hLn : L.length ≤ 100000 := by omega
    have HLM := Lib.hid (show (L.map pfOf).length = L.length from List.length_map _)
    have hD : ∀ W l' L' S', MemAt w1 W w1.heap.size (w1.heap.size + 1) room l' L' S' → (W.cell? ⟨w.heap.size, 0, none⟩ = some (.int .u32 net) ∧ W.cell? ⟨w.heap.size, 1, none⟩ = some (.int .i64 b)) ∧ w.heap.size < W.heap.size := fun W l' L' S' h => by
      have hx := blk_below' h.below HX1.out
      have k := cells_all (l := [_, _]) hx
      simp only [CellsAt, Nat.reduceAdd, and_true] at k
      exact ⟨k, size_of hx⟩
    have HDD := Lib.hid hD
    clear hm ht hll hlen hlr hD
    go_wp2_with ((go_at_call 14; refine (all_mem w1 w1.heap.size (w1.heap.size + 1) room l L L _ _ HM.out HT.out HLL.out).mono ?_; rintro e w4 ⟨v4, rfl, hown4, hb4⟩; obtain ⟨a4, c4, hv4⟩ := own_slice hown4; subst hv4; have HRW := Lib.hid (pf_row' HLM.out hown4); have HM4 := Lib.hid (HM.out.on hb4); clear hown4 hb4))
    have HB4 := Lib.hid (Below.refl w4.heap.size w4)
    go_loopg [12] (L.length + 1) (fun g i wr => ∃ j : Nat, 1 ≤ j ∧ j ≤ L.length + 1 ∧ g + j = L.length + 2 ∧ i = .int .i64 j ∧ Hid (Below w4.heap.size w4 wr))
    case atStart => exact ⟨1, Nat.le_refl _, by omega, by omega, rfl, HB4⟩
    case round =>
      obtain ⟨j, hj1, hj, hg, rfl, HI⟩ := hrel
      by_cases hlt : j < L.length
      · have ej : IntKind.i64.wrap ((j : Int) + 1) = (j : Int) + 1 := IntWalk.i64_in _ (by omega)
        obtain ⟨k, hk⟩ : ∃ k, j = k + 1 := ⟨j - 1, by omega⟩
        have hkl : k < L.length := by omega
        have ek : IntKind.i64.wrap ((j : Int) - 1) = (k : Int) := by
          rw [show (j : Int) - 1 = k by omega]; exact IntWalk.i64_in _ (by omega)
        have hy? : (L.map pfOf)[j]? = some (pfOf L[j]) := by rw [List.getElem?_map, List.getElem?_eq_getElem hlt]; rfl
        have hx? : (L.map pfOf)[k]? = some (pfOf L[k]) := by rw [List.getElem?_map, List.getElem?_eq_getElem hkl]; rfl
        generalize pfOf L[j] = y at hy?
        generalize pfOf L[k] = x at hx?
        obtain ⟨xn, xk⟩ := x
        obtain ⟨yn, yk⟩ := y
        obtain ⟨cv, hcv⟩ : ∃ cv, cmpK (xn, (xk : Int)) (yn, (yk : Int)) = cv := ⟨_, rfl⟩
        have hcc : ¬ 0 ≤ cv := by have := HT.out.rises hk hx? hy?; omega
        have HC := Lib.hid hcv
        obtain ⟨bk, off, cs, rfl, hc, hR⟩ := HRW.out.get hy?
        obtain ⟨bk2, off2, cs2, he2, hc2, hR2⟩ := HRW.out.get hx?
        cases he2
        obtain ⟨⟨y0, y1⟩, bl⟩ := pf_cells hc hR (CK.of_below HI.out)
        obtain ⟨⟨x0, x1⟩, -⟩ := pf_cells hc2 hR2 (CK.of_below HI.out)
        have HK := Lib.hid hk
        clear hc hR hc2 hR2 hy? hx? hcv hk
        go_wp2_with (fail)
        go_still_tail 9, (by kernel_rfl)
        go_wp2_with ((go_at_call 23; refine (cmp_calls _ _ _ _ _).mono ?_; rintro e w5 ⟨rfl, hb5⟩; rw [HC.out]; have HI5 := Lib.hid (HI.out.trans ((((Below.refl _ _).drew).trans hb5).mono HI.out.size)); clear hb5))
        go_roundg (L.length + 1 - j)
        case measure => omega
        case rel => exact ⟨j + 1, by omega, by omega, by omega, by go_num, HI5⟩
      · have hlt3 : ¬ (j : Int) < L.length := by omega
        have HM5 := Lib.hid (HM4.out.on HI.out)
        obtain ⟨⟨d0, d1⟩, dz⟩ := HDD.out _ _ _ _ HM5.out
        rcases put_cases l room net b 77 with ⟨hp, hk⟩ | ⟨hp, hk⟩ | ⟨hp, hk, hrb⟩
        · have HP := Lib.hid hp
          have HK := Lib.hid hk
          clear hp hk
          go_wp2_with (first
            | (go_at_call 13; refine (put_mem w1 w1.heap.size (w1.heap.size + 1) room l L _ net b 77 _ HM5.out HA.out HLl.out).mono ?_; rintro e w6 ⟨rfl, hm6⟩; rw [HP.out]; have HM6 := Lib.hid hm6; obtain ⟨⟨g0, g1⟩, gz⟩ := HDD.out _ _ _ _ HM6.out; clear hm6)
            | (go_at_call 18; refine (get_mem w1 w1.heap.size (w1.heap.size + 1) room _ L _ net b _ HM6.out HA.out HK.out).mono ?_; rintro e w7 ⟨rfl, hb7⟩; have HM7 := Lib.hid (HM6.out.on hb7); clear hb7))
          go_ret
          exact ⟨rfl, below_trans HB1.out HM7.out.below⟩
        · have HP := Lib.hid hp
          have HK := Lib.hid hk
          clear hp hk
          go_wp2_with (first
            | (go_at_call 13; refine (put_mem w1 w1.heap.size (w1.heap.size + 1) room l L _ net b 77 _ HM5.out HA.out HLl.out).mono ?_; rintro e w6 ⟨rfl, hm6⟩; rw [HP.out]; have HM6 := Lib.hid hm6; obtain ⟨⟨g0, g1⟩, gz⟩ := HDD.out _ _ _ _ HM6.out; clear hm6)
            | (go_at_call 18; refine (get_mem w1 w1.heap.size (w1.heap.size + 1) room _ L _ net b _ HM6.out HA.out HK.out).mono ?_; rintro e w7 ⟨rfl, hb7⟩; have HM7 := Lib.hid (HM6.out.on hb7); clear hb7))
          go_ret
          exact ⟨rfl, below_trans HB1.out HM7.out.below⟩
        · have HP := Lib.hid hp
          have HK := Lib.hid hk
          have HRB := Lib.hid hrb
          clear hp hk hrb
          go_wp2_with (first
            | (go_at_call 13; refine (put_mem w1 w1.heap.size (w1.heap.size + 1) room l L _ net b 77 _ HM5.out HA.out HLl.out).mono ?_; rintro e w6 ⟨rfl, hm6⟩; rw [HP.out]; have HM6 := Lib.hid hm6; obtain ⟨⟨g0, g1⟩, gz⟩ := HDD.out _ _ _ _ HM6.out; clear hm6)
            | (go_at_call 18; refine (get_mem w1 w1.heap.size (w1.heap.size + 1) room _ L _ net b _ HM6.out HA.out HK.out).mono ?_; rintro e w7 ⟨rfl, hb7⟩; have HM7 := Lib.hid (HM6.out.on hb7); obtain ⟨⟨i0, i1⟩, iz⟩ := HDD.out _ _ _ _ HM7.out; clear hb7)
            | (go_at_call 24; refine (right_calls net b _ HA.out).mono ?_; rintro e w8 ⟨rfl, hb8⟩; rw [HRB.out]; have HM8 := Lib.hid (HM7.out.on hb8); clear hb8))
          go_ret
          exact ⟨rfl, below_trans HB1.out HM8.out.below⟩
  · have HX := Lib.hid (show room < 1 ∨ 4096 < room by omega)
    clear hroom
    go_enter Try.func8, Try.ntmps8
    go_wp2_with (first
      | (go_at_call 9; refine (awake_calls _).mono ?_; rintro e w1 ⟨rfl, hb1⟩; have HB1 := Lib.hid (box_trans hb1); clear hb1)
      | (go_at_call 10; refine (made_bad room ad c ss _ HL.out HX.out).mono ?_; rintro e w2 ⟨rfl, rfl⟩))
    go_ret
    exact ⟨rfl, HB1.out⟩
end Go.Proofs.Ytkofjejdgdhapaa
