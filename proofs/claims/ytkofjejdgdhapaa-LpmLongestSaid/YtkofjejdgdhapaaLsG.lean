/- lpm: LpmLongest. -/
import Derived.Test.YtkofjejdgdhapaaLsH
namespace Go.Proofs.Ytkofjejdgdhapaa
open Go.RowKit

/-- Of a known net that has the address, the tree knows. -/
theorem known_in {l : Nets} {L : List Kn} (h : Tied l L) {x : Kn} (hx : x ∈ L) {a : Nat} (ha : a < 2 ^ 32) (hi : inB x.net x.b a = true) : ∃ k : Nat, x.b = k ∧ k ≤ 32 ∧ getM l (keyK k (headN a k)) = some x.n := by
  obtain ⟨k, hb, hk, hn⟩ := inB_is hi
  refine ⟨k, hb, hk, ?_⟩
  rw [h.at_ ha hk, ← hn, ← hb]
  exact lookK_of h.srt hx
theorem long_none {l : Nets} {L : List Kn} (h : Tied l L) {x : Kn} (hx : x ∈ L) {a : Nat} (ha : a < 2 ^ 32) (hb : bestTo l a 33 = none) : inB x.net x.b a = false := by
  cases hi : inB x.net x.b a with
  | false => rfl
  | true =>
    obtain ⟨k, _, hk, hg⟩ := known_in h hx ha hi
    rw [bestTo_none_all hb k (by omega)] at hg
    cases hg
theorem long_some {l : Nets} {L : List Kn} (h : Tied l L) {x : Kn} (hx : x ∈ L) {a k : Nat} {n : Int} (ha : a < 2 ^ 32) (hb : bestTo l a 33 = some (k, n)) (hi : inB x.net x.b a = true) : ¬ (k : Int) < x.b := by
  obtain ⟨k', e, hk, hg⟩ := known_in h hx ha hi
  intro hlt
  rw [(bestTo_is' hb).2.2 k' (by omega) (by omega)] at hg
  cases hg
theorem find_cases (l : Nets) {a : Nat} (ha : a < 2 ^ 32) : (∃ (fn : Nat) (fb fm : Int), bestTo l a 33 = none ∧ findV l a = .tuple #[.agg #[.int .u32 fn, .int .i64 fb], .int .i64 fm, .bool false] ∧ fn < 2 ^ 32) ∨
    ∃ (k : Nat) (n : Int), bestTo l a 33 = some (k, n) ∧ findV l a = .tuple #[.agg #[.int .u32 (cutN a k : Nat), .int .i64 (k : Nat)], .int .i64 n, .bool true] ∧ cutN a k < 2 ^ 32 ∧ knowsN l (cutN a k) (k : Nat) = some n ∧ inB (cutN a k) (k : Nat) a = true := by
  cases hb : bestTo l a 33 with
  | none => exact .inl ⟨0, 0, 0, rfl, by rw [findV, hb]; rfl, by decide⟩
  | some r =>
    obtain ⟨k, n⟩ := r
    obtain ⟨h1, h2, _⟩ := bestTo_is' hb
    obtain ⟨h3, h4, h5⟩ := cut_right ha (k := k) (by omega)
    exact .inr ⟨k, n, rfl, by rw [findV, hb]; rfl, h4, by rw [knowsN_ok h3, h5, h2], inB_cut ha (by omega)⟩
theorem keepL {w4 W W' : World} {n bk o1 o2 B : Nat} {u0 u1 u2 u3 : Value} (hb0 : Below n W W') (hn : W.heap.size ≤ n) (h : Hid (Below w4.heap.size w4 W) ∧ w4.heap.size ≤ W.heap.size ∧ bk < W.heap.size ∧ B < W.heap.size ∧ W.cell? ⟨bk, o1, none⟩ = some u0 ∧ W.cell? ⟨bk, o2, none⟩ = some u1 ∧ W.cell? ⟨B, 0, none⟩ = some u2 ∧ W.cell? ⟨B, 1, none⟩ = some u3) :
    Hid (Below w4.heap.size w4 W') ∧ w4.heap.size ≤ W'.heap.size ∧ bk < W'.heap.size ∧ B < W'.heap.size ∧ W'.cell? ⟨bk, o1, none⟩ = some u0 ∧ W'.cell? ⟨bk, o2, none⟩ = some u1 ∧ W'.cell? ⟨B, 0, none⟩ = some u2 ∧ W'.cell? ⟨B, 1, none⟩ = some u3 := by
  have hb := hb0.mono hn
  obtain ⟨h0, h1, h2, h2', h3, h4, h5, h6⟩ := h
  exact ⟨h0.out.trans (hb.mono h1), Nat.le_trans h1 hb.size, Nat.lt_of_lt_of_le h2 hb.size, Nat.lt_of_lt_of_le h2' hb.size, CK.of_below hb _ _ h3, CK.of_below hb _ _ h4, CK.of_below hb _ _ h5, CK.of_below hb _ _ h6⟩

set_option maxRecDepth 100000 in
set_option maxHeartbeats 700000 in
theorem longest_law (room : Int) (ad : Option Addr) (c : Nat) (ss : List Stp) (ai : Int) (w : World) (hr : RowAt rStp w ad ss) (hlen : ss.length ≤ maxLen) (ha : (Lit.int .u32 ai).wf = true) :
    Calls Try.prog 7 #[.int .i64 room, .slice ad ss.length c, .int .u32 ai] w fun e w' => e = .returned (.bool true) ∧ Below w.heap.size w w' := by
  obtain ⟨h0, h1⟩ := wf_u32 ha
  obtain ⟨a, rfl⟩ := Int.eq_ofNat_of_zero_le h0
  have HA := Lib.hid (show a < 2 ^ 32 by omega)
  have HR := Lib.hid hr
  have HL := Lib.hid hlen
  clear hr hlen ha h0 h1
  by_cases hroom : 1 ≤ room ∧ room ≤ 4096
  · obtain ⟨hr1, hr2⟩ := hroom
    go_enter Try.func7, Try.ntmps7
    go_wp2_with ((go_at_call 9; refine (awake_calls _).mono ?_; rintro e w1 ⟨rfl, hb1⟩; have HB1 := Lib.hid hb1; clear hb1))
    refine (made_ok room ad c ss _ (HR.out.mono (CK.of_below HB1.out)) HL.out hr1 hr2).mono ?_
    rintro e w2 ⟨rfl, hm2⟩
    obtain ⟨l, L, hm, ht, hll, hlr⟩ := hm2
    have hlen := ht.len
    have HM := Lib.hid hm
    have HT := Lib.hid ht
    have HLL := Lib.hid (show L.length ≤ 100000 by omega)
    have hLn : L.length ≤ 100000 := by omega
    have HLM := Lib.hid (show (L.map pfOf).length = L.length from List.length_map _)
    clear hm ht hll hlen hlr
    rcases find_cases l HA.out with ⟨fn, fb, fm, hb0, hf, hcut⟩ | ⟨k, n, hb0, hf, hcut, hkn, hin⟩
    · have HBT := Lib.hid hb0
      have HF := Lib.hid hf
      have HC := Lib.hid hcut
      clear hb0 hf hcut
      go_wp2_with (first
        | (go_at_call 11; refine (find_mem w1 w1.heap.size (w1.heap.size + 1) room l L _ a _ HM.out HA.out).mono ?_; rintro e w3 ⟨rfl, hb3⟩; rw [HF.out]; have HM3 := Lib.hid ((HM.out.on hb3).push (.cells #[.int .u32 fn, .int .i64 fb] 30 (0, 0))); clear hb3)
        | (go_at_call 14; refine (all_mem w1 w1.heap.size (w1.heap.size + 1) room l L L _ _ HM3.out HT.out HLL.out).mono ?_; rintro e w4 ⟨v4, rfl, hown4, hb4⟩; obtain ⟨a4, c4, hv4⟩ := own_slice hown4; subst hv4; have HRW := Lib.hid (pf_row' HLM.out hown4); have HM4 := Lib.hid (HM3.out.on hb4); clear hown4 hb4))
      have HB4 := Lib.hid (Below.refl w4.heap.size w4)
      have HBX := Lib.hid (HM4.out.blk List.mem_cons_self)
      go_loopg [15] (L.length + 1) (fun g i wr => ∃ j : Nat, j ≤ L.length ∧ g + j = L.length + 1 ∧ i = .int .i64 j ∧ Hid (Below w4.heap.size w4 wr))
      case atStart => exact ⟨0, Nat.zero_le _, rfl, rfl, HB4⟩
      case round =>
        obtain ⟨j, hj, hg, rfl, HI⟩ := hrel
        have hbx := blk_below' HI.out HBX.out
        have q := cells_all (l := [_, _]) hbx
        have qz := size_of hbx
        simp only [CellsAt, Nat.reduceAdd, and_true] at q
        obtain ⟨q0, q1⟩ := q
        have HQ := Lib.hid hbx
        clear hbx
        by_cases hlt : j < L.length
        · have ej : IntKind.i64.wrap ((j : Int) + 1) = (j : Int) + 1 := IntWalk.i64_in _ (by omega)
          have hx? : (L.map pfOf)[j]? = some (pfOf L[j]) := by rw [List.getElem?_map, List.getElem?_eq_getElem hlt]; rfl
          generalize pfOf L[j] = x at hx?
          obtain ⟨xn, xk⟩ := x
          obtain ⟨x, g1, g2, g3, _, g5⟩ := pf_right HT.out hx?
          obtain ⟨bk, off, cs, rfl, hc, hR⟩ := HRW.out.get hx?
          obtain ⟨⟨x0, x1⟩, bl⟩ := pf_cells hc hR (CK.of_below HI.out)
          have HN := Lib.hid (show xn < 2 ^ 32 by rw [← g2]; exact g5)
          have HNI := Lib.hid (show inB xn (xk : Nat) a = false by rw [← g2, ← g3]; exact long_none HT.out (List.mem_of_getElem? g1) HA.out HBT.out)
          clear hc hR hx? g1 g2 g3 g5
          go_wp2_with (fail)
          refine wp_region_any (by kernel_rfl) ?_
          change wpAny _ _ _ _ _ _ _ (World.drew _)
          refine wpAny_take (i := 0) (v := ?_) rfl (by kernel_rfl) (by kernel_rfl) (by kernel_rfl) (fun _ _ _ h => h) (Or.inl ⟨by rfl, ?_⟩) ?_
          rotate_left
          · intro w
            first | (go_simp; done) | (go_simp; with_reducible rfl)
          try simp only [Act.put, List.setIfInBounds_toArray, List.set_cons_zero, List.set_cons_succ]
          refine wpAny_take (i := 1) (v := ?_) rfl (by kernel_rfl) (by kernel_rfl) (by kernel_rfl) (fun _ _ _ h => h) (Or.inl ⟨by rfl, ?_⟩) ?_
          rotate_left
          · intro w
            first | (go_simp; done) | (go_simp; with_reducible rfl)
          try simp only [Act.put, List.setIfInBounds_toArray, List.set_cons_zero, List.set_cons_succ]
          refine wpAny_take (i := 4) (v := ?_) rfl (by kernel_rfl) (by kernel_rfl) (by kernel_rfl) (fun _ _ _ h => h) (Or.inl ⟨by rfl, ?_⟩) ?_
          rotate_left
          · intro w
            first | (go_simp; done) | (go_simp; with_reducible rfl)
          try simp only [Act.put, List.setIfInBounds_toArray, List.set_cons_zero, List.set_cons_succ]
          refine wpAny_take (i := 2) (v := ?_) rfl (by kernel_rfl) (by kernel_rfl) (by kernel_rfl) (fun _ _ _ h => h) (Or.inl ⟨by rfl, ?_⟩) ?_
          rotate_left
          · intro w
            first | (go_simp; done) | (go_simp; with_reducible rfl)
          try simp only [Act.put, List.setIfInBounds_toArray, List.set_cons_zero, List.set_cons_succ]
          refine wpAny_ready (rs := [3]) (by kernel_rfl) (by simp) ?_
          refine AllReady.cons rfl (fun K hK => ?_) AllReady.nil
          go_simp
          refine hK _ _ ?_
          clear hK K
          refine wpAny_ready (rs := [5]) (by kernel_rfl) (by simp) ?_
          refine AllReady.cons rfl (fun K hK => ?_) AllReady.nil
          go_simp
          refine (in_calls xn (xk : Nat) a _ HN.out HA.out).mono ?_
          rintro e w5 ⟨rfl, hb5⟩
          rw [HNI.out]
          have HI5 := Lib.hid (HI.out.trans ((((Below.refl _ _).drew).trans hb5).mono HI.out.size))
          clear hb5
          go_simp
          refine hK _ _ ?_
          clear hK K
          refine wpAny_ready (rs := [6]) (by kernel_rfl) (by simp) ?_
          refine AllReady.cons rfl (fun K hK => ?_) AllReady.nil
          go_simp
          refine hK _ _ ?_
          clear hK K
          refine wpAny_take (i := 7) (v := undef) rfl (by kernel_rfl) (by kernel_rfl) (by kernel_rfl) (fun _ _ _ h => h) (Or.inr ⟨by kernel_rfl, rfl⟩) ?_
          try simp only [Act.put, List.setIfInBounds_toArray, List.set_cons_zero, List.set_cons_succ]
          refine wpAny_take (i := 8) (v := undef) rfl (by kernel_rfl) (by kernel_rfl) (by kernel_rfl) (fun _ _ _ h => h) (Or.inr ⟨by kernel_rfl, rfl⟩) ?_
          try simp only [Act.put, List.setIfInBounds_toArray, List.set_cons_zero, List.set_cons_succ]
          refine wpAny_take (i := 9) (v := undef) rfl (by kernel_rfl) (by kernel_rfl) (by kernel_rfl) (fun _ _ _ h => h) (Or.inr ⟨by kernel_rfl, rfl⟩) ?_
          try simp only [Act.put, List.setIfInBounds_toArray, List.set_cons_zero, List.set_cons_succ]
          refine wpAny_take (i := 10) (v := undef) rfl (by kernel_rfl) (by kernel_rfl) (by kernel_rfl) (fun _ _ _ h => h) (Or.inr ⟨by kernel_rfl, rfl⟩) ?_
          try simp only [Act.put, List.setIfInBounds_toArray, List.set_cons_zero, List.set_cons_succ]
          refine wpAny_take (i := 11) (v := undef) rfl (by kernel_rfl) (by kernel_rfl) (by kernel_rfl) (fun _ _ _ h => h) (Or.inr ⟨by kernel_rfl, rfl⟩) ?_
          try simp only [Act.put, List.setIfInBounds_toArray, List.set_cons_zero, List.set_cons_succ]
          refine wpAny_take (i := 12) (v := undef) rfl (by kernel_rfl) (by kernel_rfl) (by kernel_rfl) (fun _ _ _ h => h) (Or.inr ⟨by kernel_rfl, rfl⟩) ?_
          try simp only [Act.put, List.setIfInBounds_toArray, List.set_cons_zero, List.set_cons_succ]
          refine wpAny_take (i := 13) (v := undef) rfl (by kernel_rfl) (by kernel_rfl) (by kernel_rfl) (fun _ _ _ h => h) (Or.inr ⟨by kernel_rfl, rfl⟩) ?_
          try simp only [Act.put, List.setIfInBounds_toArray, List.set_cons_zero, List.set_cons_succ]
          refine wpAny_take (i := 14) (v := undef) rfl (by kernel_rfl) (by kernel_rfl) (by kernel_rfl) (fun _ _ _ h => h) (Or.inr ⟨by kernel_rfl, rfl⟩) ?_
          try simp only [Act.put, List.setIfInBounds_toArray, List.set_cons_zero, List.set_cons_succ]
          refine wpAny_take (i := 15) (v := undef) rfl (by kernel_rfl) (by kernel_rfl) (by kernel_rfl) (fun _ _ _ h => h) (Or.inr ⟨by kernel_rfl, rfl⟩) ?_
          try simp only [Act.put, List.setIfInBounds_toArray, List.set_cons_zero, List.set_cons_succ]
          refine wpAny_take (i := 16) (v := undef) rfl (by kernel_rfl) (by kernel_rfl) (by kernel_rfl) (fun _ _ _ h => h) (Or.inr ⟨by kernel_rfl, rfl⟩) ?_
          try simp only [Act.put, List.setIfInBounds_toArray, List.set_cons_zero, List.set_cons_succ]
          refine wpAny_take (i := 17) (v := undef) rfl (by kernel_rfl) (by kernel_rfl) (by kernel_rfl) (fun _ _ _ h => h) (Or.inr ⟨by kernel_rfl, rfl⟩) ?_
          try simp only [Act.put, List.setIfInBounds_toArray, List.set_cons_zero, List.set_cons_succ]
          refine wpAny_take (i := 18) (v := undef) rfl (by kernel_rfl) (by kernel_rfl) (by kernel_rfl) (fun _ _ _ h => h) (Or.inr ⟨by kernel_rfl, rfl⟩) ?_
          try simp only [Act.put, List.setIfInBounds_toArray, List.set_cons_zero, List.set_cons_succ]
          refine wpAny_ready (rs := [19]) (by kernel_rfl) (by simp) ?_
          refine AllReady.cons rfl (fun K hK => ?_) AllReady.nil
          go_simp
          refine hK _ _ ?_
          clear hK K
          refine wpAny_done (by kernel_rfl) ?_ _
          go_wp2_with (fail)
          go_roundg (L.length - j)
          case measure => omega
          case rel => exact ⟨j + 1, by omega, by omega, by go_num, HI5⟩
        · have hlt3 : ¬ (j : Int) < L.length := by omega
          have HM5 := Lib.hid (HM4.out.on HI.out)
          obtain ⟨r, hrr⟩ : ∃ r, knowsN l fn fb = r := ⟨_, rfl⟩
          have HKN := Lib.hid hrr
          clear hrr
          go_wp2_with ((go_at_call 18; refine (get_mem w1 w1.heap.size (w1.heap.size + 1) room l L _ fn fb _ HM5.out HC.out HKN.out).mono ?_; rintro e w7 ⟨rfl, hb7⟩; have HM7 := Lib.hid (HM5.out.on hb7); clear hb7))
          go_ret
          exact ⟨rfl, below_trans HB1.out HM7.out.below⟩
    · have HBT := Lib.hid hb0
      have HF := Lib.hid hf
      have HC := Lib.hid hcut
      have HKN := Lib.hid hkn
      have HIN := Lib.hid hin
      clear hcut hkn hin
      clear hb0 hf
      go_wp2_with (first
        | (go_at_call 11; refine (find_mem w1 w1.heap.size (w1.heap.size + 1) room l L _ a _ HM.out HA.out).mono ?_; rintro e w3 ⟨rfl, hb3⟩; rw [HF.out]; have HM3 := Lib.hid ((HM.out.on hb3).push (.cells #[.int .u32 (cutN a k : Nat), .int .i64 (k : Nat)] 30 (0, 0))); clear hb3)
        | (go_at_call 14; refine (all_mem w1 w1.heap.size (w1.heap.size + 1) room l L L _ _ HM3.out HT.out HLL.out).mono ?_; rintro e w4 ⟨v4, rfl, hown4, hb4⟩; obtain ⟨a4, c4, hv4⟩ := own_slice hown4; subst hv4; have HRW := Lib.hid (pf_row' HLM.out hown4); have HM4 := Lib.hid (HM3.out.on hb4); clear hown4 hb4))
      have HB4 := Lib.hid (Below.refl w4.heap.size w4)
      have HBX := Lib.hid (HM4.out.blk List.mem_cons_self)
      go_loopg [15] (L.length + 1) (fun g i wr => ∃ j : Nat, j ≤ L.length ∧ g + j = L.length + 1 ∧ i = .int .i64 j ∧ Hid (Below w4.heap.size w4 wr))
      case atStart => exact ⟨0, Nat.zero_le _, rfl, rfl, HB4⟩
      case round =>
        obtain ⟨j, hj, hg, rfl, HI⟩ := hrel
        have hbx := blk_below' HI.out HBX.out
        have q := cells_all (l := [_, _]) hbx
        have qz := size_of hbx
        simp only [CellsAt, Nat.reduceAdd, and_true] at q
        obtain ⟨q0, q1⟩ := q
        have HQ := Lib.hid hbx
        clear hbx
        by_cases hlt : j < L.length
        · have ej : IntKind.i64.wrap ((j : Int) + 1) = (j : Int) + 1 := IntWalk.i64_in _ (by omega)
          have hx? : (L.map pfOf)[j]? = some (pfOf L[j]) := by rw [List.getElem?_map, List.getElem?_eq_getElem hlt]; rfl
          generalize pfOf L[j] = x at hx?
          obtain ⟨xn, xk⟩ := x
          obtain ⟨x, g1, g2, g3, _, g5⟩ := pf_right HT.out hx?
          obtain ⟨bk, off, cs, rfl, hc, hR⟩ := HRW.out.get hx?
          obtain ⟨⟨x0, x1⟩, bl⟩ := pf_cells hc hR (CK.of_below HI.out)
          have HN := Lib.hid (show xn < 2 ^ 32 by rw [← g2]; exact g5)
          have hls : inB xn (xk : Nat) a = true → ¬ (k : Int) < (xk : Nat) := by rw [← g2, ← g3]; exact long_some HT.out (List.mem_of_getElem? g1) HA.out HBT.out
          clear hc hR hx? g1 g2 g3 g5
          cases hi : inB xn (xk : Nat) a with
          | false =>
            have HNI := Lib.hid hi
            clear hi hls
            go_wp2_with (fail)
            refine wp_region_any (by kernel_rfl) ?_
            change wpAny _ _ _ _ _ _ _ (World.drew _)
            refine wpAny_take (i := 0) (v := ?_) rfl (by kernel_rfl) (by kernel_rfl) (by kernel_rfl) (fun _ _ _ h => h) (Or.inl ⟨by rfl, ?_⟩) ?_
            rotate_left
            · intro w
              first | (go_simp; done) | (go_simp; with_reducible rfl)
            try simp only [Act.put, List.setIfInBounds_toArray, List.set_cons_zero, List.set_cons_succ]
            refine wpAny_take (i := 1) (v := ?_) rfl (by kernel_rfl) (by kernel_rfl) (by kernel_rfl) (fun _ _ _ h => h) (Or.inl ⟨by rfl, ?_⟩) ?_
            rotate_left
            · intro w
              first | (go_simp; done) | (go_simp; with_reducible rfl)
            try simp only [Act.put, List.setIfInBounds_toArray, List.set_cons_zero, List.set_cons_succ]
            refine wpAny_take (i := 4) (v := ?_) rfl (by kernel_rfl) (by kernel_rfl) (by kernel_rfl) (fun _ _ _ h => h) (Or.inl ⟨by rfl, ?_⟩) ?_
            rotate_left
            · intro w
              first | (go_simp; done) | (go_simp; with_reducible rfl)
            try simp only [Act.put, List.setIfInBounds_toArray, List.set_cons_zero, List.set_cons_succ]
            refine wpAny_take (i := 2) (v := ?_) rfl (by kernel_rfl) (by kernel_rfl) (by kernel_rfl) (fun _ _ _ h => h) (Or.inl ⟨by rfl, ?_⟩) ?_
            rotate_left
            · intro w
              first | (go_simp; done) | (go_simp; with_reducible rfl)
            try simp only [Act.put, List.setIfInBounds_toArray, List.set_cons_zero, List.set_cons_succ]
            refine wpAny_ready (rs := [3]) (by kernel_rfl) (by simp) ?_
            refine AllReady.cons rfl (fun K hK => ?_) AllReady.nil
            go_simp
            refine hK _ _ ?_
            clear hK K
            refine wpAny_ready (rs := [5]) (by kernel_rfl) (by simp) ?_
            refine AllReady.cons rfl (fun K hK => ?_) AllReady.nil
            go_simp
            refine (in_calls xn (xk : Nat) a _ HN.out HA.out).mono ?_
            rintro e w5 ⟨rfl, hb5⟩
            rw [HNI.out]
            have HI5 := Lib.hid (HI.out.trans ((((Below.refl _ _).drew).trans hb5).mono HI.out.size))
            clear hb5
            go_simp
            refine hK _ _ ?_
            clear hK K
            refine wpAny_ready (rs := [6]) (by kernel_rfl) (by simp) ?_
            refine AllReady.cons rfl (fun K hK => ?_) AllReady.nil
            go_simp
            refine hK _ _ ?_
            clear hK K
            refine wpAny_take (i := 7) (v := undef) rfl (by kernel_rfl) (by kernel_rfl) (by kernel_rfl) (fun _ _ _ h => h) (Or.inr ⟨by kernel_rfl, rfl⟩) ?_
            try simp only [Act.put, List.setIfInBounds_toArray, List.set_cons_zero, List.set_cons_succ]
            refine wpAny_take (i := 8) (v := undef) rfl (by kernel_rfl) (by kernel_rfl) (by kernel_rfl) (fun _ _ _ h => h) (Or.inr ⟨by kernel_rfl, rfl⟩) ?_
            try simp only [Act.put, List.setIfInBounds_toArray, List.set_cons_zero, List.set_cons_succ]
            refine wpAny_take (i := 9) (v := undef) rfl (by kernel_rfl) (by kernel_rfl) (by kernel_rfl) (fun _ _ _ h => h) (Or.inr ⟨by kernel_rfl, rfl⟩) ?_
            try simp only [Act.put, List.setIfInBounds_toArray, List.set_cons_zero, List.set_cons_succ]
            refine wpAny_take (i := 10) (v := undef) rfl (by kernel_rfl) (by kernel_rfl) (by kernel_rfl) (fun _ _ _ h => h) (Or.inr ⟨by kernel_rfl, rfl⟩) ?_
            try simp only [Act.put, List.setIfInBounds_toArray, List.set_cons_zero, List.set_cons_succ]
            refine wpAny_take (i := 11) (v := undef) rfl (by kernel_rfl) (by kernel_rfl) (by kernel_rfl) (fun _ _ _ h => h) (Or.inr ⟨by kernel_rfl, rfl⟩) ?_
            try simp only [Act.put, List.setIfInBounds_toArray, List.set_cons_zero, List.set_cons_succ]
            refine wpAny_take (i := 12) (v := undef) rfl (by kernel_rfl) (by kernel_rfl) (by kernel_rfl) (fun _ _ _ h => h) (Or.inr ⟨by kernel_rfl, rfl⟩) ?_
            try simp only [Act.put, List.setIfInBounds_toArray, List.set_cons_zero, List.set_cons_succ]
            refine wpAny_take (i := 13) (v := undef) rfl (by kernel_rfl) (by kernel_rfl) (by kernel_rfl) (fun _ _ _ h => h) (Or.inr ⟨by kernel_rfl, rfl⟩) ?_
            try simp only [Act.put, List.setIfInBounds_toArray, List.set_cons_zero, List.set_cons_succ]
            refine wpAny_take (i := 14) (v := undef) rfl (by kernel_rfl) (by kernel_rfl) (by kernel_rfl) (fun _ _ _ h => h) (Or.inr ⟨by kernel_rfl, rfl⟩) ?_
            try simp only [Act.put, List.setIfInBounds_toArray, List.set_cons_zero, List.set_cons_succ]
            refine wpAny_take (i := 15) (v := undef) rfl (by kernel_rfl) (by kernel_rfl) (by kernel_rfl) (fun _ _ _ h => h) (Or.inr ⟨by kernel_rfl, rfl⟩) ?_
            try simp only [Act.put, List.setIfInBounds_toArray, List.set_cons_zero, List.set_cons_succ]
            refine wpAny_take (i := 16) (v := undef) rfl (by kernel_rfl) (by kernel_rfl) (by kernel_rfl) (fun _ _ _ h => h) (Or.inr ⟨by kernel_rfl, rfl⟩) ?_
            try simp only [Act.put, List.setIfInBounds_toArray, List.set_cons_zero, List.set_cons_succ]
            refine wpAny_take (i := 17) (v := undef) rfl (by kernel_rfl) (by kernel_rfl) (by kernel_rfl) (fun _ _ _ h => h) (Or.inr ⟨by kernel_rfl, rfl⟩) ?_
            try simp only [Act.put, List.setIfInBounds_toArray, List.set_cons_zero, List.set_cons_succ]
            refine wpAny_take (i := 18) (v := undef) rfl (by kernel_rfl) (by kernel_rfl) (by kernel_rfl) (fun _ _ _ h => h) (Or.inr ⟨by kernel_rfl, rfl⟩) ?_
            try simp only [Act.put, List.setIfInBounds_toArray, List.set_cons_zero, List.set_cons_succ]
            refine wpAny_ready (rs := [19]) (by kernel_rfl) (by simp) ?_
            refine AllReady.cons rfl (fun K hK => ?_) AllReady.nil
            go_simp
            refine hK _ _ ?_
            clear hK K
            refine wpAny_done (by kernel_rfl) ?_ _
            go_wp2_with (fail)
            go_roundg (L.length - j)
            case measure => omega
            case rel => exact ⟨j + 1, by omega, by omega, by go_num, HI5⟩
          | true =>
            have hnl := hls hi
            have HNI := Lib.hid hi
            clear hi hls
            go_wp2_with (fail)
            have hzw : w4.heap.size ≤ wr.heap.size := HI.out.size
            go_region_held3 (fun w' => Hid (Below w4.heap.size w4 w') ∧ w4.heap.size ≤ w'.heap.size ∧ bk < w'.heap.size ∧ w3.heap.size < w'.heap.size ∧ w'.cell? ⟨bk, off + j * 2, none⟩ = some (.int .u32 xn) ∧ w'.cell? ⟨bk, off + j * 2 + 1, none⟩ = some (.int .i64 xk) ∧ w'.cell? ⟨w3.heap.size, 0, none⟩ = some (.int .u32 (cutN a k : Nat)) ∧ w'.cell? ⟨w3.heap.size, 1, none⟩ = some (.int .i64 (k : Nat)))
              (first | exact keepL (below_drew wr) (Nat.le_refl _) ⟨HI, hzw, bl, qz, x0, x1, q0, q1⟩ | assumption | (refine keepL hb5 (Nat.le_refl _) ?_; assumption))
              ((go_at_call 16; refine (in_calls xn (xk : Nat) a _ HN.out HA.out).mono ?_; rintro e w5 ⟨rfl, hb5⟩; rw [HNI.out]))
            rename_i hHeld
            have HI5 := Lib.hid hHeld.1.out
            clear hHeld hb5
            go_wp2_with (fail)
            go_roundg (L.length - j)
            case measure => omega
            case rel => exact ⟨j + 1, by omega, by omega, by go_num, HI5⟩
        · have hlt3 : ¬ (j : Int) < L.length := by omega
          have HM5 := Lib.hid (HM4.out.on HI.out)
          go_wp2_with (first
            | (go_at_call 18; refine (get_mem w1 w1.heap.size (w1.heap.size + 1) room l L _ (cutN a k) (k : Nat) _ HM5.out HC.out HKN.out).mono ?_; rintro e w7 ⟨rfl, hb7⟩; have HM7 := Lib.hid (HM5.out.on hb7); have hbk7 := blk_below' hb7 HQ.out; have s := cells_all (l := [_, _]) hbk7; have sz := size_of hbk7; simp only [CellsAt, Nat.reduceAdd, and_true] at s; obtain ⟨s0, s1⟩ := s; clear hb7 hbk7)
            | (go_at_call 16; refine (in_calls (cutN a k) (k : Nat) a _ HC.out HA.out).mono ?_; rintro e w8 ⟨rfl, hb8⟩; rw [HIN.out]; have HM8 := Lib.hid (HM7.out.on hb8); clear hb8))
          go_ret
          exact ⟨rfl, below_trans HB1.out HM8.out.below⟩
  · have HX := Lib.hid (show room < 1 ∨ 4096 < room by omega)
    clear hroom
    go_enter Try.func7, Try.ntmps7
    go_wp2_with (first
      | (go_at_call 9; refine (awake_calls _).mono ?_; rintro e w1 ⟨rfl, hb1⟩; have HB1 := Lib.hid hb1; clear hb1)
      | (go_at_call 10; refine (made_bad room ad c ss _ HL.out HX.out).mono ?_; rintro e w2 ⟨rfl, rfl⟩))
    go_ret
    exact ⟨rfl, HB1.out⟩
end Go.Proofs.Ytkofjejdgdhapaa
