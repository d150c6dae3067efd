/- lpm: LpmDrops. -/
import Derived.Test.YtkofjejdgdhapaaLsD
namespace Go.Proofs.Ytkofjejdgdhapaa
open Go.RowKit

theorem under_congr {l l' : Nets} (h : ∀ k, getM l k = getM l' k) : ∀ (f k v : Nat), underN l f k v = underN l' f k v
  | 0, _, _ => rfl
  | f + 1, k, v => by rw [underN, underN, h, under_congr h f, under_congr h f]
theorem drop_knows {l : Nets} {net : Nat} {b : Int} : knowsN (dropN l net b) net b = none := by
  unfold dropN
  split
  · unfold knowsN; split
    · exact delM_self
    · rfl
  · rename_i h
    simpa using h
theorem drop_none {l : Nets} {net : Nat} {b : Int} (h : knowsN l net b = none) : dropN l net b = l := by rw [dropN, h]; rfl
theorem drop_some {l : Nets} {net : Nat} {b n : Int} (h : knowsN l net b = some n) : dropN l net b = delM l (keyP net b) ∧ rightB net b = true ∧ getM l (keyP net b) = some n := by
  have hr : rightB net b = true := by
    cases hr : rightB net b with
    | true => rfl
    | false => rw [knowsN_bad hr] at h; cases h
  refine ⟨by rw [dropN, h]; rfl, hr, ?_⟩
  rw [← knowsN_ok hr]; exact h
theorem drop_len {l : Nets} {net : Nat} {b n : Int} (hd : (l.map (·.1)).Nodup) (h : knowsN l net b = some n) : (dropN l net b).length + 1 = l.length := by
  obtain ⟨h1, _, h3⟩ := drop_some h
  rw [h1]; exact delM_len hd h3
/-- What was dropped and put again. -/
theorem again {l : Nets} {net : Nat} {b n room : Int} (hd : (l.map (·.1)).Nodup) (h : knowsN l net b = some n) (hl : (l.length : Int) ≤ room) (k : Int) : getM (putN (dropN l net b) room net b n) k = getM l k := by
  obtain ⟨h1, h2, h3⟩ := drop_some h
  have h4 := drop_len hd h
  have hm : mayPut (dropN l net b) room net b = true := by
    unfold mayPut
    rw [h2, Bool.true_and, Bool.or_eq_true, decide_eq_true_eq]
    exact .inr (by omega)
  rw [putN, hm, if_pos rfl, h1]
  by_cases hk : k = keyP net b
  · subst hk; rw [getM_put_self, h3]
  · rw [getM_put_other hk, delM_other hk]
theorem Tied.again {l l' : Nets} {L L' : List Kn} (h : Tied l L) (h' : Tied l' L') (hg : ∀ k, getM l' k = getM l k) : L'.map pfOf = L.map pfOf := by
  obtain ⟨f, hf⟩ : ∃ f, f = 33 := ⟨_, rfl⟩
  rw [← h.under f hf, ← h'.under f hf, under_congr hg]

/-- A fresh row, kept beside. -/
theorem MemAt.row {w0 W W' : World} {tb rb : Nat} {room : Int} {l : Nets} {L : List Kn} {S : Blks} {e size n : Nat} {v : Value} {xs : List Value} (h : MemAt w0 W tb rb room l L S) (hb : Below W.heap.size W W') (ho : W'.ownsRow W.heap.size e size v n xs) :
    ∃ S', MemAt w0 W' tb rb room l L S' ∧ ∀ X : World, (∀ p ∈ S', X.heap[p.1]? = some p.2) → X.ownsRow W.heap.size e size v n xs := by
  have h' := h.on hb
  cases hv : v.ownBlock with
  | none => exact ⟨S, h', fun X _ => owns_block ho (fun g hg => by rw [hv] at hg; cases hg)⟩
  | some g =>
    obtain ⟨cur, t, fr, hc⟩ := own_isCells ho g hv
    have hg := (ho.lt g hv).1
    refine ⟨(g, .cells cur t fr) :: S, ?_, fun X hX => owns_block ho (fun g' hg' => by
      rw [hv] at hg'
      obtain rfl := Option.some.inj hg'
      rw [hX _ List.mem_cons_self, hc])⟩
    obtain ⟨nd, u, h1, h2, h3, h4, h5⟩ := h
    refine ⟨nd, u, h1.trans (hb.mono h1.size), h2.of_same hb, h3.on hb, h4, fun p hp => ?_⟩
    rcases List.mem_cons.1 hp with rfl | hp
    · exact ⟨hc, fun k x e => by have := h2.lt_of e; simp only at this; omega, fun e => by have := size_of h3.blk; simp only at e; omega, fun e => by have := (h3.own.lt _ e).2; simp only at this; omega⟩
    · exact ⟨blk_below' hb (h5 p hp).1, (h5 p hp).2⟩
theorem MemAt.all {w0 w : World} {tb rb : Nat} {room : Int} {l : Nets} {L : List Kn} {S : Blks} (h : MemAt w0 w tb rb room l L S) : ∀ p ∈ S, w.heap[p.1]? = some p.2 := fun _ hp => h.blk hp

set_option maxRecDepth 100000 in
set_option maxHeartbeats 4000000 in
theorem drops_law (room : Int) (ad : Option Addr) (c : Nat) (ss : List Stp) (p : Pre) (w : World) (hr : RowAt rStp w ad ss) (hlen : ss.length ≤ maxLen) (hp : p.net < 2 ^ 32) :
    Calls Try.prog 6 #[.int .i64 room, .slice ad ss.length c, p.v] w fun e w' => e = .returned (.bool true) ∧ Below w.heap.size w w' := by
  obtain ⟨net, b⟩ := p
  have HA := Lib.hid (show net < 2 ^ 32 from hp)
  have HR := Lib.hid hr
  have HL := Lib.hid hlen
  clear hr hlen hp
  show Calls _ _ #[.int .i64 room, .slice ad ss.length c, .agg #[.int .u32 net, .int .i64 b]] _ _
  by_cases hroom : 1 ≤ room ∧ room ≤ 4096
  · obtain ⟨hr1, hr2⟩ := hroom
    go_enter Try.func6, Try.ntmps6
    go_wp2_with ((go_at_call 9; refine (awake_calls _).mono ?_; rintro e w1 ⟨rfl, hb1⟩; have HB1 := Lib.hid (box_trans hb1); have HX1 := Lib.hid (blk_below' hb1 (blk_new _ _)); clear hb1))
    refine (made_ok room ad c ss _ (HR.out.mono (CK.of_below HB1.out)) HL.out hr1 hr2).mono ?_
    rintro e w2 ⟨rfl, hm2⟩
    obtain ⟨l, L, hm, ht, hll, hlr⟩ := hm2
    have hlen := ht.len
    have HLR := Lib.hid hlr
    have HM := Lib.hid hm
    have HT := Lib.hid ht
    have HLL := Lib.hid (show L.length ≤ 100000 by omega)
    have HLl := Lib.hid (show l.length ≤ 100000 by omega)
    have HLM := Lib.hid (show (L.map pfOf).length = L.length from List.length_map _)
    have HD := Lib.hid hm.nodup
    have hT1 : Tied (dropN l net b) (dropK L (net, b)) := ht.dropS hm.nodup HA.out
    have HT1 := Lib.hid hT1
    have hl1 := dropN_len l net b
    have hL1 := hT1.len
    have HL1 := Lib.hid (show (dropK L (net, b)).length ≤ 100000 by omega)
    have HLl1 := Lib.hid (show (dropN l net b).length ≤ 100000 by omega)
    obtain ⟨fnet, fb, fn, fis, hf⟩ := findV_form (dropN l net b) net
    have HF := Lib.hid hf
    have hD : ∀ W l' L' S', MemAt w1 W w1.heap.size (w1.heap.size + 1) room l' L' S' → (W.cell? ⟨w.heap.size, 0, none⟩ = some (.int .u32 net) ∧ W.cell? ⟨w.heap.size, 1, none⟩ = some (.int .i64 b)) ∧ w.heap.size < W.heap.size := fun W l' L' S' h => by
      have hx := blk_below' h.below HX1.out
      have k := cells_all (l := [_, _]) hx
      simp only [CellsAt, Nat.reduceAdd, and_true] at k
      exact ⟨k, size_of hx⟩
    have HDD := Lib.hid hD
    obtain ⟨⟨d0, d1⟩, dz⟩ := hD _ _ _ _ hm
    have hLn : L.length ≤ 100000 := by omega
    clear hm ht hll hlen hlr hT1 hl1 hL1 hf hD
    obtain ⟨r, hrr⟩ : ∃ r, knowsN l net b = r := ⟨_, rfl⟩
    have HK := Lib.hid hrr
    have HK1 := Lib.hid (drop_knows (l := l) (net := net) (b := b))
    have HPL := Lib.hid (show (placeL L (net, b)).2 = r.isSome from by rw [(HT.out.knows b HA.out).2, hrr])
    have HIS := Lib.hid (show (knowsN l net b).isSome = r.isSome by rw [hrr])
    cases r with
    | none =>
      have HT0 := Lib.hid (show Tied (dropN l net b) L by rw [drop_none HK.out]; exact HT.out)
      clear hrr
      go_wp2_with (first
        | (go_at_call 18; refine (get_mem w1 w1.heap.size (w1.heap.size + 1) room l L _ net b _ HM.out HA.out HK.out).mono ?_; rintro e w3 ⟨rfl, hb3⟩; have HM3 := Lib.hid (HM.out.on hb3); obtain ⟨⟨e0, e1⟩, ez⟩ := HDD.out _ _ _ _ HM3.out; clear hb3)
        | (go_at_call 14; refine (all_mem w1 w1.heap.size (w1.heap.size + 1) room l L L _ _ HM3.out HT.out HLL.out).mono ?_; rintro e w4 ⟨v4, rfl, hown4, hb4⟩; obtain ⟨a4, c4, hv4⟩ := own_slice hown4; subst hv4; obtain ⟨S4, hm4, hkeep4⟩ := HM3.out.row hb4 hown4; have HM4 := Lib.hid hm4; have HKP := Lib.hid hkeep4; obtain ⟨⟨g0, g1⟩, gz⟩ := HDD.out _ _ _ _ HM4.out; clear hown4 hb4 hm4 hkeep4)
        | (go_at_call 15; refine (drop_mem w1 w1.heap.size (w1.heap.size + 1) room l L _ net b _ HM4.out HA.out HLl.out).mono ?_; rintro e w5 ⟨rfl, hm5⟩; rw [HIS.out]; have HM5 := Lib.hid hm5; obtain ⟨⟨i0, i1⟩, iz⟩ := HDD.out _ _ _ _ HM5.out; clear hm5)
        | (go_at_call 18; refine (get_mem w1 w1.heap.size (w1.heap.size + 1) room (dropN l net b) L _ net b _ HM5.out HA.out HK1.out).mono ?_; rintro e w6 ⟨rfl, hb6⟩; have HM6 := Lib.hid (HM5.out.on hb6); obtain ⟨⟨j0, j1⟩, jz⟩ := HDD.out _ _ _ _ HM6.out; clear hb6)
        | (go_at_call 11; refine (find_mem w1 w1.heap.size (w1.heap.size + 1) room (dropN l net b) L _ net _ HM6.out HA.out).mono ?_; rintro e w7 ⟨rfl, hb7⟩; rw [HF.out]; have HM7 := Lib.hid ((HM6.out.on hb7).push (.cells #[.int .u32 fnet, .int .i64 fb] 30 (0, 0))); obtain ⟨⟨k0, k1⟩, kz⟩ := HDD.out _ _ _ _ HM7.out; clear hb7)
        | (go_at_call 22; refine (rdrop_mem w1 w1.heap.size (w1.heap.size + 1) room (dropN l net b) L _ net b _ HM7.out HLL.out HPL.out).mono ?_; rintro e w8 ⟨rfl, hm8⟩; have HM8 := Lib.hid hm8; obtain ⟨⟨m0, m1⟩, mz⟩ := HDD.out _ _ _ _ HM8.out; clear hm8)
        | (go_at_call 12; refine (rfind_mem w1 w1.heap.size (w1.heap.size + 1) room (dropN l net b) (dropK L (net, b)) _ net _ HM8.out HT1.out HL1.out HA.out).mono ?_; rintro e w9 ⟨rfl, hb9⟩; rw [HF.out]; have HM9 := Lib.hid (HM8.out.on hb9); obtain ⟨⟨n0, n1⟩, nz⟩ := HDD.out _ _ _ _ HM9.out; have q4 := cells_all (l := [_, _]) (HM9.out.blk List.mem_cons_self); have qz := size_of (HM9.out.blk List.mem_cons_self); simp only [CellsAt, Nat.reduceAdd, and_true] at q4; obtain ⟨q0, q1⟩ := q4; clear hb9)
        | (go_at_call 14; refine (all_mem w1 w1.heap.size (w1.heap.size + 1) room _ (dropK L (net, b)) L _ _ (HM9.out.alloc _) HT0.out HLL.out).mono ?_; rintro e w11 ⟨v11, rfl, hown11, hb11⟩; have HM11 := Lib.hid ((HM9.out.alloc _).on hb11); have HO11 := Lib.hid hown11; clear hb11 hown11)
        | (go_at_call 20; refine (same_rows (L.map pfOf) L.length HLM.out _ _ _ _ _ _ HO11.out (Below.refl _ _) (HKP.out _ (fun p hp => HM11.out.all p (List.mem_cons_of_mem _ hp))) HLL.out).mono ?_; rintro e w12 ⟨rfl, hb12⟩; have HM12 := Lib.hid (HM11.out.on hb12); clear hb12))
      go_ret
      exact ⟨rfl, below_trans HB1.out HM12.out.below⟩
    | some n =>
      have hdl := drop_len HD.out HK.out
      have hlt := HT.out.len
      have hlt1 := HT1.out.len
      have e1 : IntKind.i64.wrap ((L.length : Int) - 1) = (dropK L (net, b)).length := by
        have : ((dropK L (net, b)).length : Int) = L.length - 1 := by omega
        rw [this]
        exact IntWalk.i64_in _ (by omega)
      have HT2 := Lib.hid (HT1.out.putS HA.out room n (b := b))
      have HEQ := Lib.hid (HT.out.again HT2.out (again HD.out HK.out HLR.out))
      have HEQL := Lib.hid (show (putR (dropK L (net, b)) room net b n).length = L.length by
        have h2 : ((putR (dropK L (net, b)) room net b n).map pfOf).length = (L.map pfOf).length := by rw [HEQ.out]
        rw [List.length_map, List.length_map] at h2
        exact h2)
      have HL2 := Lib.hid (show (putR (dropK L (net, b)) room net b n).length ≤ 100000 by rw [HEQL.out]; exact HLL.out)
      clear hrr hdl hlt hlt1
      go_wp2_with (first
        | (go_at_call 18; refine (get_mem w1 w1.heap.size (w1.heap.size + 1) room l L _ net b _ HM.out HA.out HK.out).mono ?_; rintro e w3 ⟨rfl, hb3⟩; have HM3 := Lib.hid (HM.out.on hb3); obtain ⟨⟨e0, e1⟩, ez⟩ := HDD.out _ _ _ _ HM3.out; clear hb3)
        | (go_at_call 14; refine (all_mem w1 w1.heap.size (w1.heap.size + 1) room l L L _ _ HM3.out HT.out HLL.out).mono ?_; rintro e w4 ⟨v4, rfl, hown4, hb4⟩; obtain ⟨a4, c4, hv4⟩ := own_slice hown4; subst hv4; obtain ⟨S4, hm4, hkeep4⟩ := HM3.out.row hb4 hown4; have HM4 := Lib.hid hm4; have HKP := Lib.hid hkeep4; obtain ⟨⟨g0, g1⟩, gz⟩ := HDD.out _ _ _ _ HM4.out; clear hown4 hb4 hm4 hkeep4)
        | (go_at_call 15; refine (drop_mem w1 w1.heap.size (w1.heap.size + 1) room l L _ net b _ HM4.out HA.out HLl.out).mono ?_; rintro e w5 ⟨rfl, hm5⟩; rw [HIS.out]; have HM5 := Lib.hid hm5; obtain ⟨⟨i0, i1⟩, iz⟩ := HDD.out _ _ _ _ HM5.out; clear hm5)
        | (go_at_call 18; refine (get_mem w1 w1.heap.size (w1.heap.size + 1) room (dropN l net b) L _ net b _ HM5.out HA.out HK1.out).mono ?_; rintro e w6 ⟨rfl, hb6⟩; have HM6 := Lib.hid (HM5.out.on hb6); obtain ⟨⟨j0, j1⟩, jz⟩ := HDD.out _ _ _ _ HM6.out; clear hb6)
        | (go_at_call 17; refine (len_mem w1 w1.heap.size (w1.heap.size + 1) room (dropN l net b) L (dropK L (net, b)) _ _ HM6.out HT1.out).mono ?_; rintro e w' ⟨rfl, rfl⟩)
        | (go_at_call 11; refine (find_mem w1 w1.heap.size (w1.heap.size + 1) room (dropN l net b) L _ net _ HM6.out HA.out).mono ?_; rintro e w7 ⟨rfl, hb7⟩; rw [HF.out]; have HM7 := Lib.hid ((HM6.out.on hb7).push (.cells #[.int .u32 fnet, .int .i64 fb] 30 (0, 0))); obtain ⟨⟨k0, k1⟩, kz⟩ := HDD.out _ _ _ _ HM7.out; clear hb7)
        | (go_at_call 22; refine (rdrop_mem w1 w1.heap.size (w1.heap.size + 1) room (dropN l net b) L _ net b _ HM7.out HLL.out HPL.out).mono ?_; rintro e w8 ⟨rfl, hm8⟩; have HM8 := Lib.hid hm8; obtain ⟨⟨m0, m1⟩, mz⟩ := HDD.out _ _ _ _ HM8.out; clear hm8)
        | (go_at_call 12; refine (rfind_mem w1 w1.heap.size (w1.heap.size + 1) room (dropN l net b) (dropK L (net, b)) _ net _ HM8.out HT1.out HL1.out HA.out).mono ?_; rintro e w9 ⟨rfl, hb9⟩; rw [HF.out]; have HM9 := Lib.hid (HM8.out.on hb9); obtain ⟨⟨n0, n1⟩, nz⟩ := HDD.out _ _ _ _ HM9.out; have q4 := cells_all (l := [_, _]) (HM9.out.blk List.mem_cons_self); have qz := size_of (HM9.out.blk List.mem_cons_self); simp only [CellsAt, Nat.reduceAdd, and_true] at q4; obtain ⟨q0, q1⟩ := q4; clear hb9)
        | (go_at_call 13; refine (put_mem w1 w1.heap.size (w1.heap.size + 1) room (dropN l net b) (dropK L (net, b)) _ net b n _ (HM9.out.alloc _) HA.out HLl1.out).mono ?_; rintro e w10 ⟨rfl, hm10⟩; have HM10 := Lib.hid hm10; clear hm10)
        | (go_at_call 14; refine (all_mem w1 w1.heap.size (w1.heap.size + 1) room _ (dropK L (net, b)) (putR (dropK L (net, b)) room net b n) _ _ HM10.out HT2.out HL2.out).mono ?_; rintro e w11 ⟨v11, rfl, hown11, hb11⟩; rw [HEQ.out, HEQL.out] at hown11; have HM11 := Lib.hid (HM10.out.on hb11); have HO11 := Lib.hid hown11; clear hb11 hown11)
        | (go_at_call 20; refine (same_rows (L.map pfOf) L.length HLM.out _ _ _ _ _ _ HO11.out (Below.refl _ _) (HKP.out _ (fun p hp => HM11.out.all p (List.mem_cons_of_mem _ hp))) HLL.out).mono ?_; rintro e w12 ⟨rfl, hb12⟩; have HM12 := Lib.hid (HM11.out.on hb12); clear hb12))
      go_ret
      exact ⟨rfl, below_trans HB1.out HM12.out.below⟩
  · have HX := Lib.hid (show room < 1 ∨ 4096 < room by omega)
    clear hroom
    go_enter Try.func6, Try.ntmps6
    go_wp2_with (first
      | (go_at_call 9; refine (awake_calls _).mono ?_; rintro e w1 ⟨rfl, hb1⟩; have HB1 := Lib.hid (box_trans hb1); clear hb1)
      | (go_at_call 10; refine (made_bad room ad c ss _ HL.out HX.out).mono ?_; rintro e w2 ⟨rfl, rfl⟩))
    go_ret
    exact ⟨rfl, HB1.out⟩
end Go.Proofs.Ytkofjejdgdhapaa
