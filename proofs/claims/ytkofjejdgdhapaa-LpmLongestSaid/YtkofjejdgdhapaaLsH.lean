/- lpm: LpmAll. -/
import Derived.Test.YtkofjejdgdhapaaLsF
namespace Go.Proofs.Ytkofjejdgdhapaa
open Go.RowKit

theorem dropK_head (x : Kn) (L : List Kn) : dropK (x :: L) (x.net, x.b) = L := by
  have h : placeL (x :: L) (x.net, x.b) = (0, true) := by
    have e : cmpK x.key (x.net, x.b) = 0 := by simp [cmpK, Kn.key]
    rw [placeL, e]; rfl
  unfold dropK
  simp [h]
theorem zero_right : rightB 0 0 = true := by simp [rightB]
theorem put_zero {l : Nets} (h : l.length ≤ 150) (n : Int) : putCode l 4096 0 0 = 0 ∧ getM (putN l 4096 0 0 n) (keyP 0 0) = some n := by
  have hm : mayPut l 4096 0 0 = true := by
    unfold mayPut
    rw [zero_right, Bool.true_and, Bool.or_eq_true, decide_eq_true_eq]
    exact .inr (by omega)
  exact ⟨by rw [putCode, zero_right, hm]; rfl, by rw [putN, hm, if_pos rfl, getM_put_self]⟩
theorem find_zero {l : Nets} {a : Nat} {n : Int} (ha : a < 2 ^ 32) (h : getM l (keyP 0 0) = some n) : ∃ k m, k ≤ 32 ∧ findV l a = .tuple #[.agg #[.int .u32 (cutN a k : Nat), .int .i64 (k : Nat)], .int .i64 m, .bool true] ∧ cutN a k < 2 ^ 32 := by
  cases hb : bestTo l a 33 with
  | none =>
    have h1 := bestTo_none_all hb 0 (by omega)
    have h2 : keyP 0 0 = keyK 0 (headN a 0) := by
      unfold keyP headN
      rw [Nat.sub_zero, Nat.div_eq_of_lt ha]
      simp
    rw [← h2, h] at h1
    cases h1
  | some r =>
    obtain ⟨k, m⟩ := r
    obtain ⟨h1, _, _⟩ := bestTo_is' hb
    refine ⟨k, m, by omega, ?_, (cut_right ha (by omega)).2.1⟩
    rw [findV, hb]
    rfl
theorem find_nil (a : Nat) : ∃ (net : Nat) (b n : Int), findV [] a = .tuple #[.agg #[.int .u32 net, .int .i64 b], .int .i64 n, .bool false] := by
  have h : ∀ i, bestTo [] a i = none := by
    intro i
    induction i with
    | zero => rfl
    | succ i ih => rw [bestTo_none (by rfl), ih]
  rw [findV, h]
  exact ⟨0, 0, 0, rfl⟩
/-- A fresh row, kept beside, with what was kept. -/
theorem MemAt.row' {w0 W W' : World} {tb rb : Nat} {room : Int} {l : Nets} {L : List Kn} {S : Blks} {e size n : Nat} {v : Value} {xs : List Value} (h : MemAt w0 W tb rb room l L S) (hb : Below W.heap.size W W') (ho : W'.ownsRow W.heap.size e size v n xs) :
    ∃ S', (∀ p ∈ S, p ∈ S') ∧ MemAt w0 W' tb rb room l L S' ∧ ∀ X : World, (∀ p ∈ S', X.heap[p.1]? = some p.2) → X.ownsRow W.heap.size e size v n xs := by
  have h' := h.on hb
  cases hv : v.ownBlock with
  | none => exact ⟨S, fun _ h => h, h', fun X _ => owns_block ho (fun g hg => by rw [hv] at hg; cases hg)⟩
  | some g =>
    obtain ⟨cur, t, fr, hc⟩ := own_isCells ho g hv
    have hg := (ho.lt g hv).1
    refine ⟨(g, .cells cur t fr) :: S, fun _ h => List.mem_cons_of_mem _ h, ?_, fun X hX => owns_block ho (fun g' hg' => by
      rw [hv] at hg'
      obtain rfl := Option.some.inj hg'
      rw [hX _ List.mem_cons_self, hc])⟩
    obtain ⟨nd, u, h1, h2, h3, h4, h5⟩ := h
    refine ⟨nd, u, h1.trans (hb.mono h1.size), h2.of_same hb, h3.on hb, h4, fun p hp => ?_⟩
    rcases List.mem_cons.1 hp with rfl | hp
    · exact ⟨hc, fun k x e => by have := h2.lt_of e; simp only at this; omega, fun e => by have := size_of h3.blk; simp only at e; omega, fun e => by have := (h3.own.lt _ e).2; simp only at this; omega⟩
    · exact ⟨blk_below' hb (h5 p hp).1, (h5 p hp).2⟩
def DropI (w1 : World) (L0 : List Kn) (S : Blks) (L : List Kn) (j : Nat) (wr : World) : Prop := ∃ l, MemAt w1 wr w1.heap.size (w1.heap.size + 1) 4096 l L0 S ∧ Tied l (L.drop j)
theorem DropI.next {l : Nets} {L : List Kn} {j : Nat} {x : Kn} (ht : Tied l (L.drop j)) (hd : (l.map (·.1)).Nodup) (hx : L[j]? = some x) (hn : x.net < 2 ^ 32) : Tied (dropN l x.net x.b) (L.drop (j + 1)) := by
  have h := ht.dropS hd hn (b := x.b)
  obtain ⟨hj, e⟩ := List.getElem?_eq_some_iff.1 hx
  rw [List.drop_eq_getElem_cons hj, e, dropK_head] at h
  exact h
theorem tied_nil_len {l : Nets} {L : List Kn} (h : Tied l (L.drop L.length)) : l = [] := by
  have := h.len
  rw [List.drop_length] at this
  exact List.length_eq_zero_iff.1 this

set_option maxRecDepth 100000 in
set_option maxHeartbeats 4000000 in
theorem lall_law (ad : Option Addr) (c : Nat) (ss : List Stp) (ai : Int) (w : World) (hr : RowAt rStp w ad ss) (hlen : ss.length ≤ maxLen) (ha : (Lit.int .u32 ai).wf = true) :
    Calls Try.prog 4 #[.slice ad ss.length c, .int .u32 ai] w fun e w' => e = .returned (.bool true) ∧ Below w.heap.size w w' := by
  obtain ⟨h0, h1⟩ := wf_u32 ha
  obtain ⟨a, rfl⟩ := Int.eq_ofNat_of_zero_le h0
  have HA := Lib.hid (show a < 2 ^ 32 by omega)
  have HR := Lib.hid hr
  have HL := Lib.hid hlen
  clear hr hlen ha h0 h1
  go_enter Try.func4, Try.ntmps4
  go_wp2_with ((go_at_call 9; refine (awake_calls _).mono ?_; rintro e w1 ⟨rfl, hb1⟩; have HB1 := Lib.hid hb1; clear hb1))
  refine (made_ok 4096 ad c ss _ (HR.out.mono (CK.of_below HB1.out)) HL.out (by omega) (by omega)).mono ?_
  rintro e w2 ⟨rfl, hm2⟩
  obtain ⟨l, L', hm, ht, hll, hlr⟩ := hm2
  obtain ⟨hpc, hg0⟩ := put_zero hll 5
  obtain ⟨k, m, hk, hf, hcut⟩ := find_zero HA.out hg0
  have ht2 := ht.putS (net := 0) (b := 0) (by decide) 4096 5
  have hl2 := putN_len l 4096 0 0 5
  have hl3 := ht2.len
  have HM := Lib.hid hm
  have HPC := Lib.hid hpc
  have HF := Lib.hid hf
  have HC := Lib.hid hcut
  have HIN := Lib.hid (inB_cut HA.out hk)
  have HLl := Lib.hid (show l.length ≤ 100000 by omega)
  obtain ⟨l2, hl2e⟩ : ∃ l2, putN l 4096 0 0 5 = l2 := ⟨_, rfl⟩
  obtain ⟨L, hLe⟩ : ∃ L, putR L' 4096 0 0 5 = L := ⟨_, rfl⟩
  rw [hl2e, hLe] at ht2
  rw [hl2e] at hl2 hl3
  rw [hLe] at hl3
  rw [hl2e] at hf
  have HF := Lib.hid hf
  have HE := Lib.hid hl2e
  have HT := Lib.hid ht2
  have hLn : L.length ≤ 100000 := by omega
  have HLL := Lib.hid hLn
  have HLM := Lib.hid (show (L.map pfOf).length = L.length from List.length_map _)
  clear hm ht hll hlr hpc hg0 hf hcut ht2 hl2 hl3 hl2e hLe hk
  go_wp2_with (first
    | (go_at_call 13; refine (put_mem w1 w1.heap.size (w1.heap.size + 1) 4096 l L' _ 0 0 5 _ HM.out (by decide) HLl.out).mono ?_; rintro e w3 ⟨rfl, hm3⟩; rw [HPC.out]; rw [HE.out] at hm3; have HM3 := Lib.hid hm3; clear hm3)
    | (go_at_call 11; refine (find_mem w1 w1.heap.size (w1.heap.size + 1) 4096 l2 L' _ a _ HM3.out HA.out).mono ?_; rintro e w4 ⟨rfl, hb4⟩; rw [HF.out]; have HM4 := Lib.hid ((HM3.out.on hb4).push (.cells #[.int .u32 (cutN a k : Nat), .int .i64 (k : Nat)] 30 (0, 0))); clear hb4)
    | (go_at_call 14; refine (all_mem w1 w1.heap.size (w1.heap.size + 1) 4096 l2 L' L _ _ HM4.out HT.out HLL.out).mono ?_; rintro e w5 ⟨v5, rfl, hown5, hb5⟩; obtain ⟨a5, c5, hv5⟩ := own_slice hown5; subst hv5; obtain ⟨S5, hsub, hm5, hkeep5⟩ := HM4.out.row' hb5 hown5; have HM5 := Lib.hid hm5; have HKP := Lib.hid hkeep5; have HSUB := Lib.hid hsub; clear hown5 hb5 hm5 hkeep5 hsub))
  go_loopg [14] (L.length + 1) (fun g i wr => ∃ j : Nat, j ≤ L.length ∧ g + j = L.length + 1 ∧ i = .int .i64 j ∧ Hid (DropI w1 L' S5 L j wr))
  case atStart => exact ⟨0, Nat.zero_le _, rfl, rfl, Lib.hid ⟨l2, HM5.out, by rw [List.drop_zero]; exact HT.out⟩⟩
  case round =>
    obtain ⟨j, hj, hg, rfl, HI⟩ := hrel
    obtain ⟨lj, hmj, htj⟩ := HI.out
    have hlenj := htj.len
    rw [List.length_drop] at hlenj
    have HMj := Lib.hid hmj
    have HTj := Lib.hid htj
    by_cases hlt : j < L.length
    · have ej : IntKind.i64.wrap ((j : Int) + 1) = (j : Int) + 1 := IntWalk.i64_in _ (by omega)
      have HLj := Lib.hid (show lj.length ≤ 100000 by omega)
      have hrow := pf_row' HLM.out (HKP.out _ HMj.out.all)
      have hx? : (L.map pfOf)[j]? = some (pfOf L[j]) := by rw [List.getElem?_map, List.getElem?_eq_getElem hlt]; rfl
      generalize pfOf L[j] = x at hx?
      obtain ⟨xn, xk⟩ := x
      obtain ⟨x, g1, g2, g3, _, g5⟩ := pf_right HT.out hx?
      obtain ⟨bk, off, cs, rfl, hc, hR⟩ := hrow.get hx?
      obtain ⟨⟨x0, x1⟩, bl⟩ := pf_cells hc hR (CK.of_below (Below.refl wr.heap.size wr))
      have HN := Lib.hid (show xn < 2 ^ 32 by rw [← g2]; exact g5)
      have HNX := Lib.hid (show Tied (dropN lj xn (xk : Int)) (L.drop (j + 1)) by rw [← g2, ← g3]; exact DropI.next HTj.out HMj.out.nodup g1 g5)
      clear hmj htj hlenj hrow hx? g1 g2 g3 g5 hc hR
      go_wp2_with ((go_at_call 15; refine (drop_mem w1 w1.heap.size (w1.heap.size + 1) 4096 lj L' _ xn (xk : Int) _ HMj.out HN.out HLj.out).mono ?_; rintro e w6 ⟨rfl, hm6⟩; have HM6 := Lib.hid hm6; clear hm6))
      go_roundg (L.length - j)
      case measure => omega
      case rel => exact ⟨j + 1, by omega, by omega, by go_num, Lib.hid ⟨_, HM6.out, HNX.out⟩⟩
    · have hlt3 : ¬ (j : Int) < L.length := by omega
      obtain rfl : j = L.length := by omega
      obtain rfl := tied_nil_len HTj.out
      obtain ⟨fn, fb, fm, hfn⟩ := find_nil a
      have HFN := Lib.hid hfn
      have hblk := HMj.out.blk (HSUB.out _ List.mem_cons_self)
      have q := cells_all (l := [_, _]) hblk
      have qz := size_of hblk
      simp only [CellsAt, Nat.reduceAdd, and_true] at q
      obtain ⟨q0, q1⟩ := q
      have HBK := Lib.hid hblk
      clear hmj htj hlenj hfn hblk
      go_wp2_with (first
        | (go_at_call 11; refine (find_mem w1 w1.heap.size (w1.heap.size + 1) 4096 [] L' _ a _ HMj.out HA.out).mono ?_; rintro e w7 ⟨rfl, hb7⟩; rw [HFN.out]; have HM7 := Lib.hid (HMj.out.on hb7); have hbk7 := blk_below' hb7 HBK.out; have s := cells_all (l := [_, _]) hbk7; have sz := size_of hbk7; simp only [CellsAt, Nat.reduceAdd, and_true] at s; obtain ⟨s0, s1⟩ := s; clear hb7 hbk7)
        | (go_at_call 16; refine (in_calls (cutN a k) (k : Nat) a _ HC.out HA.out).mono ?_; rintro e w8 ⟨rfl, hb8⟩; rw [HIN.out]; have HM8 := Lib.hid ((HM7.out.alloc _).on hb8); clear hb8)
        | (go_at_call 17; refine (len_mem w1 w1.heap.size (w1.heap.size + 1) 4096 [] L' [] _ _ HM8.out tied_nil).mono ?_; rintro e w' ⟨rfl, rfl⟩))
      go_ret
      exact ⟨rfl, below_trans HB1.out HM8.out.below⟩
end Go.Proofs.Ytkofjejdgdhapaa
