/- lpm: awake; LpmFinds. -/
import Derived.Test.YtkofjejdgdhapaaLqM
namespace Go.Proofs.Ytkofjejdgdhapaa
open Go.RowKit

def TabAt (w0 w : World) (tb : Nat) (room : Int) (l : Nets) : Prop := ∃ nd, Below w0.heap.size w0 w ∧ TreeAt w tb nd l room l.length ∧ ∀ k x b, nd k x = some b → w0.heap.size ≤ b
theorem TabAt.below {w0 w : World} {tb : Nat} {room : Int} {l : Nets} (h : TabAt w0 w tb room l) : Below w0.heap.size w0 w := by obtain ⟨nd, h1, _⟩ := h; exact h1
theorem TabAt.on {w0 w w' : World} {tb : Nat} {room : Int} {l : Nets} (h : TabAt w0 w tb room l) (hb : Below w.heap.size w w') : TabAt w0 w' tb room l := by
  obtain ⟨nd, h1, h2, h3⟩ := h
  exact ⟨nd, h1.trans (hb.mono h1.size), h2.of_same hb, h3⟩
theorem tab_new (w : World) (room : Int) : TabAt w (w.alloc (newTable room)) w.heap.size room [] :=
  ⟨nd0 w.heap.size, (Below.refl _ _).alloc (Nat.le_refl _) _, tree_new w room, fun k x b hb => by
    unfold nd0 at hb
    split at hb
    · have := Option.some.inj hb; omega
    · cases hb⟩
theorem put_tab (w0 : World) (tb : Nat) (room : Int) (l : Nets) (net : Nat) (b n : Int) (w : World) (h : TabAt w0 w tb room l) (hn : net < 2 ^ 32) (hl : l.length ≤ 100000) :
    Calls Try.prog 13 #[.pointer (some ⟨tb, 0, none⟩), .agg #[.int .u32 net, .int .i64 b], .int .i64 n] w fun e w' => e = .returned (.int .i64 (putCode l room net b)) ∧ TabAt w0 w' tb room (putN l room net b n) := by
  have h' := h
  obtain ⟨nd, h1, h2, h3⟩ := h
  refine (put_calls tb nd l room net b n w h2 hn hl).mono fun e w2 hq => ?_
  rcases hq with ⟨g1, g2, g3⟩ | ⟨g1, g2, g3, g4, g5⟩ | ⟨g1, g2, g3, nd', g4, g5⟩
  · exact ⟨by rw [g2, putCode, g1]; rfl, by rw [putN, mayPut, g1]; exact h'.on g3⟩
  · have hm : mayPut l room net b = false := by rw [mayPut, g1, g2]; simp; omega
    exact ⟨by rw [g4, putCode, g1, hm]; rfl, by rw [putN, hm]; exact h'.on g5⟩
  · have hm : mayPut l room net b = true := by
      rw [mayPut, g1]
      rcases g2 with g2 | g2
      · rw [g2]; rfl
      · simp [g2]
    refine ⟨by rw [g3, putCode, g1, hm]; rfl, by
      rw [putN, hm]
      refine ⟨nd', ?_, g4, fun k x b hb => ?_⟩
      · exact ⟨g5.os.trans h1.os, g5.tape.trans h1.tape, g5.output.trans h1.output, Nat.le_trans h1.size g5.size, fun b hb => (g5.block b (Nat.lt_of_lt_of_le hb h1.size) (fun k x e => by have := h3 k x b e; omega)).trans (h1.block b hb)⟩
      · rcases g5.fresh _ _ _ hb with e | e
        · exact h3 _ _ _ e
        · exact Nat.le_trans h1.size e⟩
theorem find_tab (w0 : World) (tb : Nat) (room : Int) (l : Nets) (a : Nat) (w : World) (h : TabAt w0 w tb room l) (ha : a < 2 ^ 32) :
    Calls Try.prog 11 #[.pointer (some ⟨tb, 0, none⟩), .int .u32 a] w fun e w' => e = .returned (findV l a) ∧ TabAt w0 w' tb room l := by
  have h' := h
  obtain ⟨nd, h1, h2, h3⟩ := h
  exact (find_calls tb nd l room _ a w h2 ha).mono fun e w2 hq => ⟨hq.1, h'.on hq.2⟩
theorem len_tab (w0 : World) (tb : Nat) (room : Int) (l : Nets) (w : World) (h : TabAt w0 w tb room l) {n : Int} (hn : (l.length : Int) = n) :
    Calls Try.prog 17 #[.pointer (some ⟨tb, 0, none⟩)] w fun e w' => e = .returned (.int .i64 n) ∧ w = w' := by
  obtain ⟨nd, h1, h2, h3⟩ := h
  rw [← hn]
  exact len_calls tb nd l room _ w h2

set_option maxRecDepth 100000 in
set_option maxHeartbeats 1000000 in
theorem awake_calls (w : World) : Calls Try.prog 9 #[] w fun e w' => e = .returned (.bool true) ∧ Below w.heap.size w w' := by
  have H1 := Lib.hid awake_nets.2
  have H2 := Lib.hid awake_nets2
  have H3 := Lib.hid awake_find
  go_enter Try.func9, Try.ntmps9
  go_wp2_with ((go_at_call 25; refine (new_calls 5 _ (by omega) (by omega)).mono ?_; rintro e w1 ⟨rfl, rfl⟩))
  refine (put_tab w w.heap.size 5 [] 167772160 8 1 _ (tab_new w 5) (by decide) (Nat.zero_le _)).mono ?_
  rintro e w1 ⟨rfl, h1⟩
  rw [H1.out] at h1
  have HA := Lib.hid h1
  clear h1
  go_wp2_with (fail)
  refine (put_tab w w.heap.size 5 _ 167837696 16 2 _ HA.out (by decide) (by decide)).mono ?_
  rintro e w2 ⟨rfl, h2⟩
  rw [H2.out] at h2
  have HB := Lib.hid h2
  clear h2
  go_wp2_with (first
    | (go_at_call 11; refine (find_tab w w.heap.size 5 _ 167837701 _ HB.out (by decide)).mono ?_; rintro e w3 ⟨rfl, h3⟩; rw [H3.out]; have HC := Lib.hid h3; clear h3)
    | (go_at_call 17; refine (len_tab w w.heap.size 5 _ _ (HC.out.on ((Below.refl _ _).alloc (Nat.le_refl _) _)) (n := 2) rfl).mono ?_; rintro e w4 ⟨rfl, rfl⟩))
  go_ret
  exact ⟨rfl, (HC.out.on ((Below.refl _ _).alloc (Nat.le_refl _) _)).below⟩

theorem findV_form (l : Nets) (a : Nat) : ∃ (net : Nat) (b n : Int) (is : Bool), findV l a = .tuple #[.agg #[.int .u32 net, .int .i64 b], .int .i64 n, .bool is] := by
  unfold findV
  cases bestTo l a 33 with
  | none => exact ⟨0, 0, 0, false, rfl⟩
  | some r => exact ⟨_, _, _, true, rfl⟩
theorem Made.below {w0 w : World} {room : Int} (h : Made w0 room w) : Below w0.heap.size w0 w := by
  obtain ⟨l, L, hm, _⟩ := h; exact hm.below
theorem below_trans {w0 w1 w2 : World} (h : Below w0.heap.size w0 w1) (k : Below w1.heap.size w1 w2) : Below w0.heap.size w0 w2 := h.trans (k.mono h.size)

set_option maxRecDepth 100000 in
set_option maxHeartbeats 1000000 in
theorem finds_law (room : Int) (ad : Option Addr) (c : Nat) (ss : List Stp) (ai : Int) (w : World) (hr : RowAt rStp w ad ss) (hlen : ss.length ≤ maxLen) (ha : (Lit.int .u32 ai).wf = true) :
    Calls Try.prog 3 #[.int .i64 room, .slice ad ss.length c, .int .u32 ai] w fun e w' => e = .returned (.bool true) ∧ Below w.heap.size w w' := by
  obtain ⟨h0, h1⟩ := wf_u32 ha
  obtain ⟨a, rfl⟩ := Int.eq_ofNat_of_zero_le h0
  have HA := Lib.hid (show a < 2 ^ 32 by omega)
  have HR := Lib.hid hr
  have HL := Lib.hid hlen
  clear hr hlen ha h0 h1
  by_cases hroom : 1 ≤ room ∧ room ≤ 4096
  · obtain ⟨hr1, hr2⟩ := hroom
    go_enter Try.func3, Try.ntmps3
    go_wp2_with ((go_at_call 9; refine (awake_calls _).mono ?_; rintro e w1 ⟨rfl, hb1⟩; have HB1 := Lib.hid hb1; clear hb1))
    refine (made_ok room ad c ss _ (HR.out.mono (CK.of_below HB1.out)) HL.out hr1 hr2).mono ?_
    rintro e w2 ⟨rfl, hm2⟩
    obtain ⟨l, L, hm, ht, hll⟩ := hm2
    have HM := Lib.hid hm
    have HT := Lib.hid ht
    have hlen := ht.len
    have HLL := Lib.hid (show L.length ≤ 100000 by omega)
    obtain ⟨net, b, n, is, hf⟩ := findV_form l a
    have HF := Lib.hid hf
    clear hm ht hll hf hlen
    go_wp2_with (first
      | (go_at_call 11; refine (find_mem w1 w1.heap.size (w1.heap.size + 1) room l L _ a _ HM.out HA.out).mono ?_; rintro e w3 ⟨rfl, hb3⟩; rw [HF.out]; have HM3 := Lib.hid ((HM.out.on hb3).push (.cells #[.int .u32 net, .int .i64 b] 30 (0, 0))); clear hb3)
      | (go_at_call 12; refine (rfind_mem w1 w1.heap.size (w1.heap.size + 1) room l L _ a _ HM3.out HT.out HLL.out HA.out).mono ?_; rintro e w4 ⟨rfl, hb4⟩; rw [HF.out]; have HM4 := Lib.hid (HM3.out.on hb4); have k4 := cells_all (l := [_, _]) (HM4.out.blk List.mem_cons_self); have z4 := size_of (HM4.out.blk List.mem_cons_self); simp only [CellsAt, Nat.reduceAdd, and_true] at k4; obtain ⟨d0, d1⟩ := k4; clear hb4))
    go_ret
    exact ⟨rfl, below_trans HB1.out (HM4.out.alloc _).below⟩
  · have HX := Lib.hid (show room < 1 ∨ 4096 < room by omega)
    clear hroom
    go_enter Try.func3, Try.ntmps3
    go_wp2_with (first
      | (go_at_call 9; refine (awake_calls _).mono ?_; rintro e w1 ⟨rfl, hb1⟩; have HB1 := Lib.hid hb1; clear hb1)
      | (go_at_call 10; refine (made_bad room ad c ss _ HL.out HX.out).mono ?_; rintro e w2 ⟨rfl, rfl⟩))
    go_ret
    exact ⟨rfl, HB1.out⟩
end Go.Proofs.Ytkofjejdgdhapaa
