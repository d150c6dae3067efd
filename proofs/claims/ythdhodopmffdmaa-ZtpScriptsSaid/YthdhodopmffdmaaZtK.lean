/- ZtpFixed: what is told stays. -/
import Derived.Test.YthdhodopmffdmaaZtI
import Derived.StillTailTactics
import Derived.Test.YthdhodopmffdmaaRowC
namespace Go.Proofs.Ythdhodopmffdmaa
open Go.RowKit

def SameK (z z' : Zs) : Prop := z'.fixed = z.fixed ∧ z'.leaf = z.leaf ∧ z'.top = z.top
theorem SameK.refl (z : Zs) : SameK z z := ⟨rfl, rfl, rfl⟩
theorem sameK_tick (z z1 : Zs) (m : Offs) (now : Int) (h : SameK z z1) : SameK z (tickS z1 m now).1 := by
  obtain ⟨h1, h2, h3⟩ := h
  unfold tickS tickZ
  refine ⟨?_, ?_, ?_⟩ <;> (dsimp only; (repeat' split) <;> assumption)
theorem told_same_k {z z' : Zs} (h : SameK z z') : toldB z' = toldB z := by
  obtain ⟨h1, h2, h3⟩ := h
  simp [toldB, h1, h2, h3]
theorem told_level {z z' : Zs} (ht : toldB z = true) (h : SameK z z') : levelI z' = levelI z := by
  obtain ⟨h1, h2, h3⟩ := h
  simp only [toldB, Bool.or_eq_true, decide_eq_true_eq] at ht
  unfold levelI
  rw [h1, h2, h3]
  rcases ht with ht | ht | ht
  · simp [ht]
  · simp [ht]
  · simp [ht]
theorem told_quiet0 {z z' : Zs} (ht : toldB z = true) (h : SameK z z') (m : Offs) (link : Int) : quietB z' m link = false := by
  unfold quietB
  rw [told_same_k h, ht]
  cases getM m link <;> rfl
theorem row_cells {w w' : World} {b off : Nat} {s : Stp} (h : CellsOff w b off 0 s.cells) (hb : Below w.heap.size w w') :
    w'.cell? ⟨b, off, none⟩ = some (.int .i64 s.do_) ∧ w'.cell? ⟨b, off + 1, none⟩ = some (.int .i64 s.link) ∧ w'.cell? ⟨b, off + 2, none⟩ = some (.int .i64 s.level) ∧ w'.cell? ⟨b, off + 3, none⟩ = some (.int .i64 s.now) ∧ w'.cell? ⟨b, off + 4, none⟩ = some (.bool s.none_) := by
  have hc := h.mono (CK.of_below hb)
  simp only [CellsOff, Stp.cells, Nat.reduceAdd, Nat.add_zero, and_true] at hc
  exact hc
theorem below_box {w wa : World} {o : Obj} (h : Below (w.alloc o).heap.size (w.alloc o) wa) : Below w.heap.size w wa ∧ wa.heap[w.heap.size]? = some o :=
  ⟨((Below.refl _ _).alloc (Nat.le_refl _) _).trans (h.mono (by rw [World.size_alloc]; omega)), blk_below' h (blk_new _ _)⟩
theorem new_fx (w0 w : World) (hb : Below w0.heap.size w0 w) (fixed : Int) (leaf top : Bool) (hok : newOk fixed leaf top = true) : Calls Try.prog 10 #[.int .i64 fixed, .bool leaf, .bool top] w fun e w' => ∃ zb mb, e = .returned (.tuple #[.pointer (some ⟨zb, 0, none⟩), .int .i64 0]) ∧ ZS w0 zb mb ⟨fixed, leaf, top, 0, false, 0⟩ [] w' ∧ Below w.heap.size w w' :=
  (new_calls fixed leaf top w).mono fun e w' hp => by
    rcases hp with ⟨h1, h2, h3⟩ | ⟨h1, h2, h3⟩
    · exact ⟨_, _, h2, by rw [h3]; exact zs_new hb _, by rw [h3]; exact ((Below.refl _ _).alloc (Nat.le_refl _) _).alloc (by rw [World.size_alloc]; omega) _⟩
    · rw [hok] at h1; cases h1
theorem new_no (w : World) (fixed : Int) (leaf top : Bool) (hok : newOk fixed leaf top = false) : Calls Try.prog 10 #[.int .i64 fixed, .bool leaf, .bool top] w fun e w' => e = .returned (.tuple #[.pointer none, .int .i64 1]) ∧ w' = w :=
  (new_calls fixed leaf top w).mono fun e w' hp => by
    rcases hp with ⟨h1, h2, h3⟩ | ⟨h1, h2, h3⟩
    · rw [hok] at h1; cases h1
    · exact ⟨h2, h3⟩
def FxInv (w0 : World) (zb mb : Nat) (z : Zs) (wr : World) : Prop := ∃ z' m, ZS w0 zb mb z' m wr ∧ SameK z z'

set_option maxRecDepth 100000 in
set_option maxHeartbeats 1000000 in
theorem fixed_no (fixed : Int) (f0 f1 : Bool) (a : Option Addr) (c : Nat) (l : List Stp) (w : World) (hok : newOk fixed f0 f1 = false) :
    Calls Try.prog 5 #[.int .i64 fixed, .agg #[.bool f0, .bool f1], .slice a l.length c] w fun e w' => e = .returned (.bool true) ∧ Below w.heap.size w w' := by
  have HK := Lib.hid hok
  clear hok
  go_enter Try.func5, Try.ntmps5
  go_wp2_with (first
    | (go_at_call 9; refine (awake_calls _).mono ?_; rintro e wa ⟨rfl, ha⟩; obtain ⟨kb, kf⟩ := below_box ha; have kc := cells_all kf; simp only [CellsAt, Nat.reduceAdd, and_true] at kc; obtain ⟨g0, g1⟩ := kc; have fl := size_of kf; have HA := Lib.hid kb; clear ha kb kf)
    | (go_at_call 10; refine (new_no _ _ _ _ HK.out).mono ?_; rintro e w1 ⟨rfl, rfl⟩))
  go_ret
  exact ⟨rfl, HA.out⟩
set_option maxRecDepth 100000 in
set_option maxHeartbeats 1000000 in
theorem fixed_own (fixed : Int) (a : Option Addr) (c : Nat) (l : List Stp) (w : World) (hok : newOk fixed false false = true) (hf : fixed < 0) :
    Calls Try.prog 5 #[.int .i64 fixed, .agg #[.bool false, .bool false], .slice a l.length c] w fun e w' => e = .returned (.bool true) ∧ Below w.heap.size w w' := by
  have HK := Lib.hid hok
  have bf : decide (fixed < 0) = true := decide_eq_true hf
  clear hok
  go_enter Try.func5, Try.ntmps5
  go_wp2_with (first
    | (go_at_call 9; refine (awake_calls _).mono ?_; rintro e wa ⟨rfl, ha⟩; obtain ⟨kb, kf⟩ := below_box ha; have kc := cells_all kf; simp only [CellsAt, Nat.reduceAdd, and_true] at kc; obtain ⟨g0, g1⟩ := kc; have fl := size_of kf; have HA := Lib.hid kb; have HF := Lib.hid kf; clear ha kb kf)
    | (go_at_call 10; refine (new_fx w _ HA.out _ _ _ HK.out).mono ?_; rintro e w1 ⟨zb, mb, rfl, h1, h2⟩; have kf := blk_below' h2 HF.out; have kc := cells_all kf; simp only [CellsAt, Nat.reduceAdd, and_true] at kc; obtain ⟨g0, g1⟩ := kc; have fl := size_of kf; have H1 := Lib.hid h1; clear h1 h2 kf))
  go_ret
  exact ⟨rfl, H1.out.below⟩
set_option maxRecDepth 100000 in
set_option maxHeartbeats 1000000 in
theorem fixed_set (fixed : Int) (a : Option Addr) (c : Nat) (l : List Stp) (w : World) (hr : RowAt rStp w a l) (hmax : l.length ≤ maxLen) (hok : newOk fixed false false = true) (hf : 0 ≤ fixed) :
    Calls Try.prog 5 #[.int .i64 fixed, .agg #[.bool false, .bool false], .slice a l.length c] w fun e w' => e = .returned (.bool true) ∧ Below w.heap.size w w' := by
  have HR := Lib.hid hr
  clear hr
  unfold maxLen at hmax
  have HK := Lib.hid hok
  have bf : decide (fixed < 0) = false := decide_eq_false (by omega)
  have HT : Hid (toldB ⟨fixed, false, false, 0, false, 0⟩ = true) := Lib.hid (by simp [toldB, hf])
  have HW : Hid (levelI ⟨fixed, false, false, 0, false, 0⟩ = fixed) := Lib.hid (by simp [levelI, hf])
  clear hok
  go_enter Try.func5, Try.ntmps5
  go_wp2_with (first
    | (go_at_call 9; refine (awake_calls _).mono ?_; rintro e wa ⟨rfl, ha⟩; obtain ⟨kb, kf⟩ := below_box ha; have kc := cells_all kf; simp only [CellsAt, Nat.reduceAdd, and_true] at kc; obtain ⟨g0, g1⟩ := kc; have fl := size_of kf; have HA := Lib.hid kb; have HF := Lib.hid kf; clear ha kb kf)
    | (go_at_call 10; refine (new_fx w _ HA.out _ _ _ HK.out).mono ?_; rintro e w1 ⟨zb, mb, rfl, h1, h2⟩; have kf := blk_below' h2 HF.out; have kc := cells_all kf; simp only [CellsAt, Nat.reduceAdd, and_true] at kc; obtain ⟨g0, g1⟩ := kc; have fl := size_of kf; have H1 : Hid (FxInv w zb mb ⟨fixed, false, false, 0, false, 0⟩ w1) := ⟨_, _, h1, SameK.refl _⟩; clear h1 h2 kf))
  go_loopg [11] (l.length + 1) (fun g k wr => ∃ i : Nat, i ≤ l.length ∧ g + i = l.length + 1 ∧ k = .int .i64 i ∧ Hid (FxInv w zb mb ⟨fixed, false, false, 0, false, 0⟩ wr))
  case atStart => exact ⟨0, Nat.zero_le _, rfl, rfl, H1⟩
  case round =>
    clear H1
    obtain ⟨i, hil, hg, rfl, HI⟩ := hrel
    obtain ⟨z', m, hz, hs⟩ := HI.out
    have HZ := Lib.hid hz
    have HS := Lib.hid hs
    clear hz hs HI
    by_cases hlt : i < l.length
    · have e1 : IntKind.i64.wrap ((i : Int) + 1) = (i : Int) + 1 := IntWalk.i64_in _ (by omega)
      obtain ⟨b, off, cs, rfl, hc, hR⟩ := HR.out.get (List.getElem?_eq_getElem hlt)
      generalize l[i] = t at hR
      obtain rfl := rStp_out hR
      change CellsOff w b (off + i * 5) 0 t.cells at hc
      have HC := Lib.hid hc
      clear hR hc
      obtain ⟨c0, c1, c2, c3, c4⟩ := row_cells HC.out HZ.out.below
      by_cases h150 : (i : Int) < 100
      · have b150 : decide ((i : Int) < 100) = true := decide_eq_true h150
        by_cases hd : t.do_ = 0
        · have bd : (t.do_ == 0) = true := by simpa using hd
          go_wp2_with (fail)
          go_still_tail 21, (by kernel_rfl)
          go_wp2_with (first
            | (go_at_call 12; refine (offer_zs (w := wr.drew) (HZ.out.on (Below.refl _ _).drew) _ _ _ _).mono ?_; rintro e w2 ⟨rfl, h2⟩; obtain ⟨d0, d1, d2, d3, d4⟩ := row_cells HC.out h2.below; have HX := Lib.hid h2; have HS2 := HS; clear h2 HS)
            | (go_at_call 16; refine (level_zs HX.out).mono ?_; rintro e w2 ⟨rfl, h2⟩; rw [(told_level HT.out HS2.out).trans HW.out]; obtain ⟨d0, d1, d2, d3, d4⟩ := row_cells HC.out h2.below; have HY := Lib.hid h2; clear h2)
            | (go_at_call 20; refine (quiet_zs HY.out _).mono ?_; rintro e w2 ⟨rfl, h2⟩; rw [told_quiet0 HT.out HS2.out]; have HZ2 := Lib.hid h2; clear h2))
          go_roundg (l.length - i)
          case measure => omega
          case rel => exact ⟨i + 1, by omega, by omega, by go_num, Lib.hid ⟨_, _, HZ2.out, HS2.out⟩⟩
        · have bd : (t.do_ == 0) = false := by simpa using hd
          go_wp2_with (first
            | (go_at_call 14; refine (tick_zs HZ.out _).mono ?_; rintro e w2 ⟨rfl, h2⟩; obtain ⟨d0, d1, d2, d3, d4⟩ := row_cells HC.out h2.below; have HX := Lib.hid h2; have HS2 := Lib.hid (sameK_tick _ _ m t.now HS.out); clear h2 HS)
            | (go_at_call 16; refine (level_zs HX.out).mono ?_; rintro e w2 ⟨rfl, h2⟩; rw [(told_level HT.out HS2.out).trans HW.out]; obtain ⟨d0, d1, d2, d3, d4⟩ := row_cells HC.out h2.below; have HY := Lib.hid h2; clear h2)
            | (go_at_call 20; refine (quiet_zs HY.out _).mono ?_; rintro e w2 ⟨rfl, h2⟩; rw [told_quiet0 HT.out HS2.out]; have HZ2 := Lib.hid h2; clear h2))
          go_roundg (l.length - i)
          case measure => omega
          case rel => exact ⟨i + 1, by omega, by omega, by go_num, Lib.hid ⟨_, _, HZ2.out, HS2.out⟩⟩
      · have b150 : decide ((i : Int) < 100) = false := decide_eq_false h150
        go_wp2
        go_ret
        exact ⟨rfl, HZ.out.below⟩
    · have hlt' : ¬ (i : Int) < l.length := by omega
      have bl : decide ((i : Int) < l.length) = false := decide_eq_false hlt'
      go_wp2
      go_ret
      exact ⟨rfl, HZ.out.below⟩
set_option maxRecDepth 100000 in
set_option maxHeartbeats 1000000 in
theorem fixed_leaf (fixed : Int) (a : Option Addr) (c : Nat) (l : List Stp) (w : World) (hr : RowAt rStp w a l) (hmax : l.length ≤ maxLen) (hok : newOk fixed true false = true) (hf : fixed < 0) :
    Calls Try.prog 5 #[.int .i64 fixed, .agg #[.bool true, .bool false], .slice a l.length c] w fun e w' => e = .returned (.bool true) ∧ Below w.heap.size w w' := by
  have HR := Lib.hid hr
  clear hr
  unfold maxLen at hmax
  have HK := Lib.hid hok
  have bf : decide (fixed < 0) = true := decide_eq_true hf
  have HT : Hid (toldB ⟨fixed, true, false, 0, false, 0⟩ = true) := Lib.hid (by simp [toldB])
  have HW : Hid (levelI ⟨fixed, true, false, 0, false, 0⟩ = 0) := Lib.hid (by rw [levelI, if_neg (by simp; omega), if_neg (by simp), if_pos (by simp)])
  clear hok
  go_enter Try.func5, Try.ntmps5
  go_wp2_with (first
    | (go_at_call 9; refine (awake_calls _).mono ?_; rintro e wa ⟨rfl, ha⟩; obtain ⟨kb, kf⟩ := below_box ha; have kc := cells_all kf; simp only [CellsAt, Nat.reduceAdd, and_true] at kc; obtain ⟨g0, g1⟩ := kc; have fl := size_of kf; have HA := Lib.hid kb; have HF := Lib.hid kf; clear ha kb kf)
    | (go_at_call 10; refine (new_fx w _ HA.out _ _ _ HK.out).mono ?_; rintro e w1 ⟨zb, mb, rfl, h1, h2⟩; have kf := blk_below' h2 HF.out; have kc := cells_all kf; simp only [CellsAt, Nat.reduceAdd, and_true] at kc; obtain ⟨g0, g1⟩ := kc; have fl := size_of kf; have H1 : Hid (FxInv w zb mb ⟨fixed, true, false, 0, false, 0⟩ w1) := ⟨_, _, h1, SameK.refl _⟩; clear h1 h2 kf))
  go_loopg [11] (l.length + 1) (fun g k wr => ∃ i : Nat, i ≤ l.length ∧ g + i = l.length + 1 ∧ k = .int .i64 i ∧ Hid (FxInv w zb mb ⟨fixed, true, false, 0, false, 0⟩ wr))
  case atStart => exact ⟨0, Nat.zero_le _, rfl, rfl, H1⟩
  case round =>
    clear H1
    obtain ⟨i, hil, hg, rfl, HI⟩ := hrel
    obtain ⟨z', m, hz, hs⟩ := HI.out
    have HZ := Lib.hid hz
    have HS := Lib.hid hs
    clear hz hs HI
    by_cases hlt : i < l.length
    · have e1 : IntKind.i64.wrap ((i : Int) + 1) = (i : Int) + 1 := IntWalk.i64_in _ (by omega)
      obtain ⟨b, off, cs, rfl, hc, hR⟩ := HR.out.get (List.getElem?_eq_getElem hlt)
      generalize l[i] = t at hR
      obtain rfl := rStp_out hR
      change CellsOff w b (off + i * 5) 0 t.cells at hc
      have HC := Lib.hid hc
      clear hR hc
      obtain ⟨c0, c1, c2, c3, c4⟩ := row_cells HC.out HZ.out.below
      by_cases h150 : (i : Int) < 100
      · have b150 : decide ((i : Int) < 100) = true := decide_eq_true h150
        by_cases hd : t.do_ = 0
        · have bd : (t.do_ == 0) = true := by simpa using hd
          go_wp2_with (fail)
          go_still_tail 21, (by kernel_rfl)
          go_wp2_with (first
            | (go_at_call 12; refine (offer_zs (w := wr.drew) (HZ.out.on (Below.refl _ _).drew) _ _ _ _).mono ?_; rintro e w2 ⟨rfl, h2⟩; obtain ⟨d0, d1, d2, d3, d4⟩ := row_cells HC.out h2.below; have HX := Lib.hid h2; have HS2 := HS; clear h2 HS)
            | (go_at_call 16; refine (level_zs HX.out).mono ?_; rintro e w2 ⟨rfl, h2⟩; rw [(told_level HT.out HS2.out).trans HW.out]; obtain ⟨d0, d1, d2, d3, d4⟩ := row_cells HC.out h2.below; have HY := Lib.hid h2; clear h2)
            | (go_at_call 20; refine (quiet_zs HY.out _).mono ?_; rintro e w2 ⟨rfl, h2⟩; rw [told_quiet0 HT.out HS2.out]; have HZ2 := Lib.hid h2; clear h2))
          go_roundg (l.length - i)
          case measure => omega
          case rel => exact ⟨i + 1, by omega, by omega, by go_num, Lib.hid ⟨_, _, HZ2.out, HS2.out⟩⟩
        · have bd : (t.do_ == 0) = false := by simpa using hd
          go_wp2_with (first
            | (go_at_call 14; refine (tick_zs HZ.out _).mono ?_; rintro e w2 ⟨rfl, h2⟩; obtain ⟨d0, d1, d2, d3, d4⟩ := row_cells HC.out h2.below; have HX := Lib.hid h2; have HS2 := Lib.hid (sameK_tick _ _ m t.now HS.out); clear h2 HS)
            | (go_at_call 16; refine (level_zs HX.out).mono ?_; rintro e w2 ⟨rfl, h2⟩; rw [(told_level HT.out HS2.out).trans HW.out]; obtain ⟨d0, d1, d2, d3, d4⟩ := row_cells HC.out h2.below; have HY := Lib.hid h2; clear h2)
            | (go_at_call 20; refine (quiet_zs HY.out _).mono ?_; rintro e w2 ⟨rfl, h2⟩; rw [told_quiet0 HT.out HS2.out]; have HZ2 := Lib.hid h2; clear h2))
          go_roundg (l.length - i)
          case measure => omega
          case rel => exact ⟨i + 1, by omega, by omega, by go_num, Lib.hid ⟨_, _, HZ2.out, HS2.out⟩⟩
      · have b150 : decide ((i : Int) < 100) = false := decide_eq_false h150
        go_wp2
        go_ret
        exact ⟨rfl, HZ.out.below⟩
    · have hlt' : ¬ (i : Int) < l.length := by omega
      have bl : decide ((i : Int) < l.length) = false := decide_eq_false hlt'
      go_wp2
      go_ret
      exact ⟨rfl, HZ.out.below⟩
set_option maxRecDepth 100000 in
set_option maxHeartbeats 1000000 in
theorem fixed_top (fixed : Int) (a : Option Addr) (c : Nat) (l : List Stp) (w : World) (hr : RowAt rStp w a l) (hmax : l.length ≤ maxLen) (hok : newOk fixed false true = true) (hf : fixed < 0) :
    Calls Try.prog 5 #[.int .i64 fixed, .agg #[.bool false, .bool true], .slice a l.length c] w fun e w' => e = .returned (.bool true) ∧ Below w.heap.size w w' := by
  have HR := Lib.hid hr
  clear hr
  unfold maxLen at hmax
  have HK := Lib.hid hok
  have bf : decide (fixed < 0) = true := decide_eq_true hf
  have HT : Hid (toldB ⟨fixed, false, true, 0, false, 0⟩ = true) := Lib.hid (by simp [toldB])
  have HW : Hid (levelI ⟨fixed, false, true, 0, false, 0⟩ = 24) := Lib.hid (by rw [levelI, if_neg (by simp; omega), if_pos (by simp)])
  clear hok
  go_enter Try.func5, Try.ntmps5
  go_wp2_with (first
    | (go_at_call 9; refine (awake_calls _).mono ?_; rintro e wa ⟨rfl, ha⟩; obtain ⟨kb, kf⟩ := below_box ha; have kc := cells_all kf; simp only [CellsAt, Nat.reduceAdd, and_true] at kc; obtain ⟨g0, g1⟩ := kc; have fl := size_of kf; have HA := Lib.hid kb; have HF := Lib.hid kf; clear ha kb kf)
    | (go_at_call 10; refine (new_fx w _ HA.out _ _ _ HK.out).mono ?_; rintro e w1 ⟨zb, mb, rfl, h1, h2⟩; have kf := blk_below' h2 HF.out; have kc := cells_all kf; simp only [CellsAt, Nat.reduceAdd, and_true] at kc; obtain ⟨g0, g1⟩ := kc; have fl := size_of kf; have H1 : Hid (FxInv w zb mb ⟨fixed, false, true, 0, false, 0⟩ w1) := ⟨_, _, h1, SameK.refl _⟩; clear h1 h2 kf))
  go_loopg [11] (l.length + 1) (fun g k wr => ∃ i : Nat, i ≤ l.length ∧ g + i = l.length + 1 ∧ k = .int .i64 i ∧ Hid (FxInv w zb mb ⟨fixed, false, true, 0, false, 0⟩ wr))
  case atStart => exact ⟨0, Nat.zero_le _, rfl, rfl, H1⟩
  case round =>
    clear H1
    obtain ⟨i, hil, hg, rfl, HI⟩ := hrel
    obtain ⟨z', m, hz, hs⟩ := HI.out
    have HZ := Lib.hid hz
    have HS := Lib.hid hs
    clear hz hs HI
    by_cases hlt : i < l.length
    · have e1 : IntKind.i64.wrap ((i : Int) + 1) = (i : Int) + 1 := IntWalk.i64_in _ (by omega)
      obtain ⟨b, off, cs, rfl, hc, hR⟩ := HR.out.get (List.getElem?_eq_getElem hlt)
      generalize l[i] = t at hR
      obtain rfl := rStp_out hR
      change CellsOff w b (off + i * 5) 0 t.cells at hc
      have HC := Lib.hid hc
      clear hR hc
      obtain ⟨c0, c1, c2, c3, c4⟩ := row_cells HC.out HZ.out.below
      by_cases h150 : (i : Int) < 100
      · have b150 : decide ((i : Int) < 100) = true := decide_eq_true h150
        by_cases hd : t.do_ = 0
        · have bd : (t.do_ == 0) = true := by simpa using hd
          go_wp2_with (fail)
          go_still_tail 21, (by kernel_rfl)
          go_wp2_with (first
            | (go_at_call 12; refine (offer_zs (w := wr.drew) (HZ.out.on (Below.refl _ _).drew) _ _ _ _).mono ?_; rintro e w2 ⟨rfl, h2⟩; obtain ⟨d0, d1, d2, d3, d4⟩ := row_cells HC.out h2.below; have HX := Lib.hid h2; have HS2 := HS; clear h2 HS)
            | (go_at_call 16; refine (level_zs HX.out).mono ?_; rintro e w2 ⟨rfl, h2⟩; rw [(told_level HT.out HS2.out).trans HW.out]; obtain ⟨d0, d1, d2, d3, d4⟩ := row_cells HC.out h2.below; have HY := Lib.hid h2; clear h2)
            | (go_at_call 20; refine (quiet_zs HY.out _).mono ?_; rintro e w2 ⟨rfl, h2⟩; rw [told_quiet0 HT.out HS2.out]; have HZ2 := Lib.hid h2; clear h2))
          go_roundg (l.length - i)
          case measure => omega
          case rel => exact ⟨i + 1, by omega, by omega, by go_num, Lib.hid ⟨_, _, HZ2.out, HS2.out⟩⟩
        · have bd : (t.do_ == 0) = false := by simpa using hd
          go_wp2_with (first
            | (go_at_call 14; refine (tick_zs HZ.out _).mono ?_; rintro e w2 ⟨rfl, h2⟩; obtain ⟨d0, d1, d2, d3, d4⟩ := row_cells HC.out h2.below; have HX := Lib.hid h2; have HS2 := Lib.hid (sameK_tick _ _ m t.now HS.out); clear h2 HS)
            | (go_at_call 16; refine (level_zs HX.out).mono ?_; rintro e w2 ⟨rfl, h2⟩; rw [(told_level HT.out HS2.out).trans HW.out]; obtain ⟨d0, d1, d2, d3, d4⟩ := row_cells HC.out h2.below; have HY := Lib.hid h2; clear h2)
            | (go_at_call 20; refine (quiet_zs HY.out _).mono ?_; rintro e w2 ⟨rfl, h2⟩; rw [told_quiet0 HT.out HS2.out]; have HZ2 := Lib.hid h2; clear h2))
          go_roundg (l.length - i)
          case measure => omega
          case rel => exact ⟨i + 1, by omega, by omega, by go_num, Lib.hid ⟨_, _, HZ2.out, HS2.out⟩⟩
      · have b150 : decide ((i : Int) < 100) = false := decide_eq_false h150
        go_wp2
        go_ret
        exact ⟨rfl, HZ.out.below⟩
    · have hlt' : ¬ (i : Int) < l.length := by omega
      have bl : decide ((i : Int) < l.length) = false := decide_eq_false hlt'
      go_wp2
      go_ret
      exact ⟨rfl, HZ.out.below⟩
theorem fixed_law (fixed : Int) (f : Bool × Bool) (a : Option Addr) (c : Nat) (l : List Stp) (w : World) (hr : RowAt rStp w a l) (hmax : l.length ≤ maxLen) :
    Calls Try.prog 5 #[.int .i64 fixed, .agg #[.bool f.1, .bool f.2], .slice a l.length c] w fun e w' => e = .returned (.bool true) ∧ Below w.heap.size w w' := by
  obtain ⟨f0, f1⟩ := f
  cases hok : newOk fixed f0 f1
  · exact fixed_no fixed f0 f1 a c l w hok
  · by_cases hf : fixed < 0
    · cases f0 <;> cases f1
      · exact fixed_own fixed a c l w hok hf
      · exact fixed_top fixed a c l w hr hmax hok hf
      · exact fixed_leaf fixed a c l w hr hmax hok hf
      · simp [newOk] at hok
    · cases f0 <;> cases f1
      · exact fixed_set fixed a c l w hr hmax hok (by omega)
      · simp [newOk] at hok; omega
      · simp [newOk] at hok; omega
      · simp [newOk] at hok
theorem flags_out {w : World} {cs : List Value} {x : Bool × Bool} (h : (Rd.bool.pair Rd.bool).R w cs x) : Value.agg cs.toArray = .agg #[.bool x.1, .bool x.2] := by
  obtain ⟨_, _, rfl, rfl, rfl⟩ := h
  rfl
theorem opens_flags : Opens Try.prog 22 (Rd.bool.pair Rd.bool) := opens_arr2 Try.underlying22 (by kernel_rfl) rfl (by kernel_rfl) (opens_bool Try.underlying4)
end Go.Proofs.Ythdhodopmffdmaa
