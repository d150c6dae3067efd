/- lpm: LpmScripts. -/
import Derived.Test.YtkofjejdgdhapaaLsA
import Derived.Test.YtkofjejdgdhapaaLqN
namespace Go.Proofs.Ytkofjejdgdhapaa
open Go.RowKit

structure Pre where
  net : Nat
  b : Int
def Pre.v (p : Pre) : Value := .agg #[.int .u32 p.net, .int .i64 p.b]
def rPre : Rd Pre := ((Rd.int .u32).pair (Rd.int .i64)).iso fun x => ⟨x.1.toNat, x.2⟩
theorem rPre_out {w : World} {cs : List Value} {p : Pre} (h : rPre.R w cs p) : cs = [.int .u32 p.net, .int .i64 p.b] ∧ p.net < 2 ^ 32 := by
  obtain ⟨x, ⟨_, _, rfl, ⟨rfl, hw⟩, ⟨rfl, _⟩⟩, rfl⟩ := h
  have hx := wf_u32 hw
  refine ⟨?_, ?_⟩
  · have e : ((x.1.toNat : Nat) : Int) = x.1 := Int.toNat_of_nonneg hx.1
    simp [e]
  · show x.1.toNat < 2 ^ 32
    omega
theorem rPre_v {w : World} {cs : List Value} {p : Pre} (h : rPre.R w cs p) : Value.agg cs.toArray = p.v := by rw [(rPre_out h).1]; rfl
theorem opens_pre : Opens Try.prog 30 rPre := opens_iso (opens_struct Try.underlying30 (by kernel_rfl) (.cons rfl (by kernel_rfl) (opens_int Try.underlying23) (.one rfl (by kernel_rfl) opens_i64))) _

theorem all_mem (w0 : World) (tb rb : Nat) (room : Int) (l : Nets) (L0 L : List Kn) (S : Blks) (w : World) (h : MemAt w0 w tb rb room l L0 S) (ht : Tied l L) (hl : L.length ≤ 100000) :
    Calls Try.prog 14 #[.pointer (some ⟨tb, 0, none⟩)] w fun e w' => ∃ v, e = .returned v ∧ w'.ownsRow w.heap.size 30 2 v L.length (flatP (L.map pfOf)) ∧ Below w.heap.size w w' := by
  obtain ⟨nd, v, h1, h2, h3, h4, h5⟩ := h
  obtain ⟨f, hf⟩ : ∃ f, f = 33 := ⟨_, rfl⟩
  have hu : (L.map pfOf).length ≤ 100000 := by rw [List.length_map]; exact hl
  have := all_calls tb nd l room _ w h2 f hf (L.map pfOf) (ht.under f hf) hu
  rw [List.length_map] at this
  exact this
theorem rall_mem (w0 : World) (tb rb : Nat) (room : Int) (l : Nets) (L : List Kn) (S : Blks) (w : World) (h : MemAt w0 w tb rb room l L S) (ht : Tied l L) (hl : L.length ≤ 100000) :
    Calls Try.prog 21 #[.pointer (some ⟨rb, 0, none⟩)] w fun e w' => ∃ v, e = .returned v ∧ w'.ownsRow w.heap.size 30 2 v L.length (flatP (L.map pfOf)) ∧ Below w.heap.size w w' := by
  obtain ⟨nd, v, h1, h2, h3, h4, h5⟩ := h
  exact rall_calls _ rb room v L w h3 hl (fun x hx => (ht.rt x hx).1)
theorem get_mem (w0 : World) (tb rb : Nat) (room : Int) (l : Nets) (L : List Kn) (S : Blks) (net : Nat) (b : Int) (w : World) (h : MemAt w0 w tb rb room l L S) (hn : net < 2 ^ 32) {r : Option Int} (hr : knowsN l net b = r) :
    Calls Try.prog 18 #[.pointer (some ⟨tb, 0, none⟩), .agg #[.int .u32 net, .int .i64 b]] w fun e w' => e = .returned (.tuple #[.int .i64 (r.getD 0), .bool r.isSome]) ∧ Below w.heap.size w w' := by
  obtain ⟨nd, v, h1, h2, h3, h4, h5⟩ := h
  rw [← hr]
  exact get_calls tb nd l room _ net b w h2 hn
theorem rget_mem (w0 : World) (tb rb : Nat) (room : Int) (l : Nets) (L : List Kn) (S : Blks) (net : Nat) (b : Int) (w : World) (h : MemAt w0 w tb rb room l L S) (ht : Tied l L) (hn : net < 2 ^ 32) (hl : L.length ≤ 100000) {r : Option Int} (hr : knowsN l net b = r) :
    Calls Try.prog 19 #[.pointer (some ⟨rb, 0, none⟩), .agg #[.int .u32 net, .int .i64 b]] w fun e w' => e = .returned (.tuple #[.int .i64 (r.getD 0), .bool r.isSome]) ∧ Below w.heap.size w w' := by
  obtain ⟨nd, v, h1, h2, h3, h4, h5⟩ := h
  rw [← hr, (ht.knows b hn).1]
  exact rget_calls _ rb room v L net b w h3 hl
theorem len_mem (w0 : World) (tb rb : Nat) (room : Int) (l : Nets) (L0 L : List Kn) (S : Blks) (w : World) (h : MemAt w0 w tb rb room l L0 S) (ht : Tied l L) :
    Calls Try.prog 17 #[.pointer (some ⟨tb, 0, none⟩)] w fun e w' => e = .returned (.int .i64 L.length) ∧ w = w' := by
  obtain ⟨nd, v, h1, h2, h3, h4, h5⟩ := h
  have := len_calls tb nd l room _ w h2
  rw [ht.len] at this
  exact this
theorem MemAt.ref {w0 w : World} {tb rb : Nat} {room : Int} {l : Nets} {L : List Kn} {S : Blks} (h : MemAt w0 w tb rb room l L S) : ∃ a c, w.cell? ⟨rb, 1, none⟩ = some (.slice a L.length c) ∧ rb < w.heap.size := by
  obtain ⟨nd, v, h1, h2, h3, h4, h5⟩ := h
  obtain ⟨a, c, rfl, _⟩ := h3.row
  exact ⟨a, c, h3.cells.2.1, h3.cells.2.2.1⟩
theorem keepM {w0 W W' : World} {tb rb n : Nat} {room : Int} {l : Nets} {L : List Kn} {S : Blks} {u : Value} (hb0 : Below n W W') (hn : W.heap.size ≤ n) (h : Hid (MemAt w0 W tb rb room l L S) ∧ rb < W.heap.size ∧ W.cell? ⟨rb, 1, none⟩ = some u) :
    Hid (MemAt w0 W' tb rb room l L S) ∧ rb < W'.heap.size ∧ W'.cell? ⟨rb, 1, none⟩ = some u := by
  have hb := hb0.mono hn
  exact ⟨h.1.out.on hb, Nat.lt_of_lt_of_le h.2.1 hb.size, CK.of_below hb _ _ h.2.2⟩
theorem below_drew' (w : World) : Below w.heap.size w w.drew := (Below.refl _ _).drew
theorem same_rows (xs : List Pf) (n : Nat) (hn : xs.length = n) (w w1 : World) (v1 v2 : Value) (B1 B2 : Nat) (h1 : w1.ownsRow B1 30 2 v1 n (flatP xs)) (hb : Below w1.heap.size w1 w) (h2 : w.ownsRow B2 30 2 v2 n (flatP xs)) (hN : n ≤ 100000) :
    Calls Try.prog 20 #[v1, v2] w fun e w' => e = .returned (.bool true) ∧ Below w.heap.size w w' := by
  subst hn
  obtain ⟨a1, c1, rfl, r1⟩ := pf_row h1
  obtain ⟨a2, c2, rfl, r2⟩ := pf_row h2
  exact same_calls xs a1 a2 c1 c2 w (r1.mono (CK.of_below hb)) r2 hN

set_option maxRecDepth 100000 in
set_option maxHeartbeats 2000000 in
theorem scripts_law (room : Int) (ad : Option Addr) (c : Nat) (ss : List Stp) (p : Pre) (w : World) (hr : RowAt rStp w ad ss) (hlen : ss.length ≤ maxLen) (hp : p.net < 2 ^ 32) :
    Calls Try.prog 5 #[.int .i64 room, .slice ad ss.length c, p.v] w fun e w' => e = .returned (.bool true) ∧ Below w.heap.size w w' := by
  obtain ⟨net, b⟩ := p
  have HA := Lib.hid (show net < 2 ^ 32 from hp)
  have HR := Lib.hid hr
  have HL := Lib.hid hlen
  clear hr hlen hp
  unfold Pre.v
  by_cases hroom : 1 ≤ room ∧ room ≤ 4096
  · obtain ⟨hr1, hr2⟩ := hroom
    go_enter Try.func5, Try.ntmps5
    go_wp2_with ((go_at_call 9; refine (awake_calls _).mono ?_; rintro e w1 ⟨rfl, hb1⟩; have HB1 := Lib.hid (box_trans hb1); have HX1 := Lib.hid (blk_below' hb1 (blk_new _ _)); clear hb1))
    refine (made_ok room ad c ss _ (HR.out.mono (CK.of_below HB1.out)) HL.out hr1 hr2).mono ?_
    rintro e w2 ⟨rfl, hm2⟩
    obtain ⟨l, L, hm, ht, hll⟩ := hm2
    have hlen := ht.len
    have HX2 := Lib.hid (blk_below' hm.below HX1.out)
    have HM := Lib.hid hm
    have HT := Lib.hid ht
    have HLL := Lib.hid (show L.length ≤ 100000 by omega)
    obtain ⟨r, hrr⟩ : ∃ r, knowsN l net b = r := ⟨_, rfl⟩
    have HK := Lib.hid hrr
    have k2 := cells_all (l := [_, _]) HX2.out
    have z2 := size_of HX2.out
    simp only [CellsAt, Nat.reduceAdd, and_true] at k2
    obtain ⟨d0, d1⟩ := k2
    have hlM : L.length ≤ 100000 := by omega
    clear hm ht hll hlen hrr
    go_wp2_with (first
      | (go_at_call 18; refine (get_mem w1 w1.heap.size (w1.heap.size + 1) room l L _ net b _ HM.out HA.out HK.out).mono ?_; rintro e w3 ⟨rfl, hb3⟩; have HM3 := Lib.hid (HM.out.on hb3); have HX3 := Lib.hid (blk_below' hb3 HX2.out); have k3 := cells_all (l := [_, _]) HX3.out; have z3 := size_of HX3.out; simp only [CellsAt, Nat.reduceAdd, and_true] at k3; obtain ⟨e0, e1⟩ := k3; clear hb3)
      | (go_at_call 19; refine (rget_mem w1 w1.heap.size (w1.heap.size + 1) room l L _ net b _ HM3.out HT.out HA.out HLL.out HK.out).mono ?_; rintro e w4 ⟨rfl, hb4⟩; have HM4 := Lib.hid (HM3.out.on hb4); obtain ⟨ra, rc, f0, f1⟩ := HM4.out.ref; clear hb4))
    have HS : ∀ w', (Hid (MemAt w1 w' w1.heap.size (w1.heap.size + 1) room l L []) ∧ w1.heap.size + 1 < w'.heap.size ∧ w'.cell? ⟨w1.heap.size + 1, 1, none⟩ = some (.slice ra L.length rc)) → MemAt w1 w' w1.heap.size (w1.heap.size + 1) room l L [] := fun w' h => h.1.out
    have HLM := Lib.hid (show (L.map pfOf).length = L.length from List.length_map _)
    go_region_held3 (fun w' => Hid (MemAt w1 w' w1.heap.size (w1.heap.size + 1) room l L []) ∧ w1.heap.size + 1 < w'.heap.size ∧ w'.cell? ⟨w1.heap.size + 1, 1, none⟩ = some (.slice ra L.length rc))
      (first | exact keepM (below_drew' w4) (Nat.le_refl _) ⟨HM4, f1, f0⟩ | assumption | (refine keepM hb7 (Nat.le_refl _) ?_; assumption) | (refine keepM hb6 (Nat.le_refl _) ?_; assumption) | (refine keepM hb5 (Nat.le_refl _) ?_; assumption))
      (first | (go_at_call 17; refine (len_mem _ _ _ _ _ _ L _ _ (HS _ ?_) HT.out).mono ?_; (assumption); rintro e w' ⟨rfl, rfl⟩) | (go_at_call 14; refine (all_mem _ _ _ _ _ _ L _ _ (HS _ ?_) HT.out HLL.out).mono ?_; (assumption); rintro e w5 ⟨v5, rfl, hown5, hb5⟩) | (go_at_call 21; refine (rall_mem _ _ _ _ _ _ _ _ (HS _ ?_) HT.out HLL.out).mono ?_; (assumption); rintro e w6 ⟨v6, rfl, hown6, hb6⟩) | (go_at_call 20; refine (same_rows (L.map pfOf) L.length HLM.out _ _ _ _ _ _ hown5 hb6 hown6 HLL.out).mono ?_; rintro e w7 ⟨rfl, hb7⟩))
    rename_i hHeld
    have HF := Lib.hid (below_trans HB1.out hHeld.1.out.below)
    clear hHeld hown5 hb5 hown6 hb6 hb7
    go_wp2_with (fail)
    go_ret
    exact ⟨rfl, HF.out⟩
  · have HX := Lib.hid (show room < 1 ∨ 4096 < room by omega)
    clear hroom
    go_enter Try.func5, Try.ntmps5
    go_wp2_with (first
      | (go_at_call 9; refine (awake_calls _).mono ?_; rintro e w1 ⟨rfl, hb1⟩; have HB1 := Lib.hid (box_trans hb1); clear hb1)
      | (go_at_call 10; refine (made_bad room ad c ss _ HL.out HX.out).mono ?_; rintro e w2 ⟨rfl, rfl⟩))
    go_ret
    exact ⟨rfl, HB1.out⟩
end Go.Proofs.Ytkofjejdgdhapaa
