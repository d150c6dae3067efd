/- TopTables: the law's walk. -/
import Derived.Test.YtjeanolcdmfbeaaTpC
import Derived.Deep.RegionHeld3
namespace Go.Proofs.Ytjeanolcdmfbeaa
open Go.RowKit

theorem rib_none (c : Nat) (ad : Option Addr) (ps : List Pth) (a : Nat) (w : World) (hr : RowAt rPth w ad ps) (hl : ps.length ≤ 100) (ha : a < 2 ^ 32) (h : bestTo (putsTo ps ps.length) a 33 = none) :
    Calls Try.prog 6 #[.slice ad ps.length c, .int .u32 a] w fun e w' => e = .returned (.tuple #[.agg zPth.toArray, .bool false]) ∧ Below w.heap.size w w' :=
  (rib_calls c ad ps a w hr hl ha).mono fun e w' ⟨hb, hq⟩ => by
    rcases hq with ⟨_, h2⟩ | ⟨k, j, p, h2, _⟩
    · exact ⟨h2, hb⟩
    · rw [h] at h2; cases h2
theorem rib_some (c : Nat) (ad : Option Addr) (ps : List Pth) (a : Nat) (w : World) (hr : RowAt rPth w ad ps) (hl : ps.length ≤ 100) (ha : a < 2 ^ 32) {k j : Nat} {p : Pth} (h : bestTo (putsTo ps ps.length) a 33 = some (k, (j : Int))) (hp : ps[j]? = some p) :
    Calls Try.prog 6 #[.slice ad ps.length c, .int .u32 a] w fun e w' => e = .returned (.tuple #[.agg p.cells.toArray, .bool true]) ∧ Below w.heap.size w w' :=
  (rib_calls c ad ps a w hr hl ha).mono fun e w' ⟨hb, hq⟩ => by
    rcases hq with ⟨h2, _⟩ | ⟨k', j', p', h2, h3, _, _, h4⟩
    · rw [h] at h2; cases h2
    · rw [h] at h2
      obtain ⟨rfl, e2⟩ := Prod.mk.inj (Option.some.inj h2)
      obtain rfl : j = j' := by omega
      rw [hp] at h3
      obtain rfl := Option.some.inj h3
      exact ⟨h4, hb⟩

theorem TabInv.below {tb : Nat} {ps : List Pth} {room : Int} {w wr : World} {i : Nat} (h : TabInv tb ps room w i wr) : Below w.heap.size w wr := by
  obtain ⟨nd, h1, h2, h3⟩ := h
  exact h2
theorem tab_find2 {tb : Nat} {ps : List Pth} {room : Int} {w wr : World} {i a : Nat} (h : TabInv tb ps room w i wr) (ha : a < 2 ^ 32) :
    Calls Try.prog 7 #[.pointer (some ⟨tb, 0, none⟩), .int .u32 a] wr fun e w2 => e = .returned (findV (putsTo ps i) a) ∧ Below wr.heap.size wr w2 := by
  obtain ⟨nd, h1, h2, h3⟩ := h
  exact find_calls tb nd _ room _ a wr h1 ha
theorem tab_alloc {tb : Nat} {ps : List Pth} {room : Int} {w wr : World} {i : Nat} (h : TabInv tb ps room w i wr) (o : Obj) : TabInv tb ps room w i (wr.alloc o) := h.on ((Below.refl _ _).alloc (Nat.le_refl _) _)
/-- Behind Find: the path that rib.Find gave, in its block. -/
def LastS (w w2 w3 : World) (cs : List Value) : Prop := Below w.heap.size w w3 ∧ w3.heap[w2.heap.size]? = some (.cells cs.toArray 32 (0, 0))
theorem last_of {w w2 w3 : World} {cs : List Value} (h : Below w.heap.size w w2) (hb : Below (w2.alloc (.cells cs.toArray 32 (0, 0))).heap.size (w2.alloc (.cells cs.toArray 32 (0, 0))) w3) : LastS w w2 w3 cs :=
  ⟨(h.alloc h.size _).trans (hb.mono (by rw [World.size_alloc]; have := h.size; omega)), blk_below' hb (blk_new _ _)⟩
theorem ck_next {wr w2 : World} {a : Addr} {v : Value} (hb : Below wr.heap.size wr w2) (h : wr.cell? a = some v) : w2.cell? a = some v := CK.of_below hb _ _ h
theorem keepP {p : Pth} {w4 wr w2 : World} {B1 B2 b at_ n : Nat} (hb0 : Below n wr w2) (hn : wr.heap.size ≤ n) (h : Hid (Below w4.heap.size w4 wr) ∧ w4.heap.size ≤ wr.heap.size ∧ wr.cell? ⟨B1, 0, none⟩ = some (.int .u32 p.net) ∧ wr.cell? ⟨B1, 1, none⟩ = some (.int .i64 p.bits) ∧ wr.cell? ⟨B1, 2, none⟩ = some (.int .i64 p.dir) ∧ wr.cell? ⟨B1, 3, none⟩ = some (.int .i64 p.dist) ∧ wr.cell? ⟨B1, 4, none⟩ = some (.slice p.via.a p.via.l.length p.via.cap) ∧ wr.cell? ⟨B2, 0, none⟩ = some (.int .u32 p.net) ∧ wr.cell? ⟨B2, 1, none⟩ = some (.int .i64 p.bits) ∧ wr.cell? ⟨b, at_, none⟩ = some (.int .u32 p.net) ∧ wr.cell? ⟨b, at_ + 1, none⟩ = some (.int .i64 p.bits) ∧ wr.cell? ⟨b, at_ + 2, none⟩ = some (.int .i64 p.dir) ∧ wr.cell? ⟨b, at_ + 3, none⟩ = some (.int .i64 p.dist) ∧ wr.cell? ⟨b, at_ + 4, none⟩ = some (.slice p.via.a p.via.l.length p.via.cap)) : Hid (Below w4.heap.size w4 w2) ∧ w4.heap.size ≤ w2.heap.size ∧ w2.cell? ⟨B1, 0, none⟩ = some (.int .u32 p.net) ∧ w2.cell? ⟨B1, 1, none⟩ = some (.int .i64 p.bits) ∧ w2.cell? ⟨B1, 2, none⟩ = some (.int .i64 p.dir) ∧ w2.cell? ⟨B1, 3, none⟩ = some (.int .i64 p.dist) ∧ w2.cell? ⟨B1, 4, none⟩ = some (.slice p.via.a p.via.l.length p.via.cap) ∧ w2.cell? ⟨B2, 0, none⟩ = some (.int .u32 p.net) ∧ w2.cell? ⟨B2, 1, none⟩ = some (.int .i64 p.bits) ∧ w2.cell? ⟨b, at_, none⟩ = some (.int .u32 p.net) ∧ w2.cell? ⟨b, at_ + 1, none⟩ = some (.int .i64 p.bits) ∧ w2.cell? ⟨b, at_ + 2, none⟩ = some (.int .i64 p.dir) ∧ w2.cell? ⟨b, at_ + 3, none⟩ = some (.int .i64 p.dist) ∧ w2.cell? ⟨b, at_ + 4, none⟩ = some (.slice p.via.a p.via.l.length p.via.cap) := by
  have hb := hb0.mono hn
  obtain ⟨h0, hz, h1, h2, h3, h4, h5, h6, h7, h8, h9, h10, h11, h12⟩ := h
  exact ⟨h0.out.trans (hb.mono hz), Nat.le_trans hz hb.size, ck_next hb h1, ck_next hb h2, ck_next hb h3, ck_next hb h4, ck_next hb h5, ck_next hb h6, ck_next hb h7, ck_next hb h8, ck_next hb h9, ck_next hb h10, ck_next hb h11, ck_next hb h12⟩
theorem below_drew (w : World) : Below w.heap.size w w.drew := (Below.refl _ _).drew
set_option maxRecDepth 100000 in
set_option maxHeartbeats 2000000 in
theorem tables_few (c : Nat) (ad : Option Addr) (ps : List Pth) (a : Nat) (w : World) (hr : RowAt rPth w ad ps) (hl : ps.length ≤ 100) (ha : a < 2 ^ 32) :
    Calls Try.prog 3 #[.slice ad ps.length c, .int .u32 a] w fun e w' => e = .returned (.bool true) ∧ Below w.heap.size w w' := by
  have HR := Lib.hid hr
  have HA := Lib.hid ha
  have HT0 : Hid (TabInv w.heap.size ps 100 w 0 (w.alloc (newTable 100))) := Lib.hid (tab_new w w (Below.refl _ _) ps 100)
  clear hr ha
  go_enter Try.func3, Try.ntmps3
  go_wp2_with ((go_at_call 4; refine (new_calls _ _ (by omega) (by omega)).mono ?_; rintro e w1 ⟨rfl, rfl⟩))
  go_loopg [7] (ps.length + 1) (fun g i wr => ∃ j : Nat, j ≤ ps.length ∧ g + j = ps.length + 1 ∧ i = .int .i64 j ∧ Hid (TabInv w.heap.size ps 100 w j wr))
  case atStart => exact ⟨0, Nat.zero_le _, rfl, rfl, HT0⟩
  case round =>
    clear HT0
    obtain ⟨j, hj, hg, rfl, HI⟩ := hrel
    by_cases hlt : j < ps.length
    · have e1 : IntKind.i64.wrap ((j : Int) + 1) = (j : Int) + 1 := IntWalk.i64_in _ (by omega)
      obtain ⟨b, off, cs, rfl, hc, hR⟩ := HR.out.get (List.getElem?_eq_getElem hlt)
      have hp? : ps[j]? = some ps[j] := List.getElem?_eq_getElem hlt
      generalize ps[j] = p at hR hp?
      have HP := Lib.hid hp?
      obtain ⟨rfl, hnet, -⟩ := rPth_out hR
      have HNET := Lib.hid hnet
      obtain ⟨⟨c0, c1, c2, c3, c4⟩, bl⟩ := pth_cells (show CellsOff w b (off + j * 5) 0 p.cells from hc) HI.out.below
      clear hc hR hnet hp?
      by_cases hv : 100 < p.via.l.length
      · have bv : decide ((100 : Int) < (p.via.l.length : Int)) = true := decide_eq_true (by omega)
        go_wp2_with (fail)
        go_ret
        exact ⟨rfl, HI.out.below⟩
      have bv : decide ((100 : Int) < (p.via.l.length : Int)) = false := decide_eq_false (by omega)
      go_wp2_with ((go_at_call 5; refine (tab_step HI.out HP.out HNET.out (by omega) (by omega)).mono ?_; rintro e w2 ⟨code, rfl, h2⟩; have HJ := Lib.hid h2; clear h2))
      go_roundg (ps.length - j)
      case measure => omega
      case rel => exact ⟨j + 1, by omega, by omega, by go_num, HJ⟩
    · have hlt3 : ¬ (j : Int) < ps.length := by omega
      have bl : decide ((j : Int) < ps.length) = false := decide_eq_false hlt3
      obtain rfl : j = ps.length := by omega
      have HRW := Lib.hid (HR.out.mono (CK.of_below HI.out.below))
      cases hbt : bestTo (putsTo ps ps.length) a 33 with
      | none =>
        have HBT := Lib.hid hbt
        have HV := Lib.hid (show findV (putsTo ps ps.length) a = .tuple #[.agg #[.int .u32 0, .int .i64 0], .int .i64 0, .bool false] by rw [findV, hbt]; rfl)
        clear hbt
        go_wp2_with (first
          | (go_at_call 6; refine (rib_none _ _ ps a _ HRW.out hl HA.out HBT.out).mono ?_; rintro e w2 ⟨rfl, hb⟩; simp only [zPth]; have HJ := Lib.hid (HI.out.on hb); clear hb)
          | (go_at_call 7; refine (tab_find2 (tab_alloc HJ.out _) HA.out).mono ?_; rintro e w3 ⟨rfl, h3⟩; rw [HV.out]; have HK := Lib.hid (last_of (cs := zPth) HJ.out.below h3); have y3 := size_of HK.out.2; clear h3))
        go_quiet (fail)
        go_wp2_with (fail)
        go_ret
        exact ⟨rfl, below_drewN (HK.out.1.alloc HK.out.1.size _) _⟩
      | some r =>
        obtain ⟨k, n⟩ := r
        obtain ⟨i, p, hi, rfl, hp, hpn, hpb⟩ := found_is hbt
        have HV := Lib.hid (show findV (putsTo ps ps.length) a = .tuple #[.agg #[.int .u32 (cutN a k), .int .i64 k], .int .i64 i, .bool true] by rw [findV, hbt]; rfl)
        have HBT := Lib.hid hbt
        have HPI := Lib.hid hp
        obtain ⟨b, off, cs, rfl, hc, hR⟩ := HR.out.get hp
        obtain ⟨rfl, -, hvia⟩ := rPth_out hR
        have HC := Lib.hid (show CellsOff w b (off + i * 5) 0 p.cells from hc)
        have HS := Lib.hid (fun w' (h : CK w w') => (Rd.slice (Rd.int .i64)).mono h hvia)
        have hi2 : (i : Int) < ps.length := by omega
        rw [← hpn, ← hpb] at HV
        clear hbt hp hpn hpb hc hR hvia
        go_wp2_with (first
          | (go_at_call 6; refine (rib_some _ _ ps a _ HRW.out hl HA.out HBT.out HPI.out).mono ?_; rintro e w2 ⟨rfl, hb⟩; simp only [Pth.cells]; have HJ := Lib.hid (HI.out.on hb); clear hb)
          | (go_at_call 7; refine (tab_find2 (tab_alloc HJ.out _) HA.out).mono ?_; rintro e w3 ⟨rfl, h3⟩; rw [HV.out]; have HK := Lib.hid (last_of (cs := p.cells) HJ.out.below h3); have y3 := size_of HK.out.2; have z := cells_all HK.out.2; simp only [CellsAt, Pth.cells, Nat.reduceAdd, and_true] at z; obtain ⟨z0, z1, z2, z3, z4⟩ := z; obtain ⟨⟨c0, c1, c2, c3, c4⟩, bl5⟩ := pth_cells HC.out HK.out.1; clear h3))
        have HY3 := Lib.hid y3
        have q := cells_all (blk_new w3 (.cells #[.int .u32 p.net, .int .i64 p.bits] 29 (0, 0)))
        simp only [CellsAt, Nat.reduceAdd, and_true] at q
        obtain ⟨q0, q1⟩ := q
        have hb4 := (Below.refl w3.heap.size w3).alloc (Nat.le_refl _) (.cells #[.int .u32 p.net, .int .i64 p.bits] 29 (0, 0))
        have hs4 := World.size_alloc w3 (.cells #[.int .u32 p.net, .int .i64 p.bits] 29 (0, 0))
        generalize w3.alloc (.cells #[.int .u32 p.net, .int .i64 p.bits] 29 (0, 0)) = w4 at hb4 hs4 q0 q1 ⊢
        have HB4 := Lib.hid (HK.out.1.trans (hb4.mono HK.out.1.size))
        have HR4 := Lib.hid (Below.refl w4.heap.size w4)
        have hz4 : w4.heap.size ≤ w4.heap.size := Nat.le_refl _
        have hs4' : w3.heap.size < w4.heap.size := by omega
        have hb4' : b < w4.heap.size := by omega
        have hw24 : w2.heap.size < w4.heap.size := by omega
        replace z0 := ck_next hb4 z0
        replace z1 := ck_next hb4 z1
        replace z2 := ck_next hb4 z2
        replace z3 := ck_next hb4 z3
        replace z4 := ck_next hb4 z4
        replace c0 := ck_next hb4 c0
        replace c1 := ck_next hb4 c1
        replace c2 := ck_next hb4 c2
        replace c3 := ck_next hb4 c3
        replace c4 := ck_next hb4 c4
        clear hb4 hs4
        have HSS := Lib.hid (fun w' (h : Hid (Below w4.heap.size w4 w') ∧ w4.heap.size ≤ w'.heap.size ∧ w'.cell? ⟨w2.heap.size, 0, none⟩ = some (.int .u32 p.net) ∧ w'.cell? ⟨w2.heap.size, 1, none⟩ = some (.int .i64 p.bits) ∧ w'.cell? ⟨w2.heap.size, 2, none⟩ = some (.int .i64 p.dir) ∧ w'.cell? ⟨w2.heap.size, 3, none⟩ = some (.int .i64 p.dist) ∧ w'.cell? ⟨w2.heap.size, 4, none⟩ = some (.slice p.via.a p.via.l.length p.via.cap) ∧ w'.cell? ⟨w3.heap.size, 0, none⟩ = some (.int .u32 p.net) ∧ w'.cell? ⟨w3.heap.size, 1, none⟩ = some (.int .i64 p.bits) ∧ w'.cell? ⟨b, off + i * 5, none⟩ = some (.int .u32 p.net) ∧ w'.cell? ⟨b, off + i * 5 + 1, none⟩ = some (.int .i64 p.bits) ∧ w'.cell? ⟨b, off + i * 5 + 2, none⟩ = some (.int .i64 p.dir) ∧ w'.cell? ⟨b, off + i * 5 + 3, none⟩ = some (.int .i64 p.dist) ∧ w'.cell? ⟨b, off + i * 5 + 4, none⟩ = some (.slice p.via.a p.via.l.length p.via.cap)) => HS.out w' (CK.of_below (HB4.out.trans (h.1.out.mono HB4.out.size))))
        go_region_held3 (fun w' => Hid (Below w4.heap.size w4 w') ∧ w4.heap.size ≤ w'.heap.size ∧ w'.cell? ⟨w2.heap.size, 0, none⟩ = some (.int .u32 p.net) ∧ w'.cell? ⟨w2.heap.size, 1, none⟩ = some (.int .i64 p.bits) ∧ w'.cell? ⟨w2.heap.size, 2, none⟩ = some (.int .i64 p.dir) ∧ w'.cell? ⟨w2.heap.size, 3, none⟩ = some (.int .i64 p.dist) ∧ w'.cell? ⟨w2.heap.size, 4, none⟩ = some (.slice p.via.a p.via.l.length p.via.cap) ∧ w'.cell? ⟨w3.heap.size, 0, none⟩ = some (.int .u32 p.net) ∧ w'.cell? ⟨w3.heap.size, 1, none⟩ = some (.int .i64 p.bits) ∧ w'.cell? ⟨b, off + i * 5, none⟩ = some (.int .u32 p.net) ∧ w'.cell? ⟨b, off + i * 5 + 1, none⟩ = some (.int .i64 p.bits) ∧ w'.cell? ⟨b, off + i * 5 + 2, none⟩ = some (.int .i64 p.dir) ∧ w'.cell? ⟨b, off + i * 5 + 3, none⟩ = some (.int .i64 p.dist) ∧ w'.cell? ⟨b, off + i * 5 + 4, none⟩ = some (.slice p.via.a p.via.l.length p.via.cap))
          (first | exact keepP (below_drew w4) (Nat.le_refl _) ⟨HR4, hz4, z0, z1, z2, z3, z4, q0, q1, c0, c1, c2, c3, c4⟩ | (refine keepP hb (Nat.le_refl _) ?_; assumption))
          (first | (go_at_call 8; refine (same_calls p _ (HSS.out _ ?_)).mono ?_; (assumption); rintro e w' ⟨rfl, hb⟩))
        rename_i hHeld
        have HL := Lib.hid (HB4.out.trans (hHeld.1.out.mono HB4.out.size))
        clear hHeld
        go_wp2_with (fail)
        go_ret
        exact ⟨rfl, HL.out⟩
theorem tables_law (c : Nat) (ad : Option Addr) (ps : List Pth) (a : Int) (w : World) (hr : RowAt rPth w ad ps) (hlen : ps.length ≤ maxLen) (ha : (Lit.int .u32 a).wf = true) :
    Calls Try.prog 3 #[.slice ad ps.length c, .int .u32 a] w fun e w' => e = .returned (.bool true) ∧ Below w.heap.size w w' := by
  obtain ⟨h0, h1⟩ := wf_u32 ha
  obtain ⟨n, rfl⟩ := Int.eq_ofNat_of_zero_le h0
  by_cases hl : ps.length ≤ 100
  · exact tables_few c ad ps n w hr hl (by omega)
  · unfold maxLen at hlen
    have b1 : decide (100 < (ps.length : Int)) = true := decide_eq_true (by omega)
    clear hr
    go_enter Try.func3, Try.ntmps3
    go_wp2_with ((go_at_call 4; refine (new_calls _ _ (by omega) (by omega)).mono ?_; rintro e w1 ⟨rfl, rfl⟩))
    go_ret
    exact ⟨rfl, (Below.refl _ _).alloc (Nat.le_refl _) _⟩
end Go.Proofs.Ytjeanolcdmfbeaa
