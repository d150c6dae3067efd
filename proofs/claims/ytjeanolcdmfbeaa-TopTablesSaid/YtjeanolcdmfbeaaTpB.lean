/- TopTables: a table of paths; rib.Find. -/
import Derived.Test.YtjeanolcdmfbeaaTpA
namespace Go.Proofs.Ytjeanolcdmfbeaa
open Go.RowKit

def TabInv (tb : Nat) (ps : List Pth) (room : Int) (w : World) (i : Nat) (wr : World) : Prop :=
  ∃ nd, TreeAt wr tb nd (putsTo ps i) room (putsTo ps i).length ∧ Below w.heap.size w wr ∧ ∀ k v b, nd k v = some b → w.heap.size ≤ b
theorem TabInv.on {tb : Nat} {ps : List Pth} {room : Int} {w wr wr' : World} {i : Nat} (h : TabInv tb ps room w i wr) (hb : Below wr.heap.size wr wr') : TabInv tb ps room w i wr' := by
  obtain ⟨nd, h1, h2, h3⟩ := h
  exact ⟨nd, h1.of_same hb, h2.trans (hb.mono h2.size), h3⟩
theorem tab_new (w0 w : World) (hb : Below w0.heap.size w0 w) (ps : List Pth) (room : Int) : TabInv w.heap.size ps room w0 0 (w.alloc (newTable room)) :=
  ⟨nd0 w.heap.size, tree_new w room, hb.alloc hb.size _, fun k v b h => by
    unfold nd0 at h
    split at h
    · rw [← Option.some.inj h]; exact hb.size
    · cases h⟩
theorem tab_step {tb : Nat} {ps : List Pth} {room : Int} {w wr : World} {i : Nat} {p : Pth} (h : TabInv tb ps room w i wr) (hp : ps[i]? = some p) (hn : p.net < 2 ^ 32) (hi : (i : Int) < room) (hi2 : i ≤ 10000) :
    Calls Try.prog 5 #[.pointer (some ⟨tb, 0, none⟩), .agg #[.int .u32 p.net, .int .i64 p.bits], .int .i64 i] wr fun e w2 => ∃ code, e = .returned (.int .i64 code) ∧ TabInv tb ps room w (i + 1) w2 := by
  obtain ⟨nd, h1, h2, h3⟩ := h
  have hlen := puts_len ps i
  refine (put_calls tb nd (putsTo ps i) room p.net p.bits i wr h1 hn (by omega)).mono fun e w2 hq => ?_
  rcases hq with ⟨g1, g2, g3⟩ | ⟨_, _, g1, _⟩ | ⟨g1, _, g2, nd', g3, g4⟩
  · exact ⟨1, g2, by rw [TabInv, puts_wrong hp g1]; exact ⟨nd, h1.of_same g3, h2.trans (g3.mono h2.size), h3⟩⟩
  · omega
  · refine ⟨0, g2, nd', by rw [puts_right hp g1]; exact g3, ?_, fun k v b hb => ?_⟩
    · exact ⟨g4.os.trans h2.os, g4.tape.trans h2.tape, g4.output.trans h2.output, Nat.le_trans h2.size g4.size, fun b hb => (g4.block b (Nat.lt_of_lt_of_le hb h2.size) (fun k v e => by have := h3 k v b e; omega)).trans (h2.block b hb)⟩
    · rcases g4.fresh _ _ _ hb with e | e
      · exact h3 _ _ _ e
      · exact Nat.le_trans h2.size e
theorem tab_find {tb : Nat} {ps : List Pth} {room : Int} {w wr : World} {i a : Nat} (h : TabInv tb ps room w i wr) (ha : a < 2 ^ 32) :
    Calls Try.prog 7 #[.pointer (some ⟨tb, 0, none⟩), .int .u32 a] wr fun e w2 => e = .returned (findV (putsTo ps i) a) ∧ TabInv tb ps room w i w2 := by
  obtain ⟨nd, h1, h2, h3⟩ := h
  exact (find_calls tb nd _ room _ a wr h1 ha).mono fun e w2 hq => ⟨hq.1, TabInv.on ⟨nd, h1, h2, h3⟩ hq.2⟩
def zPth : List Value := [.int .u32 0, .int .i64 0, .int .i64 0, .int .i64 0, .slice none 0 0]
def ribPost (ps : List Pth) (a : Nat) (w : World) (e : Ending) (w' : World) : Prop :=
  Below w.heap.size w w' ∧ ((bestTo (putsTo ps ps.length) a 33 = none ∧ e = .returned (.tuple #[.agg zPth.toArray, .bool false])) ∨
    ∃ (k j : Nat) (p : Pth), bestTo (putsTo ps ps.length) a 33 = some (k, (j : Int)) ∧ ps[j]? = some p ∧ p.net = cutN a k ∧ p.bits = k ∧ e = .returned (.tuple #[.agg p.cells.toArray, .bool true]))

theorem blk_set5 {w : World} {b : Nat} {x0 x1 x2 x3 x4 : Value} {t : TypeId} {fr : Nat × Nat} (h : w.heap[b]? = some (.cells #[x0, x1, x2, x3, x4] t fr)) (v0 v1 v2 v3 v4 : Value) :
    (((((w.setCell ⟨b, 0, none⟩ v0).setCell ⟨b, 1, none⟩ v1).setCell ⟨b, 2, none⟩ v2).setCell ⟨b, 3, none⟩ v3).setCell ⟨b, 4, none⟩ v4).heap[b]? = some (.cells #[v0, v1, v2, v3, v4] t fr) :=
  blk_set (blk_set (blk_set (blk_set (blk_set h 0 _) 1 _) 2 _) 3 _) 4 _
theorem fin5 {w wr : World} (h : Below w.heap.size w wr) (o : Obj) (v0 v1 v2 v3 v4 : Value) : Below w.heap.size w ((((((wr.setCell ⟨w.heap.size, 0, none⟩ v0).setCell ⟨w.heap.size, 1, none⟩ v1).setCell ⟨w.heap.size, 2, none⟩ v2).setCell ⟨w.heap.size, 3, none⟩ v3).setCell ⟨w.heap.size, 4, none⟩ v4).alloc o) :=
  (((((((Kept.of_below h).setCell (.inr (Nat.le_refl _)) _).setCell (.inr (Nat.le_refl _)) _).setCell (.inr (Nat.le_refl _)) _).setCell (.inr (Nat.le_refl _)) _).setCell (.inr (Nat.le_refl _)) _).alloc o).below (Nat.le_refl _) (by simp)
theorem pth_cells {w w' : World} {b off : Nat} {p : Pth} (h : CellsOff w b off 0 p.cells) (hb : Below w.heap.size w w') :
    (w'.cell? ⟨b, off, none⟩ = some (.int .u32 p.net) ∧ w'.cell? ⟨b, off + 1, none⟩ = some (.int .i64 p.bits) ∧ w'.cell? ⟨b, off + 2, none⟩ = some (.int .i64 p.dir) ∧ w'.cell? ⟨b, off + 3, none⟩ = some (.int .i64 p.dist) ∧ w'.cell? ⟨b, off + 4, none⟩ = some (.slice p.via.a p.via.l.length p.via.cap)) ∧ b < w'.heap.size := by
  have hc := h.mono (CK.of_below hb)
  simp only [CellsOff, Pth.cells, Nat.reduceAdd, Nat.add_zero, and_true] at hc
  exact ⟨hc, cell_size hc.1⟩
theorem TabInv.below1 {tb : Nat} {ps : List Pth} {room : Int} {w w1 wr : World} {i : Nat} (h : TabInv tb ps room w1 i wr) (hb : Below w.heap.size w w1) : Below w.heap.size w wr := by
  obtain ⟨nd, h1, h2, h3⟩ := h
  exact hb.trans (h2.mono hb.size)
theorem TabInv.kept1 {tb : Nat} {ps : List Pth} {room : Int} {w1 wr : World} {i b : Nat} {x : Obj} (h : TabInv tb ps room w1 i wr) (hb : w1.heap[b]? = some x) : wr.heap[b]? = some x := by
  obtain ⟨nd, h1, h2, h3⟩ := h
  exact blk_below' h2 hb

set_option maxRecDepth 100000 in
set_option maxHeartbeats 2000000 in
theorem rib_calls (c : Nat) (ad : Option Addr) (ps : List Pth) (a : Nat) (w : World) (hr : RowAt rPth w ad ps) (hl : ps.length ≤ 100) (ha : a < 2 ^ 32) :
    Calls Try.prog 6 #[.slice ad ps.length c, .int .u32 a] w (ribPost ps a w) := by
  have HR := Lib.hid hr
  have HA := Lib.hid ha
  clear hr ha
  have H0 := Lib.hid (show Below w.heap.size w (w.alloc (.cells zPth.toArray 32 (0, 0))) ∧ (w.alloc (.cells zPth.toArray 32 (0, 0))).heap[w.heap.size]? = some (.cells zPth.toArray 32 (0, 0)) from ⟨(Below.refl _ _).alloc (Nat.le_refl _) _, blk_new _ _⟩)
  by_cases hz : (ps.length : Int) < 1
  · have bz : decide ((ps.length : Int) < 1) = true := decide_eq_true hz
    have HT0 : Hid (TabInv (w.heap.size + 1) ps 1 (w.alloc (.cells zPth.toArray 32 (0, 0))) 0 ((w.alloc (.cells zPth.toArray 32 (0, 0))).alloc (newTable 1))) := Lib.hid (by rw [← World.size_alloc w (.cells zPth.toArray 32 (0, 0))]; exact tab_new _ _ (Below.refl _ _) ps 1)
    go_enter Try.func6, Try.ntmps6
    go_wp2_with ((go_at_call 4; refine (new_calls _ _ (by omega) (by omega)).mono ?_; rintro e w1 ⟨rfl, rfl⟩))
    go_loopg [29] (ps.length + 1) (fun g i wr => ∃ j : Nat, j ≤ ps.length ∧ g + j = ps.length + 1 ∧ i = .int .i64 j ∧ Hid (TabInv (w.heap.size + 1) ps 1 (w.alloc (.cells zPth.toArray 32 (0, 0))) j wr))
    case atStart => exact ⟨0, Nat.zero_le _, rfl, rfl, HT0⟩
    case round =>
      clear HT0
      obtain ⟨j, hj, hg, rfl, HI⟩ := hrel
      by_cases hlt : j < ps.length
      · omega
      · have hlt3 : ¬ (j : Int) < ps.length := by omega
        have bl : decide ((j : Int) < ps.length) = false := decide_eq_false hlt3
        have HJN := Lib.hid (show j = ps.length by omega)
        cases hbt : bestTo (putsTo ps ps.length) a 33 with
        | none =>
          have HBT := Lib.hid hbt
          have HV := Lib.hid (show findV (putsTo ps j) a = .tuple #[.agg #[.int .u32 0, .int .i64 0], .int .i64 0, .bool false] by rw [HJN.out, findV, hbt]; rfl)
          clear hbt
          go_wp2_with ((go_at_call 7; refine (tab_find HI.out HA.out).mono ?_; rintro e w2 ⟨rfl, h2⟩; rw [HV.out]; have HZ := Lib.hid (And.intro (h2.below1 H0.out.1) (h2.kept1 H0.out.2)); have z := cells_all HZ.out.2; simp only [CellsAt, zPth, Nat.reduceAdd, and_true] at z; obtain ⟨z0, z1, z2, z3, z4⟩ := z; have zs := size_of HZ.out.2; have zf0 := frz HZ.out.2 0; have zf1 := frz HZ.out.2 1; have zf2 := frz HZ.out.2 2; have zf3 := frz HZ.out.2 3; have zf4 := frz HZ.out.2 4; clear h2))
          refine bodyPost_ret (results_cell_tmp rfl _ _ rfl (run_loadVar_row _ _ 32 32 _ (0, 0) _ (blk_alloc (blk_set5 HZ.out.2 _ _ _ _ _) _) Try.underlying32 rfl (by kernel_rfl))) rfl ?_
          exact ⟨fin5 HZ.out.1 _ _ _ _ _ _, .inl ⟨HBT.out, rfl⟩⟩
        | some r =>
          obtain ⟨k, n⟩ := r
          obtain ⟨i, p, hi, rfl, hp, hpn, hpb⟩ := found_is hbt
          omega
  · have bz : decide ((ps.length : Int) < 1) = false := decide_eq_false hz
    have HT0 : Hid (TabInv (w.heap.size + 1) ps (ps.length : Int) (w.alloc (.cells zPth.toArray 32 (0, 0))) 0 ((w.alloc (.cells zPth.toArray 32 (0, 0))).alloc (newTable (ps.length : Int)))) := Lib.hid (by rw [← World.size_alloc w (.cells zPth.toArray 32 (0, 0))]; exact tab_new _ _ (Below.refl _ _) ps (ps.length : Int))
    go_enter Try.func6, Try.ntmps6
    go_wp2_with ((go_at_call 4; refine (new_calls _ _ (by omega) (by omega)).mono ?_; rintro e w1 ⟨rfl, rfl⟩))
    go_loopg [29] (ps.length + 1) (fun g i wr => ∃ j : Nat, j ≤ ps.length ∧ g + j = ps.length + 1 ∧ i = .int .i64 j ∧ Hid (TabInv (w.heap.size + 1) ps (ps.length : Int) (w.alloc (.cells zPth.toArray 32 (0, 0))) j wr))
    case atStart => exact ⟨0, Nat.zero_le _, rfl, rfl, HT0⟩
    case round =>
      clear HT0
      obtain ⟨j, hj, hg, rfl, HI⟩ := hrel
      by_cases hlt : j < ps.length
      · have e1 : IntKind.i64.wrap ((j : Int) + 1) = (j : Int) + 1 := IntWalk.i64_in _ (by omega)
        obtain ⟨b, off, cs, rfl, hc, hR⟩ := HR.out.get (List.getElem?_eq_getElem hlt)
        have hp? : ps[j]? = some ps[j] := List.getElem?_eq_getElem hlt
        generalize ps[j] = p at hR hp?
        have HP := Lib.hid hp?
        obtain ⟨rfl, hnet, -⟩ := rPth_out hR
        have HNET := Lib.hid hnet
        obtain ⟨⟨c0, c1, c2, c3, c4⟩, bl⟩ := pth_cells (show CellsOff w b (off + j * 5) 0 p.cells from hc) (HI.out.below1 H0.out.1)
        clear hc hR hnet hp?
        go_wp2_with ((go_at_call 5; refine (tab_step (HI.out.on ((Below.refl _ _).alloc (Nat.le_refl _) _)) HP.out HNET.out (by omega) (by omega)).mono ?_; rintro e w2 ⟨code, rfl, h2⟩; have HJ := Lib.hid h2; clear h2))
        go_roundg (ps.length - j)
        case measure => omega
        case rel => exact ⟨j + 1, by omega, by omega, by go_num, HJ⟩
      · have hlt3 : ¬ (j : Int) < ps.length := by omega
        have bl : decide ((j : Int) < ps.length) = false := decide_eq_false hlt3
        have HJN := Lib.hid (show j = ps.length by omega)
        cases hbt : bestTo (putsTo ps ps.length) a 33 with
        | none =>
          have HBT := Lib.hid hbt
          have HV := Lib.hid (show findV (putsTo ps j) a = .tuple #[.agg #[.int .u32 0, .int .i64 0], .int .i64 0, .bool false] by rw [HJN.out, findV, hbt]; rfl)
          clear hbt
          go_wp2_with ((go_at_call 7; refine (tab_find HI.out HA.out).mono ?_; rintro e w2 ⟨rfl, h2⟩; rw [HV.out]; have HZ := Lib.hid (And.intro (h2.below1 H0.out.1) (h2.kept1 H0.out.2)); have z := cells_all HZ.out.2; simp only [CellsAt, zPth, Nat.reduceAdd, and_true] at z; obtain ⟨z0, z1, z2, z3, z4⟩ := z; have zs := size_of HZ.out.2; have zf0 := frz HZ.out.2 0; have zf1 := frz HZ.out.2 1; have zf2 := frz HZ.out.2 2; have zf3 := frz HZ.out.2 3; have zf4 := frz HZ.out.2 4; clear h2))
          refine bodyPost_ret (results_cell_tmp rfl _ _ rfl (run_loadVar_row _ _ 32 32 _ (0, 0) _ (blk_alloc (blk_set5 HZ.out.2 _ _ _ _ _) _) Try.underlying32 rfl (by kernel_rfl))) rfl ?_
          exact ⟨fin5 HZ.out.1 _ _ _ _ _ _, .inl ⟨HBT.out, rfl⟩⟩
        | some r =>
          obtain ⟨k, n⟩ := r
          obtain ⟨i, p, hi, rfl, hp, hpn, hpb⟩ := found_is hbt
          have HBT := Lib.hid hbt
          have HV := Lib.hid (show findV (putsTo ps j) a = .tuple #[.agg #[.int .u32 (cutN a k), .int .i64 k], .int .i64 i, .bool true] by rw [HJN.out, findV, hbt]; rfl)
          obtain ⟨b, off, cs, rfl, hc, hR⟩ := HR.out.get hp
          obtain ⟨rfl, -, -⟩ := rPth_out hR
          have HC := Lib.hid (show CellsOff w b (off + i * 5) 0 p.cells from hc)
          have HP := Lib.hid (And.intro hp (And.intro hpn hpb))
          have hi2 : (i : Int) < ps.length := by omega
          clear hbt hp hpn hpb hc hR
          go_wp2_with ((go_at_call 7; refine (tab_find HI.out HA.out).mono ?_; rintro e w2 ⟨rfl, h2⟩; rw [HV.out]; have HZ := Lib.hid (And.intro (h2.below1 H0.out.1) (h2.kept1 H0.out.2)); have z := cells_all HZ.out.2; simp only [CellsAt, zPth, Nat.reduceAdd, and_true] at z; obtain ⟨z0, z1, z2, z3, z4⟩ := z; have zs := size_of HZ.out.2; have zf0 := frz HZ.out.2 0; have zf1 := frz HZ.out.2 1; have zf2 := frz HZ.out.2 2; have zf3 := frz HZ.out.2 3; have zf4 := frz HZ.out.2 4; obtain ⟨⟨c0, c1, c2, c3, c4⟩, bl5⟩ := pth_cells HC.out HZ.out.1; clear h2))
          refine bodyPost_ret (results_cell_tmp rfl _ _ rfl (run_loadVar_row _ _ 32 32 _ (0, 0) _ (blk_alloc (blk_set5 HZ.out.2 _ _ _ _ _) _) Try.underlying32 rfl (by kernel_rfl))) rfl ?_
          exact ⟨fin5 HZ.out.1 _ _ _ _ _ _, .inr ⟨k, i, p, HBT.out, HP.out.1, HP.out.2.1, HP.out.2.2, rfl⟩⟩
end Go.Proofs.Ytjeanolcdmfbeaa
