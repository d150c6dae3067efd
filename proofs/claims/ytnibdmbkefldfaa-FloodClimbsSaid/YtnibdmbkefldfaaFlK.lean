/- The law FloodClimbs: the walk. -/
import Derived.Test.YtnibdmbkefldfaaFlJ
import Derived.RegionTactic
namespace Go.Proofs.Ytnibdmbkefldfaa
open Go.RowKit

def ClimbInv (t : Tie) (w wr : World) : Prop :=
  Below w.heap.size w wr ∧ wr.heap[w.heap.size]? = some (.cells t.cells.toArray 35 (0, 0))
theorem ClimbInv.next {t : Tie} {w wr w2 : World} (h : ClimbInv t w wr) (hb : Below wr.heap.size wr w2) : ClimbInv t w w2 := ⟨h.1.trans (hb.mono h.1.size), blk_below' hb h.2⟩

theorem climb_mid {t : Tie} {w wr wq : World} {o1 o2 : Obj} {n : Nat} (h : ClimbInv t w wr) (hW : (((wr.alloc o1).alloc o2).drew.drew).drewN n = wq) :
    ClimbInv t w wq ∧ wq.heap[wr.heap.size]? = some o1 ∧ wq.heap[wr.heap.size + 1]? = some o2 := by
  subst hW
  refine ⟨h.next ?_, ?_, ?_⟩
  · exact (((Below.refl _ _).alloc (Nat.le_refl _) _).alloc (by simp) _).trans ⟨rfl, rfl, rfl, Nat.le_refl _, fun _ _ => rfl⟩
  · exact blk_alloc (blk_new _ _) _
  · exact blk_new' _ _ _ (by simp)

theorem keepC {t : Tie} {w wr w2 : World} {B1 B2 i n : Nat} {p q : Int} (hb0 : Below n wr w2) (hn : wr.heap.size ≤ n) (h : Hid (ClimbInv t w wr) ∧ wr.cell? ⟨w.heap.size, 1, none⟩ = some (.int .i64 t.o) ∧ wr.cell? ⟨B2, 0, none⟩ = some (.int .i64 2) ∧ wr.cell? ⟨B2, 1, none⟩ = some (.int .i64 t.o) ∧ wr.cell? ⟨B2, 2, none⟩ = some (.int .i64 t.k) ∧ wr.cell? ⟨B2, 3, none⟩ = some (.int .i64 t.nr) ∧ wr.cell? ⟨B2, 4, none⟩ = some (.int .i64 t.seq) ∧ wr.cell? ⟨B2, 5, none⟩ = some (.int .i64 t.life) ∧ wr.cell? ⟨B2, 6, none⟩ = some (.int .i64 t.lv) ∧ wr.cell? ⟨B2, 7, none⟩ = some (.bool t.ov) ∧ wr.cell? ⟨B2, 8, none⟩ = some (.slice t.e.a t.e.l.length t.e.cap) ∧ wr.cell? ⟨B2, 9, none⟩ = some (.slice t.r.a t.r.l.length t.r.cap) ∧ wr.cell? ⟨B2 + 1, 0, none⟩ = some (.int .i64 1) ∧ wr.cell? ⟨B2 + 1, 1, none⟩ = some (.int .i64 t.o) ∧ wr.cell? ⟨B2 + 1, 2, none⟩ = some (.int .i64 t.k) ∧ wr.cell? ⟨B2 + 1, 3, none⟩ = some (.int .i64 t.nr) ∧ wr.cell? ⟨B2 + 1, 4, none⟩ = some (.int .i64 t.seq) ∧ wr.cell? ⟨B2 + 1, 5, none⟩ = some (.int .i64 t.life) ∧ wr.cell? ⟨B2 + 1, 6, none⟩ = some (.int .i64 t.lv) ∧ wr.cell? ⟨B2 + 1, 7, none⟩ = some (.bool t.ov) ∧ wr.cell? ⟨B2 + 1, 8, none⟩ = some (.slice t.e.a t.e.l.length t.e.cap) ∧ wr.cell? ⟨B2 + 1, 9, none⟩ = some (.slice t.r.a t.r.l.length t.r.cap) ∧ wr.cell? ⟨B1, 0, none⟩ = some (.int .i64 ↑i) ∧ wr.cell? ⟨B1, 1, none⟩ = some (.int .i64 p) ∧ wr.cell? ⟨B1, 2, none⟩ = some (.bool false) ∧ wr.cell? ⟨B1, 3, none⟩ = some (.int .i64 (↑i + 1)) ∧ wr.cell? ⟨B1, 4, none⟩ = some (.int .i64 0) ∧ wr.cell? ⟨B1, 5, none⟩ = some (.int .i64 q) ∧ wr.cell? ⟨B1, 6, none⟩ = some (.int .i64 0) ∧ wr.cell? ⟨B1 + 1, 0, none⟩ = some (.int .i64 (↑i + 1)) ∧ wr.cell? ⟨B1 + 1, 1, none⟩ = some (.int .i64 q) ∧ wr.cell? ⟨B1 + 1, 2, none⟩ = some (.bool false) ∧ wr.cell? ⟨B1 + 1, 3, none⟩ = some (.int .i64 ↑i) ∧ wr.cell? ⟨B1 + 1, 4, none⟩ = some (.int .i64 0) ∧ wr.cell? ⟨B1 + 1, 5, none⟩ = some (.int .i64 p) ∧ wr.cell? ⟨B1 + 1, 6, none⟩ = some (.int .i64 0)) : Hid (ClimbInv t w w2) ∧ w2.cell? ⟨w.heap.size, 1, none⟩ = some (.int .i64 t.o) ∧ w2.cell? ⟨B2, 0, none⟩ = some (.int .i64 2) ∧ w2.cell? ⟨B2, 1, none⟩ = some (.int .i64 t.o) ∧ w2.cell? ⟨B2, 2, none⟩ = some (.int .i64 t.k) ∧ w2.cell? ⟨B2, 3, none⟩ = some (.int .i64 t.nr) ∧ w2.cell? ⟨B2, 4, none⟩ = some (.int .i64 t.seq) ∧ w2.cell? ⟨B2, 5, none⟩ = some (.int .i64 t.life) ∧ w2.cell? ⟨B2, 6, none⟩ = some (.int .i64 t.lv) ∧ w2.cell? ⟨B2, 7, none⟩ = some (.bool t.ov) ∧ w2.cell? ⟨B2, 8, none⟩ = some (.slice t.e.a t.e.l.length t.e.cap) ∧ w2.cell? ⟨B2, 9, none⟩ = some (.slice t.r.a t.r.l.length t.r.cap) ∧ w2.cell? ⟨B2 + 1, 0, none⟩ = some (.int .i64 1) ∧ w2.cell? ⟨B2 + 1, 1, none⟩ = some (.int .i64 t.o) ∧ w2.cell? ⟨B2 + 1, 2, none⟩ = some (.int .i64 t.k) ∧ w2.cell? ⟨B2 + 1, 3, none⟩ = some (.int .i64 t.nr) ∧ w2.cell? ⟨B2 + 1, 4, none⟩ = some (.int .i64 t.seq) ∧ w2.cell? ⟨B2 + 1, 5, none⟩ = some (.int .i64 t.life) ∧ w2.cell? ⟨B2 + 1, 6, none⟩ = some (.int .i64 t.lv) ∧ w2.cell? ⟨B2 + 1, 7, none⟩ = some (.bool t.ov) ∧ w2.cell? ⟨B2 + 1, 8, none⟩ = some (.slice t.e.a t.e.l.length t.e.cap) ∧ w2.cell? ⟨B2 + 1, 9, none⟩ = some (.slice t.r.a t.r.l.length t.r.cap) ∧ w2.cell? ⟨B1, 0, none⟩ = some (.int .i64 ↑i) ∧ w2.cell? ⟨B1, 1, none⟩ = some (.int .i64 p) ∧ w2.cell? ⟨B1, 2, none⟩ = some (.bool false) ∧ w2.cell? ⟨B1, 3, none⟩ = some (.int .i64 (↑i + 1)) ∧ w2.cell? ⟨B1, 4, none⟩ = some (.int .i64 0) ∧ w2.cell? ⟨B1, 5, none⟩ = some (.int .i64 q) ∧ w2.cell? ⟨B1, 6, none⟩ = some (.int .i64 0) ∧ w2.cell? ⟨B1 + 1, 0, none⟩ = some (.int .i64 (↑i + 1)) ∧ w2.cell? ⟨B1 + 1, 1, none⟩ = some (.int .i64 q) ∧ w2.cell? ⟨B1 + 1, 2, none⟩ = some (.bool false) ∧ w2.cell? ⟨B1 + 1, 3, none⟩ = some (.int .i64 ↑i) ∧ w2.cell? ⟨B1 + 1, 4, none⟩ = some (.int .i64 0) ∧ w2.cell? ⟨B1 + 1, 5, none⟩ = some (.int .i64 p) ∧ w2.cell? ⟨B1 + 1, 6, none⟩ = some (.int .i64 0) := by
  have hb := hb0.mono hn
  obtain ⟨h0, h1, h2, h3, h4, h5, h6, h7, h8, h9, h10, h11, h12, h13, h14, h15, h16, h17, h18, h19, h20, h21, h22, h23, h24, h25, h26, h27, h28, h29, h30, h31, h32, h33, h34, h35⟩ := h
  exact ⟨h0.out.next hb, ck_next hb h1, ck_next hb h2, ck_next hb h3, ck_next hb h4, ck_next hb h5, ck_next hb h6, ck_next hb h7, ck_next hb h8, ck_next hb h9, ck_next hb h10, ck_next hb h11, ck_next hb h12, ck_next hb h13, ck_next hb h14, ck_next hb h15, ck_next hb h16, ck_next hb h17, ck_next hb h18, ck_next hb h19, ck_next hb h20, ck_next hb h21, ck_next hb h22, ck_next hb h23, ck_next hb h24, ck_next hb h25, ck_next hb h26, ck_next hb h27, ck_next hb h28, ck_next hb h29, ck_next hb h30, ck_next hb h31, ck_next hb h32, ck_next hb h33, ck_next hb h34, ck_next hb h35⟩
theorem climb_last {t : Tie} {w wq w5 : World} {B1 B2 : Nat} {o1 o2 : Obj} (h : ClimbInv t w wq) (hs1 : wq.heap[B1]? = some o1) (hs2 : wq.heap[B1 + 1]? = some o2) (hB : wq.heap.size = B2)
    (hW : (wq.alloc (.cells (Tie.cells { t with d := 2 }).toArray 35 (0, 0))).alloc (.cells (Tie.cells { t with d := 1 }).toArray 35 (0, 0)) = w5) :
    ClimbInv t w w5 ∧ w5.heap[B1]? = some o1 ∧ w5.heap[B1 + 1]? = some o2 ∧ w5.heap[B2]? = some (.cells (Tie.cells { t with d := 2 }).toArray 35 (0, 0)) ∧ w5.heap[B2 + 1]? = some (.cells (Tie.cells { t with d := 1 }).toArray 35 (0, 0)) := by
  subst hW hB
  exact ⟨h.next (((Below.refl _ _).alloc (Nat.le_refl _) _).alloc (by simp) _), blk_alloc (blk_alloc hs1 _) _, blk_alloc (blk_alloc hs2 _) _, blk_alloc (blk_new _ _) _, blk_new' _ _ _ (by simp)⟩
theorem goes_up (t : Tie) (i : Nat) (p q : Int) (h : p < q) : rAny 2 (cmpI q p) t.o t.k t.lv i false ((i : Int) + 1) q = true := by
  rw [ref_eq]; simp [refB, h]
theorem goes_dn (t : Tie) (i : Nat) (p q : Int) (h : p < q) : rAny 2 (cmpI p q) t.o t.k t.lv ((i : Int) + 1) false i p = false := by
  have h1 : ¬ q < p := by omega
  have h2 : ¬ p = q := by omega
  rw [ref_eq]; simp [refB, h1, h2]
theorem goes_so (t : Tie) (i : Nat) (p q : Int) (h : p < q) : rAny 1 (cmpI p q) t.o t.k t.lv ((i : Int) + 1) false i p = (t.o == (i : Int) + 1) := by
  have h1 : ¬ q < p := by omega
  have h2 : ¬ p = q := by omega
  rw [ref_eq]; simp [refB, h1, h2]

set_option maxRecDepth 100000 in
set_option maxHeartbeats 1000000 in
theorem climbs_law (t : Tie) (a : Option Addr) (c : Nat) (l : List Int) (w : World) (hr : RowAt (Rd.int .i64) w a l) (hmax : l.length ≤ maxLen) : Calls Try.prog 5 #[t.v, .slice a l.length c] w
    fun e w' => e = .returned (.bool true) ∧ Below w.heap.size w w' := by
  have HR := Lib.hid hr
  clear hr
  unfold maxLen at hmax
  unfold Tie.v Tie.cells
  go_enter Try.func5, Try.ntmps5
  go_wp2_with fail
  refine (awake_calls _).mono ?_
  rintro e w1 ⟨rfl, hb1⟩
  have HI := Lib.hid (ClimbInv.next (t := t) (w := w) ⟨(Below.refl _ _).alloc (Nat.le_refl _) _, blk_new _ _⟩ hb1)
  clear hb1
  by_cases h50 : (50 : Int) < l.length
  · go_wp2_with fail
    go_ret
    exact ⟨rfl, HI.out.1⟩
  · go_wp2_with fail
    go_loopg [6] (l.length + 1) (fun g k wr => ∃ i : Nat, 1 ≤ i ∧ i ≤ l.length + 1 ∧ g + i = l.length + 2 ∧ k = .int .i64 i ∧ Hid (ClimbInv t w wr))
    case atStart => exact ⟨1, Nat.le_refl _, by omega, by omega, rfl, HI⟩
    case round =>
      clear HI
      obtain ⟨i, hi1, hil, hg, rfl, HI⟩ := hrel
      by_cases hlt : i < l.length
      · obtain ⟨b, off, cs, rfl, hc, hR⟩ := HR.out.get (i := i) (List.getElem?_eq_getElem hlt)
        obtain ⟨b', off', cs', hbo, hc', hR'⟩ := HR.out.get (i := i - 1) (List.getElem?_eq_getElem (show i - 1 < l.length by omega))
        obtain ⟨rfl, rfl⟩ : b' = b ∧ off' = off := by simpa using hbo.symm
        clear hbo
        generalize l[i] = q at hR
        generalize l[i - 1] = p at hR'
        obtain ⟨rfl, _⟩ := hR
        obtain ⟨rfl, _⟩ := hR'
        have c1 := (hc.mono (CK.of_below HI.out.1)).1
        have c0 := (hc'.mono (CK.of_below HI.out.1)).1
        change wr.cell? ⟨b', off' + i * 1 + 0, none⟩ = _ at c1
        change wr.cell? ⟨b', off' + (i - 1) * 1 + 0, none⟩ = _ at c0
        simp only [Nat.mul_one, Nat.add_zero] at c0 c1
        clear hc hc'
        have y0 := cell_size c0
        have e1 : IntKind.i64.wrap ((i : Int) - 1) = (i : Int) - 1 := IntWalk.i64_in _ (by omega)
        have e2 : IntKind.i64.wrap ((i : Int) + 1) = (i : Int) + 1 := IntWalk.i64_in _ (by omega)
        have e3 : ((i : Int) - 1).toNat = i - 1 := by omega
        have e4 : 0 ≤ (i : Int) - 1 := by omega
        have e5 : (i : Int) - 1 < (l.length : Int) := by omega
        have yt := size_of HI.out.2
        have yz := HI.out.1.size
        have k1 := cells_all HI.out.2
        simp only [CellsAt, Tie.cells, Nat.reduceAdd, and_true] at k1
        obtain ⟨a0, a1, a2, a3, a4, a5, a6, a7, a8, a9⟩ := k1
        go_wp2_with fail
        go_region
        go_wp2_with fail
        go_region
        go_wp2_with fail
        go_quiet (fail)
        generalize hW : World.drewN _ _ = wq
        obtain ⟨hI2, hs1, hs2⟩ := climb_mid HI.out hW
        have HI2 := Lib.hid hI2
        have HS1 := Lib.hid hs1
        have HS2 := Lib.hid hs2
        clear hW hI2 hs1 hs2 HI c0 c1 a0 a1 a2 a3 a4 a5 a6 a7 a8 a9 y0
        generalize wr.heap.size = B1 at *
        have k1 := cells_all HI2.out.2
        have k2 := cells_all HS1.out
        have k3 := cells_all HS2.out
        have q1 := size_of HS1.out
        have q2 := size_of HS2.out
        have q0 := size_of HI2.out.2
        have qz := HI2.out.1.size
        simp only [CellsAt, Tie.cells, Nat.reduceAdd, and_true] at k1 k2 k3
        obtain ⟨a0, a1, a2, a3, a4, a5, a6, a7, a8, a9⟩ := k1
        by_cases hqp : q ≤ p
        · clear k2 k3
          go_wp2_with fail
          go_ret
          exact ⟨rfl, HI2.out.1⟩
        · go_wp2_with fail
          generalize hW : World.alloc (World.alloc wq _) _ = w5
          generalize hB : wq.heap.size = B2
          obtain ⟨hI3, h1, h2, h3, h4⟩ := climb_last HI2.out HS1.out HS2.out hB hW
          have h0 := Lib.hid hI3
          have a1' := (cells_all hI3.2).2.1
          have k1 := cells_all h1
          have k2 := cells_all h2
          have k3 := cells_all h3
          have k4 := cells_all h4
          have U1 := Lib.hid (goes_up t i p q (by omega))
          have U2 := Lib.hid (goes_dn t i p q (by omega))
          have U3 := Lib.hid (goes_so t i p q (by omega))
          clear hI3 h1 h2 h3 h4 hW hB HI2 HS1 HS2 a0 a1 a2 a3 a4 a5 a6 a7 a8 a9 q0 q1 q2 qz yt yz
          simp only [CellsAt, Tie.cells, Nat.reduceAdd, and_true] at k1 k2 k3 k4 a1'
          obtain ⟨s0, s1, s2, s3, s4, s5, s6⟩ := k1
          obtain ⟨r0, r1, r2, r3, r4, r5, r6⟩ := k2
          obtain ⟨m0, m1, m2, m3, m4, m5, m6, m7, m8, m9⟩ := k3
          obtain ⟨n0, n1, n2, n3, n4, n5, n6, n7, n8, n9⟩ := k4
          go_region_held3 (fun w' => Hid (ClimbInv t w w') ∧ w'.cell? ⟨w.heap.size, 1, none⟩ = some (.int .i64 t.o) ∧ w'.cell? ⟨B2, 0, none⟩ = some (.int .i64 2) ∧ w'.cell? ⟨B2, 1, none⟩ = some (.int .i64 t.o) ∧ w'.cell? ⟨B2, 2, none⟩ = some (.int .i64 t.k) ∧ w'.cell? ⟨B2, 3, none⟩ = some (.int .i64 t.nr) ∧ w'.cell? ⟨B2, 4, none⟩ = some (.int .i64 t.seq) ∧ w'.cell? ⟨B2, 5, none⟩ = some (.int .i64 t.life) ∧ w'.cell? ⟨B2, 6, none⟩ = some (.int .i64 t.lv) ∧ w'.cell? ⟨B2, 7, none⟩ = some (.bool t.ov) ∧ w'.cell? ⟨B2, 8, none⟩ = some (.slice t.e.a t.e.l.length t.e.cap) ∧ w'.cell? ⟨B2, 9, none⟩ = some (.slice t.r.a t.r.l.length t.r.cap) ∧ w'.cell? ⟨B2 + 1, 0, none⟩ = some (.int .i64 1) ∧ w'.cell? ⟨B2 + 1, 1, none⟩ = some (.int .i64 t.o) ∧ w'.cell? ⟨B2 + 1, 2, none⟩ = some (.int .i64 t.k) ∧ w'.cell? ⟨B2 + 1, 3, none⟩ = some (.int .i64 t.nr) ∧ w'.cell? ⟨B2 + 1, 4, none⟩ = some (.int .i64 t.seq) ∧ w'.cell? ⟨B2 + 1, 5, none⟩ = some (.int .i64 t.life) ∧ w'.cell? ⟨B2 + 1, 6, none⟩ = some (.int .i64 t.lv) ∧ w'.cell? ⟨B2 + 1, 7, none⟩ = some (.bool t.ov) ∧ w'.cell? ⟨B2 + 1, 8, none⟩ = some (.slice t.e.a t.e.l.length t.e.cap) ∧ w'.cell? ⟨B2 + 1, 9, none⟩ = some (.slice t.r.a t.r.l.length t.r.cap) ∧ w'.cell? ⟨B1, 0, none⟩ = some (.int .i64 ↑i) ∧ w'.cell? ⟨B1, 1, none⟩ = some (.int .i64 p) ∧ w'.cell? ⟨B1, 2, none⟩ = some (.bool false) ∧ w'.cell? ⟨B1, 3, none⟩ = some (.int .i64 (↑i + 1)) ∧ w'.cell? ⟨B1, 4, none⟩ = some (.int .i64 0) ∧ w'.cell? ⟨B1, 5, none⟩ = some (.int .i64 q) ∧ w'.cell? ⟨B1, 6, none⟩ = some (.int .i64 0) ∧ w'.cell? ⟨B1 + 1, 0, none⟩ = some (.int .i64 (↑i + 1)) ∧ w'.cell? ⟨B1 + 1, 1, none⟩ = some (.int .i64 q) ∧ w'.cell? ⟨B1 + 1, 2, none⟩ = some (.bool false) ∧ w'.cell? ⟨B1 + 1, 3, none⟩ = some (.int .i64 ↑i) ∧ w'.cell? ⟨B1 + 1, 4, none⟩ = some (.int .i64 0) ∧ w'.cell? ⟨B1 + 1, 5, none⟩ = some (.int .i64 p) ∧ w'.cell? ⟨B1 + 1, 6, none⟩ = some (.int .i64 0))
            (first | exact keepC (below_drew w5) (Nat.le_refl _) ⟨h0, a1', m0, m1, m2, m3, m4, m5, m6, m7, m8, m9, n0, n1, n2, n3, n4, n5, n6, n7, n8, n9, s0, s1, s2, s3, s4, s5, s6, r0, r1, r2, r3, r4, r5, r6⟩ | (refine keepC hb (Nat.le_refl _) ?_; assumption))
            ((go_at_call 8; refine (goes_any _ _ _ _ _ _ _ _ _ _ _ _ _ _ _ _ _ _ _ _ _ _ ).mono ?_; rintro e w' ⟨he, hb⟩; (first | rw [U1.out] at he | rw [U2.out] at he | rw [U3.out] at he); subst he))
          rename_i hHeld
          have HI3 := hHeld.1
          clear hHeld h0 a1' m0 m1 m2 m3 m4 m5 m6 m7 m8 m9 n0 n1 n2 n3 n4 n5 n6 n7 n8 n9 s0 s1 s2 s3 s4 s5 s6 r0 r1 r2 r3 r4 r5 r6
          go_wp2_with fail
          go_roundg (l.length + 1 - i)
          case measure => omega
          case rel => exact ⟨i + 1, by omega, by omega, by omega, by go_num, HI3⟩
      · go_wp2_with fail
        go_ret
        exact ⟨rfl, HI.out.1⟩
end Go.Proofs.Ytnibdmbkefldfaa
