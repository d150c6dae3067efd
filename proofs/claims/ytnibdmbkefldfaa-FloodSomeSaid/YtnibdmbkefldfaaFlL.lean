/- The law FloodSome: the walk. -/
import Derived.Test.YtnibdmbkefldfaaFlI
import Derived.Test.YtnibdmbkefldfaaApp
namespace Go.Proofs.Ytnibdmbkefldfaa
open Go.RowKit

theorem cell_grown {w w' : World} {row : Option Nat} (hg : w.grownBy w' row) {a : Addr} {v : Value} (h : w.cell? a = some v) (hne : some a.block ≠ row) : w'.cell? a = some v := by
  rw [World.cell?_of_block (hg.block a.block (cell_size h) hne)]; exact h
theorem keepU {s : Scope} {w w3 wr w2 : World} {n : Nat} (hb0 : Below n wr w2) (hn : wr.heap.size ≤ n) (h : Hid (Below w3.heap.size w3 wr) ∧ w3.heap.size ≤ wr.heap.size ∧ wr.cell? ⟨w.heap.size, 0, none⟩ = some (.int .i64 s.self) ∧ wr.cell? ⟨w.heap.size, 1, none⟩ = some (.int .i64 s.slv) ∧ wr.cell? ⟨w.heap.size, 2, none⟩ = some (.bool s.top) ∧ wr.cell? ⟨w.heap.size, 3, none⟩ = some (.int .i64 s.on) ∧ wr.cell? ⟨w.heap.size, 4, none⟩ = some (.int .i64 s.ol) ∧ wr.cell? ⟨w.heap.size, 5, none⟩ = some (.int .i64 s.olv) ∧ wr.cell? ⟨w.heap.size, 6, none⟩ = some (.int .i64 s.onc)) : Hid (Below w3.heap.size w3 w2) ∧ w3.heap.size ≤ w2.heap.size ∧ w2.cell? ⟨w.heap.size, 0, none⟩ = some (.int .i64 s.self) ∧ w2.cell? ⟨w.heap.size, 1, none⟩ = some (.int .i64 s.slv) ∧ w2.cell? ⟨w.heap.size, 2, none⟩ = some (.bool s.top) ∧ w2.cell? ⟨w.heap.size, 3, none⟩ = some (.int .i64 s.on) ∧ w2.cell? ⟨w.heap.size, 4, none⟩ = some (.int .i64 s.ol) ∧ w2.cell? ⟨w.heap.size, 5, none⟩ = some (.int .i64 s.olv) ∧ w2.cell? ⟨w.heap.size, 6, none⟩ = some (.int .i64 s.onc) := by
  have hb := hb0.mono hn
  obtain ⟨h0, hz, h1, h2, h3, h4, h5, h6, h7⟩ := h
  exact ⟨h0.out.trans (hb.mono hz), Nat.le_trans hz hb.size, ck_next hb h1, ck_next hb h2, ck_next hb h3, ck_next hb h4, ck_next hb h5, ck_next hb h6, ck_next hb h7⟩
theorem keepV {s : Scope} {w w3 wr w2 : World} {row : Option Nat} (hw : w.heap.size < w3.heap.size) (hg : wr.grownBy w2 row) (hr : ∀ k, row = some k → w3.heap.size ≤ k) (h : Hid (Below w3.heap.size w3 wr) ∧ w3.heap.size ≤ wr.heap.size ∧ wr.cell? ⟨w.heap.size, 0, none⟩ = some (.int .i64 s.self) ∧ wr.cell? ⟨w.heap.size, 1, none⟩ = some (.int .i64 s.slv) ∧ wr.cell? ⟨w.heap.size, 2, none⟩ = some (.bool s.top) ∧ wr.cell? ⟨w.heap.size, 3, none⟩ = some (.int .i64 s.on) ∧ wr.cell? ⟨w.heap.size, 4, none⟩ = some (.int .i64 s.ol) ∧ wr.cell? ⟨w.heap.size, 5, none⟩ = some (.int .i64 s.olv) ∧ wr.cell? ⟨w.heap.size, 6, none⟩ = some (.int .i64 s.onc)) : Hid (Below w3.heap.size w3 w2) ∧ w3.heap.size ≤ w2.heap.size ∧ w2.cell? ⟨w.heap.size, 0, none⟩ = some (.int .i64 s.self) ∧ w2.cell? ⟨w.heap.size, 1, none⟩ = some (.int .i64 s.slv) ∧ w2.cell? ⟨w.heap.size, 2, none⟩ = some (.bool s.top) ∧ w2.cell? ⟨w.heap.size, 3, none⟩ = some (.int .i64 s.on) ∧ w2.cell? ⟨w.heap.size, 4, none⟩ = some (.int .i64 s.ol) ∧ w2.cell? ⟨w.heap.size, 5, none⟩ = some (.int .i64 s.olv) ∧ w2.cell? ⟨w.heap.size, 6, none⟩ = some (.int .i64 s.onc) := by
  obtain ⟨h0, hz, h1, h2, h3, h4, h5, h6, h7⟩ := h
  have hne : ∀ o, some (⟨w.heap.size, o, none⟩ : Addr).block ≠ row := fun o e => by have h := hr _ e.symm; simp at h; omega
  exact ⟨h0.out.grown hg hz hr, Nat.le_trans hz hg.size,
    cell_grown hg h1 (hne _), cell_grown hg h2 (hne _), cell_grown hg h3 (hne _), cell_grown hg h4 (hne _), cell_grown hg h5 (hne _), cell_grown hg h6 (hne _), cell_grown hg h7 (hne _)⟩
theorem below_alloc (w : World) (o : Obj) : Below w.heap.size w (w.alloc o) := (Below.refl _ _).alloc (Nat.le_refl _) o
theorem below_alloc_drew (w : World) (o : Obj) : Below w.drew.heap.size w.drew (w.alloc o).drew := below_alloc w.drew o
theorem own_empty {wr : World} : ((wr.alloc (.cells #[] 35)).drew).ownsRow wr.heap.size 35 10 (.slice (some ⟨wr.heap.size, 0, none⟩) 0 0) 0 [] :=
  World.ownsRow_made (w := wr.drew) #[] 0 (Nat.le_refl _) (Nat.zero_le _) rfl
theorem base_empty {wr : World} {o : Obj} : wr.heap.size ≤ (wr.alloc o).drew.heap.size := by
  show _ ≤ (wr.alloc o).heap.size
  rw [World.size_alloc]; omega
theorem own_empty' {wr : World} : (wr.alloc (.cells #[] 35)).ownsRow wr.heap.size 35 10 (.slice (some ⟨wr.heap.size, 0, none⟩) 0 0) 0 [] :=
  World.ownsRow_made (w := wr) #[] 0 (Nat.le_refl _) (Nat.zero_le _) rfl
theorem base_empty' {wr : World} {o : Obj} : wr.heap.size ≤ (wr.alloc o).heap.size := by
  rw [World.size_alloc]; omega
theorem same_calls' (a1 a2 : Option Addr) (c1 c2 n1 n2 : Nat) (l : List Tie) (w : World) (h1 : RowAt rTie w a1 l) (h2 : RowAt rTie w a2 l) (hn1 : n1 = l.length) (hn2 : n2 = l.length) (hl : l.length ≤ 100000) :
    Calls Try.prog 10 #[.slice a1 n1 c1, .slice a2 n2 c2] w fun e w' => e = .returned (.bool true) ∧ Below w.heap.size w w' := by
  subst hn1 hn2
  exact same_calls a1 a2 c1 c2 l w h1 h2 hl
theorem cells_one {t : Tie} : ∀ u ∈ t.cells, u.oneCell' = true := by
  intro u hu; simp only [Tie.cells, List.mem_cons, List.not_mem_nil, or_false] at hu; rcases hu with rfl | rfl | rfl | rfl | rfl | rfl | rfl | rfl | rfl | rfl <;> rfl
theorem flat_one (l : List Tie) : ∀ u ∈ flat l, u.oneCell' = true := by
  intro u hu
  obtain ⟨t, _, ht⟩ := List.mem_flatMap.1 hu
  exact cells_one u ht
theorem src_ties {w : World} {a : Option Addr} {l : List Tie} (h : RowAt rTie w a l) : Src w 10 a l.length (flat l) := src_of_row (A := rTie) Tie.cells h (fun _ _ hR => (rTie_out hR).1)
theorem row_ties {w : World} {base : Nat} {v : Value} {l : List Tie} (h : w.ownsRow base 35 10 v l.length (flat l)) (hR : ∀ x, x ∈ l → rTie.R w x.cells x) : ∃ a c, v = .slice a l.length c ∧ RowAt rTie w a l :=
  row_of_owns (A := rTie) Tie.cells h (fun _ => rfl) hR
theorem reads_all {w w' : World} {a : Option Addr} {l : List Tie} (h : RowAt rTie w a l) (hk : CK w w') : ∀ x, x ∈ l → rTie.R w' x.cells x := fun x hx => by
  obtain ⟨cs, hcs⟩ := h.all hx
  obtain ⟨rfl, _⟩ := rTie_out hcs
  exact rTie.mono hk hcs
theorem ck_grown {w w' : World} {row : Option Nat} {n : Nat} (hg : w.grownBy w' row) (hr : ∀ k, row = some k → n ≤ k) {a : Addr} {v : Value} (h : w.cell? a = some v) (hn : a.block < n) : w'.cell? a = some v :=
  cell_grown hg h (fun e => by have := hr _ e.symm; omega)

set_option maxRecDepth 100000 in
set_option maxHeartbeats 2000000 in
theorem some_law (a : Option Addr) (c : Nat) (l : List Tie) (a2 : Option Addr) (c2 : Nat) (m : List Tie) (s : Scope) (w : World) (hr : RowAt rTie w a l) (hr2 : RowAt rTie w a2 m) (hmax : l.length ≤ maxLen) (hmax2 : m.length ≤ maxLen) :
    Calls Try.prog 6 #[.slice a l.length c, .slice a2 m.length c2, s.v] w fun e w' => e = .returned (.bool true) ∧ Below w.heap.size w w' := by
  obtain ⟨i0, hi, hz0, hz1, hz2⟩ := info_parts info35
  have HR := Lib.hid hr
  have HM := Lib.hid hr2
  clear hr hr2
  unfold maxLen at hmax hmax2
  unfold Scope.v
  go_enter Try.func6, Try.ntmps6
  go_wp2_with fail
  refine (awake_calls _).mono ?_
  rintro e w1 ⟨rfl, hb1⟩
  have HI := Lib.hid (LawInv.next (s := s) (w := w) ⟨(Below.refl _ _).alloc (Nat.le_refl _) _, blk_new _ _⟩ hb1)
  clear hb1
  by_cases h60 : (60 : Int) < l.length
  · go_wp2_with fail
    go_ret
    exact ⟨rfl, HI.out.1⟩
  by_cases h61 : (60 : Int) < m.length
  · go_wp2_with fail
    go_ret
    exact ⟨rfl, HI.out.1⟩
  go_wp2_with fail
  go_loopg [8] (l.length + 1) (fun g k wr => ∃ i : Nat, i ≤ l.length ∧ g + i = l.length + 1 ∧ k = .int .i64 i ∧ Hid (LawInv s w wr))
  case atStart => exact ⟨0, Nat.zero_le _, rfl, rfl, HI⟩
  case round =>
    clear HI
    obtain ⟨i, hil, hg, rfl, HI⟩ := hrel
    by_cases hlt : i < l.length
    · obtain ⟨b, off, cs, rfl, hc, hR⟩ := HR.out.get (List.getElem?_eq_getElem hlt)
      generalize l[i] = t at hR
      obtain ⟨rfl, he1, he2⟩ := rTie_out hR
      replace hc := hc.mono (CK.of_below HI.out.1)
      change CellsOff wr b (off + i * 10) 0 t.cells at hc
      simp only [CellsOff, Tie.cells, Nat.reduceAdd, Nat.add_zero, and_true] at hc
      obtain ⟨-, -, -, -, -, -, -, -, c8, c9⟩ := hc
      have he := he1.2.1
      have he' := he2.2.1
      have hm := he1.2.2.1
      have hm' := he2.2.2.1
      unfold maxLen at hm hm'
      clear hR he1 he2
      by_cases h1 : (100 : Int) < t.e.l.length
      · go_wp2_with fail
        go_ret
        exact ⟨rfl, HI.out.1⟩
      · by_cases h2 : (100 : Int) < t.r.l.length
        · go_wp2_with fail
          go_ret
          exact ⟨rfl, HI.out.1⟩
        · go_wp2_with fail
          go_roundg (l.length - i)
          case measure => omega
          case rel => exact ⟨i + 1, by omega, by omega, by go_num, HI⟩
    · go_wp2_with fail
      clear hlt hil hg
      generalize wr = w0 at HI
      go_loopg [9] (m.length + 1) (fun g k wr => ∃ i : Nat, i ≤ m.length ∧ g + i = m.length + 1 ∧ k = .int .i64 i ∧ Hid (LawInv s w wr))
      case atStart => exact ⟨0, Nat.zero_le _, rfl, rfl, HI⟩
      case round =>
        clear HI
        obtain ⟨i, hil, hg, rfl, HI⟩ := hrel
        by_cases hlt : i < m.length
        · obtain ⟨b, off, cs, rfl, hc, hR⟩ := HM.out.get (List.getElem?_eq_getElem hlt)
          generalize m[i] = t at hR
          obtain ⟨rfl, he1, he2⟩ := rTie_out hR
          replace hc := hc.mono (CK.of_below HI.out.1)
          change CellsOff wr b (off + i * 10) 0 t.cells at hc
          simp only [CellsOff, Tie.cells, Nat.reduceAdd, Nat.add_zero, and_true] at hc
          obtain ⟨-, -, -, -, -, -, -, -, c8, c9⟩ := hc
          have he := he1.2.1
          have he' := he2.2.1
          have hm := he1.2.2.1
          have hm' := he2.2.2.1
          unfold maxLen at hm hm'
          clear hR he1 he2
          by_cases h1 : (100 : Int) < t.e.l.length
          · go_wp2_with fail
            go_ret
            exact ⟨rfl, HI.out.1⟩
          · by_cases h2 : (100 : Int) < t.r.l.length
            · go_wp2_with fail
              go_ret
              exact ⟨rfl, HI.out.1⟩
            · go_wp2_with fail
              go_roundg (m.length - i)
              case measure => omega
              case rel => exact ⟨i + 1, by omega, by omega, by go_num, HI⟩
        · have hsc := cells_all HI.out.2
          have hy := size_of HI.out.2
          simp only [CellsAt, Nat.reduceAdd, and_true] at hsc
          obtain ⟨s0, s1, s2, s3, s4, s5, s6⟩ := hsc
          go_wp2_with fail
          refine (some_calls _ _ l s _ (HR.out.mono (CK.of_below HI.out.1)) (by omega)).mono ?_
          rintro e w2 ⟨p1, q1, rfl, hp1, hb2⟩
          have HP1 := Lib.hid hp1
          have HI2 := Lib.hid (HI.out.next hb2)
          clear hb2 hp1 s0 s1 s2 s3 s4 s5 s6 hy HI hlt hil hg
          have hsc := cells_all HI2.out.2
          have hy := size_of HI2.out.2
          simp only [CellsAt, Nat.reduceAdd, and_true] at hsc
          obtain ⟨s0, s1, s2, s3, s4, s5, s6⟩ := hsc
          go_wp2_with fail
          refine (some_calls _ _ m s _ (HM.out.mono (CK.of_below HI2.out.1)) (by omega)).mono ?_
          rintro e w3 ⟨p2, q2, rfl, hp2, hb3⟩
          have HP2 := Lib.hid hp2
          have HI3 := Lib.hid (HI2.out.next hb3)
          have HP1' := Lib.hid (HP1.out.mono (CK.of_below hb3))
          clear hb3 hp2 s0 s1 s2 s3 s4 s5 s6 hy HI2 HP1
          have hsc := cells_all HI3.out.2
          have hy := size_of HI3.out.2
          simp only [CellsAt, Nat.reduceAdd, and_true] at hsc
          obtain ⟨s0, s1, s2, s3, s4, s5, s6⟩ := hsc
          go_wp2_with fail
          have HB3 := Lib.hid (Below.refl w3.heap.size w3)
          have hz3 : w3.heap.size ≤ w3.heap.size := Nat.le_refl _
          have HS1 : ∀ w', (Hid (Below w3.heap.size w3 w') ∧ w3.heap.size ≤ w'.heap.size ∧ w'.cell? ⟨w.heap.size, 0, none⟩ = some (.int .i64 s.self) ∧ w'.cell? ⟨w.heap.size, 1, none⟩ = some (.int .i64 s.slv) ∧ w'.cell? ⟨w.heap.size, 2, none⟩ = some (.bool s.top) ∧ w'.cell? ⟨w.heap.size, 3, none⟩ = some (.int .i64 s.on) ∧ w'.cell? ⟨w.heap.size, 4, none⟩ = some (.int .i64 s.ol) ∧ w'.cell? ⟨w.heap.size, 5, none⟩ = some (.int .i64 s.olv) ∧ w'.cell? ⟨w.heap.size, 6, none⟩ = some (.int .i64 s.onc)) → Src w' 10 a l.length (flat l) := fun w' h => src_ties (HR.out.mono ((CK.of_below HI3.out.1).trans (CK.of_below h.1.out)))
          have HS2 : ∀ w', (Hid (Below w3.heap.size w3 w') ∧ w3.heap.size ≤ w'.heap.size ∧ w'.cell? ⟨w.heap.size, 0, none⟩ = some (.int .i64 s.self) ∧ w'.cell? ⟨w.heap.size, 1, none⟩ = some (.int .i64 s.slv) ∧ w'.cell? ⟨w.heap.size, 2, none⟩ = some (.bool s.top) ∧ w'.cell? ⟨w.heap.size, 3, none⟩ = some (.int .i64 s.on) ∧ w'.cell? ⟨w.heap.size, 4, none⟩ = some (.int .i64 s.ol) ∧ w'.cell? ⟨w.heap.size, 5, none⟩ = some (.int .i64 s.olv) ∧ w'.cell? ⟨w.heap.size, 6, none⟩ = some (.int .i64 s.onc)) → Src w' 10 a2 m.length (flat m) := fun w' h => src_ties (HM.out.mono ((CK.of_below HI3.out.1).trans (CK.of_below h.1.out)))
          have hm1 : 0 + l.length ≤ maxLen := by unfold maxLen; omega
          have hm2 : (0 + l.length) * 112 ≤ 140737488355328 := by omega
          have hm3 : 0 + l.length + m.length ≤ maxLen := by unfold maxLen; omega
          have hm4 : (0 + l.length + m.length) * 112 ≤ 140737488355328 := by omega
          have HZ : ∀ w', (Hid (Below w3.heap.size w3 w') ∧ w3.heap.size ≤ w'.heap.size ∧ w'.cell? ⟨w.heap.size, 0, none⟩ = some (.int .i64 s.self) ∧ w'.cell? ⟨w.heap.size, 1, none⟩ = some (.int .i64 s.slv) ∧ w'.cell? ⟨w.heap.size, 2, none⟩ = some (.bool s.top) ∧ w'.cell? ⟨w.heap.size, 3, none⟩ = some (.int .i64 s.on) ∧ w'.cell? ⟨w.heap.size, 4, none⟩ = some (.int .i64 s.ol) ∧ w'.cell? ⟨w.heap.size, 5, none⟩ = some (.int .i64 s.olv) ∧ w'.cell? ⟨w.heap.size, 6, none⟩ = some (.int .i64 s.onc)) → w3.heap.size ≤ w'.heap.size := fun w' h => h.2.1
          have HC : ∀ w' v, (Hid (Below w3.heap.size w3 w') ∧ w3.heap.size ≤ w'.heap.size ∧ w'.cell? ⟨w.heap.size, 0, none⟩ = some (.int .i64 s.self) ∧ w'.cell? ⟨w.heap.size, 1, none⟩ = some (.int .i64 s.slv) ∧ w'.cell? ⟨w.heap.size, 2, none⟩ = some (.bool s.top) ∧ w'.cell? ⟨w.heap.size, 3, none⟩ = some (.int .i64 s.on) ∧ w'.cell? ⟨w.heap.size, 4, none⟩ = some (.int .i64 s.ol) ∧ w'.cell? ⟨w.heap.size, 5, none⟩ = some (.int .i64 s.olv) ∧ w'.cell? ⟨w.heap.size, 6, none⟩ = some (.int .i64 s.onc)) → w'.ownsRow w3.heap.size 35 10 v (0 + l.length + m.length) ([] ++ flat l ++ flat m) → ∃ a' c', v = .slice a' (l ++ m).length c' ∧ RowAt rTie w' a' (l ++ m) := fun w' v h hown => by
            have hck : CK w w' := (CK.of_below HI3.out.1).trans (CK.of_below h.1.out)
            refine row_ties (l := l ++ m) (by simpa [flat] using hown) (fun x hx => ?_)
            rcases List.mem_append.1 hx with hx | hx
            · exact reads_all HR.out hck x hx
            · exact reads_all HM.out hck x hx
          have hr1 : ∀ k, (Value.slice (some ⟨w3.heap.size, 0, none⟩) 0 0).ownBlock = some k → w3.heap.size ≤ k := fun k e => (own_empty.lt k e).1
          have hlm : (l ++ m).length ≤ 1000 := by rw [List.length_append]; omega
          go_region_held3 (fun w' => Hid (Below w3.heap.size w3 w') ∧ w3.heap.size ≤ w'.heap.size ∧ w'.cell? ⟨w.heap.size, 0, none⟩ = some (.int .i64 s.self) ∧ w'.cell? ⟨w.heap.size, 1, none⟩ = some (.int .i64 s.slv) ∧ w'.cell? ⟨w.heap.size, 2, none⟩ = some (.bool s.top) ∧ w'.cell? ⟨w.heap.size, 3, none⟩ = some (.int .i64 s.on) ∧ w'.cell? ⟨w.heap.size, 4, none⟩ = some (.int .i64 s.ol) ∧ w'.cell? ⟨w.heap.size, 5, none⟩ = some (.int .i64 s.olv) ∧ w'.cell? ⟨w.heap.size, 6, none⟩ = some (.int .i64 s.onc))
            (first | exact keepU (below_drew w3) (Nat.le_refl _) ⟨HB3, hz3, s0, s1, s2, s3, s4, s5, s6⟩ | (refine keepU (below_alloc_drew _ _) (Nat.le_refl _) ?_; assumption) | (refine keepU hb (Nat.le_refl _) ?_; assumption) | (refine keepV hy hg2 hr2 ?_; assumption) | (refine keepV hy hg1 hr1 ?_; assumption))
            (first | (refine step_app _ rfl (.tmp 79) (.tmp 80) 22 rfl w3.heap.size 35 i0 _ 10 112 Try.underlying22 hi hz0 hz1 hz2 rfl (by decide) (.slice (some ⟨w3.heap.size, 0, none⟩) 0 0) 0 [] rfl own_empty a l.length c (flat l) rfl ?_ (flat_one l) hm1 hm2 base_empty ?_; (refine HS1 _ ?_; assumption); intro v1 w1 hown1 hg1 hob1) | (refine step_app _ rfl (.tmp 81) (.tmp 82) 22 rfl w3.heap.size 35 i0 _ 10 112 Try.underlying22 hi hz0 hz1 hz2 rfl (by decide) v1 (0 + l.length) ([] ++ flat l) rfl hown1 a2 m.length c2 (flat m) rfl ?_ (flat_one m) hm3 hm4 ?_ ?_; (refine HS2 _ ?_; assumption); (refine HZ _ ?_; assumption); intro v2 w2 hown2 hg2 hob2; have hr2 : ∀ k, v1.ownBlock = some k → w3.heap.size ≤ k := fun k e => (hown1.lt k e).1) | (go_at_call 11; obtain ⟨a4, c4, hv4, hrow4⟩ := HC _ _ (by assumption) hown2; rw [hv4]; refine (some_calls _ _ (l ++ m) s _ hrow4 hlm).mono ?_; rintro e w' ⟨p3, q3, rfl, hp3, hb⟩))
          rename_i hHeld
          obtain ⟨hb4, hz4, b0, b1, b2, b3, b4, b5, b6⟩ := hHeld
          have HI4 := Lib.hid (HI3.out.next hb4.out)
          have HP1 := Lib.hid (HP1'.out.mono (CK.of_below hb4.out))
          have HP2' := Lib.hid (HP2.out.mono (CK.of_below hb4.out))
          have HP3 := Lib.hid hp3
          clear hb hrow4 hv4 hob2 hg2 hown2 hob1 hg1 hown1 hr1 hr2 HC HZ hm1 hm2 hm3 hm4 HS1 HS2 HB3 hz3 s0 s1 s2 s3 s4 s5 s6 hb4 hz4 hp3 HP1' HP2 hy
          rw [List.filter_append] at HP3
          have hf1 := List.length_filter_le (goes s) l
          have hf2 := List.length_filter_le (goes s) m
          have hff : (l.filter (goes s)).filter (goes s) = l.filter (goes s) := by rw [List.filter_filter]; simp only [Bool.and_self]
          generalize l.filter (goes s) = fl at *
          generalize m.filter (goes s) = fm at *
          have HF := Lib.hid hff
          clear hff
          go_wp2_with fail
          refine (some_calls p1 q1 fl s _ HP1.out (by omega)).mono ?_
          rintro e w5 ⟨p4, q4, rfl, hp4, hb5⟩
          rw [HF.out] at hp4 ⊢
          have HI5 := Lib.hid (HI4.out.next hb5)
          have HP4 := Lib.hid hp4
          have HQ1 := Lib.hid (HP1.out.mono (CK.of_below hb5))
          have HQ2 := Lib.hid (HP2'.out.mono (CK.of_below hb5))
          have HQ3 := Lib.hid (HP3.out.mono (CK.of_below hb5))
          clear hb5 hp4 HI4 HP1 HP2' HP3 b0 b1 b2 b3 b4 b5 b6
          go_wp2_with (at_builtin; refine wpList_app _ rfl (.tmp 90) (.tmp 91) 22 rfl w5.heap.size 35 i0 _ 10 112 Try.underlying22 hi hz0 hz1 hz2 rfl (by decide) (.slice (some ⟨w5.heap.size, 0, none⟩) 0 0) 0 [] rfl own_empty' p1 fl.length q1 (flat fl) rfl ?_ (flat_one fl) (by unfold maxLen; omega) (by omega) base_empty' ?_)
          · exact src_ties (HQ1.out.mono (CK.of_below (below_alloc w5 _)))
          intro v6 w6 hown6 hg6 _
          have hB6 : Below w5.heap.size w5 w6 := ((Below.refl _ _).alloc (Nat.le_refl _) _).grown hg6 (by rw [World.size_alloc]; omega) (fun k hk => (own_empty'.lt k hk).1)
          have HB6 := Lib.hid hB6
          have HO6 := Lib.hid hown6
          have hz6 := hB6.size
          clear hown6 hg6 hB6
          go_wp2_with (at_builtin; refine wpList_app _ rfl (.tmp 92) (.tmp 93) 22 rfl w5.heap.size 35 i0 _ 10 112 Try.underlying22 hi hz0 hz1 hz2 rfl (by decide) v6 fl.length (flat fl) rfl HO6.out p2 fm.length q2 (flat fm) rfl ?_ (flat_one fm) (by unfold maxLen; omega) (by omega) hz6 ?_)
          · exact src_ties (HQ2.out.mono (CK.of_below HB6.out))
          intro v7 w7 hown7 hg7 _
          have hB7 : Below w5.heap.size w5 w7 := HB6.out.grown hg7 hz6 (fun k hk => (HO6.out.lt k hk).1)
          obtain ⟨a7, c7, rfl, hrow7⟩ := row_ties (l := fl ++ fm) (by simpa [flat] using hown7) (fun x hx => by
            rcases List.mem_append.1 hx with hx | hx
            · exact reads_all HQ1.out (CK.of_below hB7) x hx
            · exact reads_all HQ2.out (CK.of_below hB7) x hx)
          have HB7 := Lib.hid hB7
          have HR7 := Lib.hid hrow7
          clear hown7 hg7 hB7 hrow7
          have hlen : (fl ++ fm).length ≤ 100000 := by rw [List.length_append]; omega
          go_wp2_with fail
          refine (same_calls' p3 a7 q3 c7 _ _ (fl ++ fm) _ (HQ3.out.mono (CK.of_below HB7.out)) HR7.out (by rw [List.length_append]) (by rw [List.length_append]) hlen).mono ?_
          rintro e w8 ⟨rfl, hb8⟩
          have HB8 := Lib.hid (HB7.out.trans (hb8.mono HB7.out.size))
          clear hb8
          go_wp2_with fail
          refine (same_calls p4 p1 q4 q1 fl _ (HP4.out.mono (CK.of_below HB8.out)) (HQ1.out.mono (CK.of_below HB8.out)) (by omega)).mono ?_
          rintro e w9 ⟨rfl, hb9⟩
          have HB9 := Lib.hid (HI5.out.1.trans ((HB8.out.trans (hb9.mono HB8.out.size)).mono HI5.out.1.size))
          clear hb9
          have hle : (fl.length : Int) ≤ l.length := by omega
          go_wp2
          go_ret
          exact ⟨rfl, HB9.out⟩
end Go.Proofs.Ytnibdmbkefldfaa
