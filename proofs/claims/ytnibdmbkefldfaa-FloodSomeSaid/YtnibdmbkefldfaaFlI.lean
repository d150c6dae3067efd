/- The law FloodGoes: the walk. -/
import Derived.Test.YtnibdmbkefldfaaFlH
import Derived.Deep.RegionHeld3
namespace Go.Proofs.Ytnibdmbkefldfaa
open Go.RowKit

def LawInv (s : Scope) (w wr : World) : Prop :=
  Below w.heap.size w wr ∧ wr.heap[w.heap.size]? = some (.cells #[.int .i64 s.self, .int .i64 s.slv, .bool s.top, .int .i64 s.on, .int .i64 s.ol, .int .i64 s.olv, .int .i64 s.onc] 26 (0, 0))
theorem LawInv.next {s : Scope} {w wr w2 : World} (h : LawInv s w wr) (hb : Below wr.heap.size wr w2) : LawInv s w w2 := ⟨h.1.trans (hb.mono h.1.size), blk_below' hb h.2⟩
theorem below_drew (w : World) : Below w.heap.size w w.drew := (Below.refl _ _).drew

theorem hid_next {s : Scope} {w wr w2 : World} (hb : Below wr.heap.size wr w2) (h : Hid (LawInv s w wr)) : Hid (LawInv s w w2) := h.out.next hb
theorem ck_next {wr w2 : World} {a : Addr} {v : Value} (hb : Below wr.heap.size wr w2) (h : wr.cell? a = some v) : w2.cell? a = some v := CK.of_below hb _ _ h

theorem keepS {s : Scope} {t : Tie} {w wr w2 : World} {b at_ n : Nat} (hb0 : Below n wr w2) (hn : wr.heap.size ≤ n) (h : Hid (LawInv s w wr) ∧ wr.cell? ⟨b, at_, none⟩ = some (.int .i64 t.d) ∧ wr.cell? ⟨b, at_ + 1, none⟩ = some (.int .i64 t.o) ∧ wr.cell? ⟨b, at_ + 2, none⟩ = some (.int .i64 t.k) ∧ wr.cell? ⟨b, at_ + 3, none⟩ = some (.int .i64 t.nr) ∧ wr.cell? ⟨b, at_ + 4, none⟩ = some (.int .i64 t.seq) ∧ wr.cell? ⟨b, at_ + 5, none⟩ = some (.int .i64 t.life) ∧ wr.cell? ⟨b, at_ + 6, none⟩ = some (.int .i64 t.lv) ∧ wr.cell? ⟨b, at_ + 7, none⟩ = some (.bool t.ov) ∧ wr.cell? ⟨b, at_ + 8, none⟩ = some (.slice t.e.a t.e.l.length t.e.cap) ∧ wr.cell? ⟨b, at_ + 9, none⟩ = some (.slice t.r.a t.r.l.length t.r.cap) ∧ wr.cell? ⟨w.heap.size, 0, none⟩ = some (.int .i64 s.self) ∧ wr.cell? ⟨w.heap.size, 1, none⟩ = some (.int .i64 s.slv) ∧ wr.cell? ⟨w.heap.size, 2, none⟩ = some (.bool s.top) ∧ wr.cell? ⟨w.heap.size, 3, none⟩ = some (.int .i64 s.on) ∧ wr.cell? ⟨w.heap.size, 4, none⟩ = some (.int .i64 s.ol) ∧ wr.cell? ⟨w.heap.size, 5, none⟩ = some (.int .i64 s.olv) ∧ wr.cell? ⟨w.heap.size, 6, none⟩ = some (.int .i64 s.onc)) : Hid (LawInv s w w2) ∧ w2.cell? ⟨b, at_, none⟩ = some (.int .i64 t.d) ∧ w2.cell? ⟨b, at_ + 1, none⟩ = some (.int .i64 t.o) ∧ w2.cell? ⟨b, at_ + 2, none⟩ = some (.int .i64 t.k) ∧ w2.cell? ⟨b, at_ + 3, none⟩ = some (.int .i64 t.nr) ∧ w2.cell? ⟨b, at_ + 4, none⟩ = some (.int .i64 t.seq) ∧ w2.cell? ⟨b, at_ + 5, none⟩ = some (.int .i64 t.life) ∧ w2.cell? ⟨b, at_ + 6, none⟩ = some (.int .i64 t.lv) ∧ w2.cell? ⟨b, at_ + 7, none⟩ = some (.bool t.ov) ∧ w2.cell? ⟨b, at_ + 8, none⟩ = some (.slice t.e.a t.e.l.length t.e.cap) ∧ w2.cell? ⟨b, at_ + 9, none⟩ = some (.slice t.r.a t.r.l.length t.r.cap) ∧ w2.cell? ⟨w.heap.size, 0, none⟩ = some (.int .i64 s.self) ∧ w2.cell? ⟨w.heap.size, 1, none⟩ = some (.int .i64 s.slv) ∧ w2.cell? ⟨w.heap.size, 2, none⟩ = some (.bool s.top) ∧ w2.cell? ⟨w.heap.size, 3, none⟩ = some (.int .i64 s.on) ∧ w2.cell? ⟨w.heap.size, 4, none⟩ = some (.int .i64 s.ol) ∧ w2.cell? ⟨w.heap.size, 5, none⟩ = some (.int .i64 s.olv) ∧ w2.cell? ⟨w.heap.size, 6, none⟩ = some (.int .i64 s.onc) := by
  have hb := hb0.mono hn
  obtain ⟨h0, h1, h2, h3, h4, h5, h6, h7, h8, h9, h10, h11, h12, h13, h14, h15, h16, h17⟩ := h
  exact ⟨hid_next hb h0, ck_next hb h1, ck_next hb h2, ck_next hb h3, ck_next hb h4, ck_next hb h5, ck_next hb h6, ck_next hb h7, ck_next hb h8, ck_next hb h9, ck_next hb h10, ck_next hb h11, ck_next hb h12, ck_next hb h13, ck_next hb h14, ck_next hb h15, ck_next hb h16, ck_next hb h17⟩

theorem keepT {s : Scope} {w wr w2 : World} {n : Nat} (hb0 : Below n wr w2) (hn : wr.heap.size ≤ n) (h : Hid (LawInv s w wr) ∧ wr.cell? ⟨w.heap.size, 0, none⟩ = some (.int .i64 s.self) ∧ wr.cell? ⟨w.heap.size, 1, none⟩ = some (.int .i64 s.slv) ∧ wr.cell? ⟨w.heap.size, 2, none⟩ = some (.bool s.top) ∧ wr.cell? ⟨w.heap.size, 3, none⟩ = some (.int .i64 s.on) ∧ wr.cell? ⟨w.heap.size, 4, none⟩ = some (.int .i64 s.ol) ∧ wr.cell? ⟨w.heap.size, 5, none⟩ = some (.int .i64 s.olv) ∧ wr.cell? ⟨w.heap.size, 6, none⟩ = some (.int .i64 s.onc)) : Hid (LawInv s w w2) ∧ w2.cell? ⟨w.heap.size, 0, none⟩ = some (.int .i64 s.self) ∧ w2.cell? ⟨w.heap.size, 1, none⟩ = some (.int .i64 s.slv) ∧ w2.cell? ⟨w.heap.size, 2, none⟩ = some (.bool s.top) ∧ w2.cell? ⟨w.heap.size, 3, none⟩ = some (.int .i64 s.on) ∧ w2.cell? ⟨w.heap.size, 4, none⟩ = some (.int .i64 s.ol) ∧ w2.cell? ⟨w.heap.size, 5, none⟩ = some (.int .i64 s.olv) ∧ w2.cell? ⟨w.heap.size, 6, none⟩ = some (.int .i64 s.onc) := by
  have hb := hb0.mono hn
  obtain ⟨h0, h1, h2, h3, h4, h5, h6, h7⟩ := h
  exact ⟨hid_next hb h0, ck_next hb h1, ck_next hb h2, ck_next hb h3, ck_next hb h4, ck_next hb h5, ck_next hb h6, ck_next hb h7⟩

theorem goes_law (a : Option Addr) (c : Nat) (l : List Tie) (s : Scope) (w : World) (hr : RowAt rTie w a l) (hmax : l.length ≤ maxLen) : Calls Try.prog 3 #[.slice a l.length c, s.v] w
    fun e w' => e = .returned (.bool true) ∧ Below w.heap.size w w' := by
  have HR := Lib.hid hr
  clear hr
  unfold maxLen at hmax
  unfold Scope.v
  go_enter Try.func3, Try.ntmps3
  go_wp2_with fail
  refine (awake_calls _).mono ?_
  rintro e w1 ⟨rfl, hb1⟩
  have HI := Lib.hid (LawInv.next (s := s) (w := w) ⟨(Below.refl _ _).alloc (Nat.le_refl _) _, blk_new _ _⟩ hb1)
  clear hb1
  by_cases h100 : (100 : Int) < l.length
  · go_wp2_with fail
    go_ret
    exact ⟨rfl, HI.out.1⟩
  · have h100' : l.length ≤ 100 := by omega
    go_wp2_with fail
    go_loopg [6] (l.length + 1) (fun g k wr => ∃ i : Nat, i ≤ l.length ∧ g + i = l.length + 1 ∧ k = .int .i64 i ∧ Hid (LawInv s w wr))
    case atStart => exact ⟨0, Nat.zero_le _, rfl, rfl, HI⟩
    case round =>
      clear HI
      obtain ⟨i, hil, hg, rfl, HI⟩ := hrel
      have hsc := cells_all HI.out.2
      have hy := size_of HI.out.2
      have hz := HI.out.1.size
      simp only [CellsAt, Nat.reduceAdd, and_true] at hsc
      by_cases hlt : i < l.length
      · obtain ⟨b, off, cs, rfl, hc, hR⟩ := HR.out.get (List.getElem?_eq_getElem hlt)
        generalize l[i] = t at hR
        obtain ⟨rfl, he1, he2⟩ := rTie_out hR
        replace hc := hc.mono (CK.of_below HI.out.1)
        change CellsOff wr b (off + i * 10) 0 t.cells at hc
        simp only [CellsOff, Tie.cells, Nat.reduceAdd, Nat.add_zero, and_true] at hc
        obtain ⟨c0, c1, c2, c3, c4, c5, c6, c7, c8, c9⟩ := hc
        obtain ⟨s0, s1, s2, s3, s4, s5, s6⟩ := hsc
        have he := he1.2.1
        have he' := he2.2.1
        have hm := he1.2.2.1
        have hm' := he2.2.2.1
        unfold maxLen at hm hm'
        clear hR he1 he2
        by_cases h1 : (100 : Int) < t.e.l.length
        · go_wp2_with fail
          go_ret
          exact ⟨rfl, HI.out.1⟩
        · by_cases h2 : (100 : Int) < t.r.l.length
          · go_wp2_with fail
            go_ret
            exact ⟨rfl, HI.out.1⟩
          · go_wp2_with fail
            go_region_held3 (fun w' => Hid (LawInv s w w') ∧ w'.cell? ⟨b, off + i * 10, none⟩ = some (.int .i64 t.d) ∧ w'.cell? ⟨b, off + i * 10 + 1, none⟩ = some (.int .i64 t.o) ∧ w'.cell? ⟨b, off + i * 10 + 2, none⟩ = some (.int .i64 t.k) ∧ w'.cell? ⟨b, off + i * 10 + 3, none⟩ = some (.int .i64 t.nr) ∧ w'.cell? ⟨b, off + i * 10 + 4, none⟩ = some (.int .i64 t.seq) ∧ w'.cell? ⟨b, off + i * 10 + 5, none⟩ = some (.int .i64 t.life) ∧ w'.cell? ⟨b, off + i * 10 + 6, none⟩ = some (.int .i64 t.lv) ∧ w'.cell? ⟨b, off + i * 10 + 7, none⟩ = some (.bool t.ov) ∧ w'.cell? ⟨b, off + i * 10 + 8, none⟩ = some (.slice t.e.a t.e.l.length t.e.cap) ∧ w'.cell? ⟨b, off + i * 10 + 9, none⟩ = some (.slice t.r.a t.r.l.length t.r.cap) ∧ w'.cell? ⟨w.heap.size, 0, none⟩ = some (.int .i64 s.self) ∧ w'.cell? ⟨w.heap.size, 1, none⟩ = some (.int .i64 s.slv) ∧ w'.cell? ⟨w.heap.size, 2, none⟩ = some (.bool s.top) ∧ w'.cell? ⟨w.heap.size, 3, none⟩ = some (.int .i64 s.on) ∧ w'.cell? ⟨w.heap.size, 4, none⟩ = some (.int .i64 s.ol) ∧ w'.cell? ⟨w.heap.size, 5, none⟩ = some (.int .i64 s.olv) ∧ w'.cell? ⟨w.heap.size, 6, none⟩ = some (.int .i64 s.onc))
              (first | exact keepS (below_drew wr) (Nat.le_refl _) ⟨HI, c0, c1, c2, c3, c4, c5, c6, c7, c8, c9, s0, s1, s2, s3, s4, s5, s6⟩ | (refine keepS hb (Nat.le_refl _) ?_; assumption))
              (first | (go_at_call 8; refine (goes_calls t s _).mono ?_; rintro e w' ⟨rfl, hb⟩) | (go_at_call 9; refine (rgoes_calls t s _).mono ?_; rintro e w' ⟨rfl, hb⟩))
            rename_i hHeld
            have HI2 := hHeld.1
            clear hHeld c0 c1 c2 c3 c4 c5 c6 c7 c8 c9 s0 s1 s2 s3 s4 s5 s6
            go_wp2_with fail
            go_roundg (l.length - i)
            case measure => omega
            case rel => exact ⟨i + 1, by omega, by omega, by go_num, HI2⟩
      · obtain ⟨s0, s1, s2, s3, s4, s5, s6⟩ := hsc
        have HRW : ∀ w', (Hid (LawInv s w w') ∧ w'.cell? ⟨w.heap.size, 0, none⟩ = some (.int .i64 s.self) ∧ w'.cell? ⟨w.heap.size, 1, none⟩ = some (.int .i64 s.slv) ∧ w'.cell? ⟨w.heap.size, 2, none⟩ = some (.bool s.top) ∧ w'.cell? ⟨w.heap.size, 3, none⟩ = some (.int .i64 s.on) ∧ w'.cell? ⟨w.heap.size, 4, none⟩ = some (.int .i64 s.ol) ∧ w'.cell? ⟨w.heap.size, 5, none⟩ = some (.int .i64 s.olv) ∧ w'.cell? ⟨w.heap.size, 6, none⟩ = some (.int .i64 s.onc)) → RowAt rTie w' a l := fun w' h => HR.out.mono (CK.of_below h.1.out.1)
        have hfl : (l.filter (goes s)).length ≤ 100000 := by have := List.length_filter_le (goes s) l; omega
        go_wp2_with fail
        go_region_held3 (fun w' => Hid (LawInv s w w') ∧ w'.cell? ⟨w.heap.size, 0, none⟩ = some (.int .i64 s.self) ∧ w'.cell? ⟨w.heap.size, 1, none⟩ = some (.int .i64 s.slv) ∧ w'.cell? ⟨w.heap.size, 2, none⟩ = some (.bool s.top) ∧ w'.cell? ⟨w.heap.size, 3, none⟩ = some (.int .i64 s.on) ∧ w'.cell? ⟨w.heap.size, 4, none⟩ = some (.int .i64 s.ol) ∧ w'.cell? ⟨w.heap.size, 5, none⟩ = some (.int .i64 s.olv) ∧ w'.cell? ⟨w.heap.size, 6, none⟩ = some (.int .i64 s.onc))
          (first | exact keepT (below_drew wr) (Nat.le_refl _) ⟨HI, s0, s1, s2, s3, s4, s5, s6⟩ | (refine keepT hb (Nat.le_refl _) ?_; assumption))
          (first | (go_at_call 11; refine (some_calls _ _ l s _ ?_ (by omega)).mono ?_; (refine HRW _ ?_; assumption); rintro e w' ⟨a1, c1, rfl, hr1, hb⟩) | (go_at_call 12; refine (rsome_calls _ _ l s _ ?_ (by omega)).mono ?_; (refine HRW _ ?_; assumption); rintro e w' ⟨a2, c2, rfl, hr2, hb⟩; have hr3 := hr1.mono (CK.of_below hb)) | (go_at_call 10; refine (same_calls _ _ _ _ (l.filter (goes s)) _ hr3 hr2 hfl).mono ?_; rintro e w' ⟨rfl, hb⟩))
        rename_i hHeld
        have HI2 := hHeld.1
        clear hHeld s0 s1 s2 s3 s4 s5 s6 HRW
        go_wp2
        go_ret
        exact ⟨rfl, HI2.out.1⟩
end Go.Proofs.Ytnibdmbkefldfaa
