/- Some, the program's and the reference's: those that go, in order. -/
import Derived.Test.YtnibdmbkefldfaaFlC
namespace Go.Proofs.Ytnibdmbkefldfaa
open Go.RowKit

def goes (s : Scope) (t : Tie) : Bool := refB t.d t.o t.k t.lv s.self s.slv s.top s.on s.olv
theorem goes_calls (t : Tie) (s : Scope) (w : World) : Calls Try.prog 8 #[t.v, s.v] w fun e w' => e = .returned (.bool (goes s t)) ∧ Below w.heap.size w w' := by
  refine (goes_any t.d t.o t.k t.nr t.seq t.life t.lv t.ov t.e.a t.e.l.length t.e.cap t.r.a t.r.l.length t.r.cap s.self s.slv s.top s.on s.ol s.olv s.onc w).mono ?_
  rintro e w' ⟨rfl, h⟩
  exact ⟨by rw [ref_eq]; rfl, h⟩
theorem rgoes_calls (t : Tie) (s : Scope) (w : World) : Calls Try.prog 9 #[t.v, s.v] w fun e w' => e = .returned (.bool (goes s t)) ∧ Below w.heap.size w w' :=
  ref_any t.d t.o t.k t.nr t.seq t.life t.lv t.ov t.e.a t.e.l.length t.e.cap t.r.a t.r.l.length t.r.cap s.self s.slv s.top s.on s.ol s.olv s.onc w

/-- What was collected of the first i. -/
def got (s : Scope) (l : List Tie) (i : Nat) : List Tie := (l.take i).filter (goes s)
def flat (l : List Tie) : List Value := l.flatMap Tie.cells

def SomeInv (s : Scope) (l : List Tie) (w : World) (i : Nat) (v : Value) (wr : World) : Prop :=
  Below w.heap.size w wr ∧ wr.heap[w.heap.size]? = some (.cells #[.int .i64 s.self, .int .i64 s.slv, .bool s.top, .int .i64 s.on, .int .i64 s.ol, .int .i64 s.olv, .int .i64 s.onc] 26 (0, 0)) ∧
  wr.ownsRow (w.heap.size + 1) 35 10 v (got s l i).length (flat (got s l i))

theorem info35 : (Try.prog.info? 35).map (fun i => (i.zero, i.size, i.bytes)) = some (some (.agg #[(.int .i64 0), (.int .i64 0), (.int .i64 0), (.int .i64 0), (.int .i64 0), (.int .i64 0), (.int .i64 0), (.bool false), (.slice none 0 0), (.slice none 0 0)]), 10, 112) := by kernel_rfl

theorem got_succ (s : Scope) (l : List Tie) (i : Nat) (t : Tie) (h : l[i]? = some t) : got s l (i + 1) = got s l i ++ (if goes s t then [t] else []) := by
  unfold got
  rw [List.take_add_one, h, List.filter_append]
  by_cases hg : goes s t <;> simp [hg]
theorem got_le (s : Scope) (l : List Tie) (i : Nat) : (got s l i).length ≤ l.length := by
  unfold got
  have := List.length_filter_le (goes s) (l.take i)
  rw [List.length_take] at this
  omega
theorem got_all (s : Scope) (l : List Tie) : got s l l.length = l.filter (goes s) := by unfold got; rw [List.take_length]

theorem some_calls (a : Option Addr) (c : Nat) (l : List Tie) (s : Scope) (w : World) (hr : RowAt rTie w a l) (hl : l.length ≤ 1000) : Calls Try.prog 11 #[.slice a l.length c, s.v] w
    fun e w' => ∃ a' c', e = .returned (.slice a' (l.filter (goes s)).length c') ∧ RowAt rTie w' a' (l.filter (goes s)) ∧ Below w.heap.size w w' := by
  obtain ⟨i0, hi, hz0, hz1, hz2⟩ := info_parts info35
  have HR := Lib.hid hr
  clear hr
  unfold Scope.v
  go_enter Try.func11, Try.ntmps11
  go_wp2_with fail
  go_loopg [5, 10] (l.length + 1) (fun g v k wr => ∃ i : Nat, i ≤ l.length ∧ g + i = l.length + 1 ∧ k = .int .i64 i ∧ Hid (SomeInv s l w i v wr))
  case atStart => exact ⟨0, Nat.zero_le _, rfl, rfl, (Below.refl _ _).alloc (Nat.le_refl _) _, blk_new _ _, World.ownsRow_nil _ _ _ _⟩
  case round =>
    obtain ⟨i, hil, hg, rfl, HI⟩ := hrel
    obtain ⟨hBel, hs, hown⟩ := HI.out
    have HO := Lib.hid hown
    have HB := Lib.hid hBel
    have hsc := cells_all hs
    have hy := size_of hs
    clear hown hBel
    have HS := Lib.hid hs
    clear hs
    simp only [CellsAt, Nat.reduceAdd, and_true] at hsc
    obtain ⟨s0, s1, s2, s3, s4, s5, s6⟩ := hsc
    by_cases hlt : i < l.length
    · obtain ⟨b, off, cs, rfl, hc, hR⟩ := HR.out.get (List.getElem?_eq_getElem hlt)
      have hlt? : l[i]? = some l[i] := List.getElem?_eq_getElem hlt
      generalize l[i] = t at hR hlt?
      have HT := Lib.hid hlt?
      clear hlt?
      obtain ⟨rfl, he1, he2⟩ := rTie_out hR
      replace hc := hc.mono (CK.of_below HB.out)
      change CellsOff wr b (off + i * 10) 0 t.cells at hc
      have hyb := cell_size hc.1
      simp only [CellsOff, Tie.cells, Nat.reduceAdd, Nat.add_zero, and_true] at hc
      obtain ⟨c0, c1, c2, c3, c4, c5, c6, c7, c8, c9⟩ := hc
      clear hR he1 he2
      go_wp2_with fail
      refine (goes_calls t s _).mono ?_
      rintro e w2 ⟨rfl, hb2⟩
      change Below (wr.alloc (.cells t.cells.toArray 35 (0, 0))).heap.size (wr.alloc (.cells t.cells.toArray 35 (0, 0))) w2 at hb2
      have hz := hb2.size
      rw [World.size_alloc] at hz
      have HO2 := Lib.hid (owns_below (HO.out.alloc (.cells t.cells.toArray 35 (0, 0))) hb2)
      have HS2 := Lib.hid (blk_below' hb2 (blk_alloc HS.out _))
      have hv2 := cells_all (blk_below' hb2 (blk_new wr (.cells t.cells.toArray 35 (0, 0))))
      have HB2 := Lib.hid ((HB.out.alloc HB.out.size _).trans (hb2.mono (by rw [World.size_alloc]; have := HB.out.size; omega)))
      have HBS := Lib.hid HB2.out.size
      clear hb2
      simp only [CellsAt, Tie.cells, Nat.reduceAdd, and_true] at hv2
      obtain ⟨v0, v1, v2, v3, v4, v5, v6, v7, v8, v9⟩ := hv2
      clear c0 c1 c2 c3 c4 c5 c6 c7 c8 c9 s0 s1 s2 s3 s4 s5 s6
      obtain ⟨g, hgs⟩ : ∃ g, g = goes s t := ⟨_, rfl⟩
      have HG := Lib.hid hgs
      rw [← hgs]
      clear hgs
      cases g
      · go_wp2_with fail
        go_roundg (l.length - i)
        case measure => omega
        case rel =>
          refine ⟨i + 1, by omega, by omega, by go_num, HB2.out, HS2.out, ?_⟩
          rw [got_succ s l i t HT.out, ← HG.out]
          simpa using HO2.out
      · go_wp2_with (at_builtin; refine wpList_append_own _ rfl _ _ 22 rfl (w.heap.size + 1) 35 i0 _ 10 112 Try.underlying22 hi hz0 hz1 hz2 rfl (by decide) _ _ _ rfl (HO2.out.alloc _) ⟨w2.heap.size, 0, none⟩ 1 1 t.cells rfl rfl ?c1 ?c2 ?c3 ?c4 ?c5 ?_)
        case c1 => exact new_cells w2 t.cells 35
        case c2 => intro u hu; simp only [Tie.cells, List.mem_cons, List.not_mem_nil, or_false] at hu; rcases hu with rfl | rfl | rfl | rfl | rfl | rfl | rfl | rfl | rfl | rfl <;> rfl
        case c3 => have := got_le s l i; unfold maxLen; omega
        case c4 => have := got_le s l i; omega
        case c5 => rw [World.size_alloc]; have := HBS.out; omega
        intro v' w3 hown3 hgrow3 _
        have hB3 : Below w.heap.size w w3 := (HB2.out.alloc HBS.out _).grown hgrow3 (by rw [World.size_alloc]; have := HBS.out; omega) (fun k hk => by have := (HO.out.lt k hk).1; omega)
        have hS3 := blk_grown hgrow3 (blk_alloc HS2.out _) (fun he => by have := (HO.out.lt _ he.symm).1; omega)
        have HO3 := Lib.hid hown3
        have HB3 := Lib.hid hB3
        have HS3 := Lib.hid hS3
        clear hown3 hgrow3 hB3 hS3
        go_wp2_with fail
        go_roundg (l.length - i)
        case measure => omega
        case rel =>
          refine ⟨i + 1, by omega, by omega, by go_num, HB3.out, HS3.out, ?_⟩
          rw [got_succ s l i t HT.out, ← HG.out]
          simpa [flat] using HO3.out
    · go_wp2_with fail
      go_ret
      have hii : i = l.length := by omega
      subst hii
      rw [got_all] at HO
      obtain ⟨a', c', rfl, hrow⟩ := row_of_owns (A := rTie) Tie.cells HO.out (fun _ => rfl) (fun x hx => by
        obtain ⟨cs, hcs⟩ := HR.out.all ((List.mem_filter.1 hx).1)
        obtain ⟨rfl, _⟩ := rTie_out hcs
        exact rTie.mono (CK.of_below HB.out) hcs)
      exact ⟨a', c', rfl, hrow, HB.out⟩
end Go.Proofs.Ytnibdmbkefldfaa
