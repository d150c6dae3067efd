/- The reference's Some, and Same: two lists of one content are the same. -/
import Derived.Test.YtnibdmbkefldfaaFlD
import Derived.StillTailTactics
import Derived.Deep.DeepCutAuto
namespace Go.Proofs.Ytnibdmbkefldfaa
open Go.RowKit

theorem rsome_calls (a : Option Addr) (c : Nat) (l : List Tie) (s : Scope) (w : World) (hr : RowAt rTie w a l) (hl : l.length ≤ 1000) : Calls Try.prog 12 #[.slice a l.length c, s.v] w
    fun e w' => ∃ a' c', e = .returned (.slice a' (l.filter (goes s)).length c') ∧ RowAt rTie w' a' (l.filter (goes s)) ∧ Below w.heap.size w w' := by
  obtain ⟨i0, hi, hz0, hz1, hz2⟩ := info_parts info35
  have HR := Lib.hid hr
  clear hr
  unfold Scope.v
  go_enter Try.func12, Try.ntmps12
  go_wp2_with fail
  go_loopg [5, 6] (l.length + 1) (fun g v k wr => ∃ i : Nat, i ≤ l.length ∧ g + i = l.length + 1 ∧ k = .int .i64 i ∧ Hid (SomeInv s l w i v wr))
  case atStart => exact ⟨0, Nat.zero_le _, rfl, rfl, (Below.refl _ _).alloc (Nat.le_refl _) _, blk_new _ _, World.ownsRow_nil _ _ _ _⟩
  case round =>
    obtain ⟨i, hil, hg, rfl, HI⟩ := hrel
    obtain ⟨hBel, hs, hown⟩ := HI.out
    have HO := Lib.hid hown
    have HB := Lib.hid hBel
    have hsc := cells_all hs
    have hy := size_of hs
    clear hown hBel
    have HS := Lib.hid hs
    clear hs
    simp only [CellsAt, Nat.reduceAdd, and_true] at hsc
    obtain ⟨s0, s1, s2, s3, s4, s5, s6⟩ := hsc
    by_cases hlt : i < l.length
    · obtain ⟨b, off, cs, rfl, hc, hR⟩ := HR.out.get (List.getElem?_eq_getElem hlt)
      have hlt? : l[i]? = some l[i] := List.getElem?_eq_getElem hlt
      generalize l[i] = t at hR hlt?
      have HT := Lib.hid hlt?
      clear hlt?
      obtain ⟨rfl, he1, he2⟩ := rTie_out hR
      replace hc := hc.mono (CK.of_below HB.out)
      change CellsOff wr b (off + i * 10) 0 t.cells at hc
      have HC := Lib.hid hc
      have hyb := cell_size hc.1
      simp only [CellsOff, Tie.cells, Nat.reduceAdd, Nat.add_zero, and_true] at hc
      obtain ⟨c0, c1, c2, c3, c4, c5, c6, c7, c8, c9⟩ := hc
      clear hR he1 he2
      go_wp2_with fail
      go_still_tail 5, (by kernel_rfl)
      clear c0 c1 c2 c3 c4 c5 c6 c7 c8 c9 s0 s1 s2 s3 s4 s5 s6
      go_wp2_with fail
      refine (rgoes_calls t s _).mono ?_
      rintro e w2 ⟨rfl, hb2⟩
      change Below wr.heap.size wr.drew w2 at hb2
      have hb3 : Below wr.heap.size wr w2 := ((Below.refl _ _).drew).trans hb2
      have hz := hb3.size
      have HO2 := Lib.hid (owns_below HO.out hb3)
      have HS2 := Lib.hid (blk_below' hb3 HS.out)
      have hc2 := HC.out.mono (CK.of_below hb3)
      have HB2 := Lib.hid (HB.out.trans (hb3.mono HB.out.size))
      have HBS := Lib.hid HB2.out.size
      clear hb2 hb3
      simp only [CellsOff, Tie.cells, Nat.reduceAdd, Nat.add_zero, and_true] at hc2
      obtain ⟨v0, v1, v2, v3, v4, v5, v6, v7, v8, v9⟩ := hc2
      obtain ⟨g, hgs⟩ : ∃ g, g = goes s t := ⟨_, rfl⟩
      have HG := Lib.hid hgs
      rw [← hgs]
      clear hgs
      cases g
      · go_wp2_with fail
        go_roundg (l.length - i)
        case measure => omega
        case rel =>
          refine ⟨i + 1, by omega, by omega, by go_num, HB2.out, HS2.out, ?_⟩
          rw [got_succ s l i t HT.out, ← HG.out]
          simpa using HO2.out
      · go_wp2_with (at_builtin; refine wpList_append_own _ rfl _ _ 22 rfl (w.heap.size + 1) 35 i0 _ 10 112 Try.underlying22 hi hz0 hz1 hz2 rfl (by decide) _ _ _ rfl (HO2.out.alloc _) ⟨w2.heap.size, 0, none⟩ 1 1 t.cells rfl rfl ?c1 ?c2 ?c3 ?c4 ?c5 ?_)
        case c1 => exact new_cells w2 t.cells 35
        case c2 => intro u hu; simp only [Tie.cells, List.mem_cons, List.not_mem_nil, or_false] at hu; rcases hu with rfl | rfl | rfl | rfl | rfl | rfl | rfl | rfl | rfl | rfl <;> rfl
        case c3 => have := got_le s l i; unfold maxLen; omega
        case c4 => have := got_le s l i; omega
        case c5 => rw [World.size_alloc]; have := HBS.out; omega
        intro v' w3 hown3 hgrow3 _
        have hB3 : Below w.heap.size w w3 := (HB2.out.alloc HBS.out _).grown hgrow3 (by rw [World.size_alloc]; have := HBS.out; omega) (fun k hk => by have := (HO.out.lt k hk).1; omega)
        have hS3 := blk_grown hgrow3 (blk_alloc HS2.out _) (fun he => by have := (HO.out.lt _ he.symm).1; omega)
        have HO3 := Lib.hid hown3
        have HB3 := Lib.hid hB3
        have HS3 := Lib.hid hS3
        clear hown3 hgrow3 hB3 hS3
        go_wp2_with fail
        go_roundg (l.length - i)
        case measure => omega
        case rel =>
          refine ⟨i + 1, by omega, by omega, by go_num, HB3.out, HS3.out, ?_⟩
          rw [got_succ s l i t HT.out, ← HG.out]
          simpa [flat] using HO3.out
    · go_wp2_with fail
      go_ret
      have hii : i = l.length := by omega
      subst hii
      rw [got_all] at HO
      obtain ⟨a', c', rfl, hrow⟩ := row_of_owns (A := rTie) Tie.cells HO.out (fun _ => rfl) (fun x hx => by
        obtain ⟨cs, hcs⟩ := HR.out.all (List.mem_filter.1 hx).1
        obtain ⟨rfl, _⟩ := rTie_out hcs
        exact rTie.mono (CK.of_below HB.out) hcs)
      exact ⟨a', c', rfl, hrow, HB.out⟩
end Go.Proofs.Ytnibdmbkefldfaa
