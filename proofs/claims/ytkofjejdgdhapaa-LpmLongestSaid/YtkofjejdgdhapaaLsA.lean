/- The reference's Same, All. -/
import Derived.Test.YtkofjejdgdhapaaLrF
namespace Go.Proofs.Ytkofjejdgdhapaa
open Go.RowKit Go.Shelf

def rPf : Rd Pf := ⟨2, fun _ cs x => cs = cP x, fun h => by rw [h]; rfl, fun _ h => h⟩
theorem pf_row {w : World} {B : Nat} {v : Value} {xs : List Pf} (h : w.ownsRow B 30 2 v xs.length (flatP xs)) : ∃ a c, v = .slice a xs.length c ∧ RowAt rPf w a xs :=
  row_of_owns (A := rPf) cP h (fun _ => rfl) (fun _ _ => rfl)
theorem pf_cells {w w' : World} {b off j : Nat} {x : Pf} {cs : List Value} (h : CellsOff w b (off + j * rPf.n) 0 cs) (hR : rPf.R w cs x) (hb : CK w w') :
    (w'.cell? ⟨b, off + j * 2, none⟩ = some (.int .u32 x.1) ∧ w'.cell? ⟨b, off + j * 2 + 1, none⟩ = some (.int .i64 x.2)) ∧ b < w'.heap.size := by
  obtain rfl : cs = cP x := hR
  have hc := h.mono hb
  simp only [CellsOff, cP, rPf, Nat.reduceAdd, Nat.add_zero, and_true] at hc
  exact ⟨hc, cell_size hc.1⟩
set_option maxRecDepth 100000 in
set_option maxHeartbeats 1000000 in
theorem same_calls (xs : List Pf) (a1 a2 : Option Addr) (c1 c2 : Nat) (w : World) (h1 : RowAt rPf w a1 xs) (h2 : RowAt rPf w a2 xs) (hN : xs.length ≤ 100000) :
    Calls Try.prog 20 #[.slice a1 xs.length c1, .slice a2 xs.length c2] w fun e w' => e = .returned (.bool true) ∧ Below w.heap.size w w' := by
  have H1 := Lib.hid h1
  have H2 := Lib.hid h2
  clear h1 h2
  go_enter Try.func20, Try.ntmps20
  go_wp2_with (fail)
  go_loopg [5] (xs.length + 1) (fun g i wr => ∃ j : Nat, j ≤ xs.length ∧ g + j = xs.length + 1 ∧ i = .int .i64 j ∧ Hid (Below w.heap.size w wr))
  case atStart => exact ⟨0, Nat.zero_le _, rfl, rfl, Below.refl _ _⟩
  case round =>
    obtain ⟨j, hj, hg, rfl, HB⟩ := hrel
    by_cases hlt : j < xs.length
    · have e1 : IntKind.i64.wrap ((j : Int) + 1) = (j : Int) + 1 := IntWalk.i64_in _ (by omega)
      obtain ⟨bk, off, cs, rfl, hc, hR⟩ := H1.out.get (List.getElem?_eq_getElem hlt)
      obtain ⟨bk2, off2, cs2, rfl, hc2, hR2⟩ := H2.out.get (List.getElem?_eq_getElem hlt)
      generalize xs[j] = x at hR hR2
      obtain ⟨⟨x0, x1⟩, bl⟩ := pf_cells hc hR (CK.of_below HB.out)
      obtain ⟨⟨y0, y1⟩, bl2⟩ := pf_cells hc2 hR2 (CK.of_below HB.out)
      clear hc hR hc2 hR2
      go_wp2_with (fail)
      go_quiet (fail)
      go_wp2_with (fail)
      go_roundg (xs.length - j)
      case measure => omega
      case rel => exact ⟨j + 1, by omega, by omega, by go_num, Lib.hid (below_drewN HB.out _)⟩
    · have hlt3 : ¬ (j : Int) < xs.length := by omega
      go_wp2_with (fail)
      go_ret
      exact ⟨rfl, HB.out⟩

theorem ra_take {L : List Kn} {j : Nat} {x : Kn} (h : L[j]? = some x) : flatP ((L.take (j + 1)).map pfOf) = flatP ((L.take j).map pfOf) ++ cP (pfOf x) := by
  rw [List.take_add_one, h]
  simp [flatP]
set_option maxRecDepth 100000 in
set_option maxHeartbeats 1000000 in
theorem rall_calls (B rb : Nat) (room : Int) (v : Value) (L : List Kn) (w : World) (h : RefAt w B rb room v L) (hl : L.length ≤ 100000) (hr : ∀ x ∈ L, rightB x.net x.b = true) :
    Calls Try.prog 21 #[.pointer (some ⟨rb, 0, none⟩)] w fun e w' => ∃ v, e = .returned v ∧ w'.ownsRow w.heap.size 30 2 v L.length (flatP (L.map pfOf)) ∧ Below w.heap.size w w' := by
  obtain ⟨i0, hi0, hz0, hz1, hz2⟩ := info_parts infoPf
  have HT := Lib.hid h
  obtain ⟨a, c, rfl, hrow⟩ := h.row
  have HR := Lib.hid hrow
  have HRT := Lib.hid hr
  clear hrow h hr
  go_enter Try.func21, Try.ntmps21
  go_wp2_with (fail)
  go_loopg [3, 4] (L.length + 1) (fun g v i wr => ∃ j : Nat, j ≤ L.length ∧ g + j = L.length + 1 ∧ i = .int .i64 j ∧ Hid (Below w.heap.size w wr ∧ wr.ownsRow w.heap.size 30 2 v j (flatP ((L.take j).map pfOf))))
  case atStart => exact ⟨0, Nat.zero_le _, rfl, rfl, Below.refl _ _, World.ownsRow_nil _ _ _ _⟩
  case round =>
    obtain ⟨j, hj, hg, rfl, HI⟩ := hrel
    obtain ⟨t0, t1, tl, -⟩ := (HT.out.on HI.out.1).cells
    by_cases hlt : j < L.length
    · have e1 : IntKind.i64.wrap ((j : Int) + 1) = (j : Int) + 1 := IntWalk.i64_in _ (by omega)
      obtain ⟨bk, off, cs, rfl, hc, hR⟩ := HR.out.get (List.getElem?_eq_getElem hlt)
      have hx? : L[j]? = some L[j] := List.getElem?_eq_getElem hlt
      obtain ⟨k, hk, hk32, -⟩ := rightB_of (HRT.out _ (List.mem_of_getElem? hx?))
      generalize L[j] = x at hR hx? hk
      obtain ⟨xn, xb, xm⟩ := x
      obtain rfl : xb = k := hk
      obtain ⟨⟨x0, x1, x2⟩, bl⟩ := kn_cells hc hR (CK.of_below HI.out.1)
      have HX := Lib.hid (ra_take hx?)
      clear hc hR hx?
      go_wp2_with (at_builtin; refine wpList_append_own _ rfl _ _ 36 rfl w.heap.size 30 i0 _ 2 16 Try.underlying36 hi0 hz0 hz1 hz2 rfl (by decide) _ _ _ rfl (HI.out.2.alloc _) ⟨_, 0, none⟩ 1 1 (cP (xn, k)) rfl rfl ?c1 ?c2 ?c3 ?c4 ?c5 ?_)
      case c1 => exact fun _ _ h => h
      case c2 => intro u hu; simp only [cP, List.mem_cons, List.not_mem_nil, or_false] at hu; rcases hu with rfl | rfl <;> rfl
      case c3 => unfold maxLen; omega
      case c4 => omega
      case c5 => have := HI.out.1.size; omega
      intro v' w3 hown3 hgrow3 _
      have HB3 := Lib.hid ((HI.out.1.alloc HI.out.1.size _).grown hgrow3 (by rw [World.size_alloc]; have := HI.out.1.size; omega) (fun k hk => by have := (HI.out.2.lt k hk).1; omega))
      have HO3 := Lib.hid hown3
      clear hown3 hgrow3
      go_wp2_with (fail)
      go_roundg (L.length - j)
      case measure => omega
      case rel => exact ⟨j + 1, by omega, by omega, by go_num, Lib.hid ⟨HB3.out, by rw [HX.out, List.map_take]; exact HO3.out⟩⟩
    · have hlt3 : ¬ (j : Int) < L.length := by omega
      obtain rfl : j = L.length := by omega
      go_wp2_with (fail)
      go_ret
      refine ⟨_, rfl, ?_, HI.out.1⟩
      have := HI.out.2
      rw [List.take_length] at this
      exact this
end Go.Proofs.Ytkofjejdgdhapaa
