/- The reference: Best, Quiet. -/
import Derived.Test.YthdhodopmffdmaaZtO
import Derived.Test.YthdhodopmffdmaaApp
namespace Go.Proofs.Ythdhodopmffdmaa
open Go.RowKit

def rOff : Rd (Int × (Int × Int)) := ⟨3, fun _ cs x => cs = ofCells x, fun h => by rw [h]; rfl, fun _ h => h⟩
theorem rat_row {w : World} {base rb : Nat} {z : Zs} {l : Offs} (h : RAt w base rb z l) : ∃ a c, w.heap[rb]? = some (rBlk z (.slice a l.length c)) ∧ RowAt rOff w a l := by
  obtain ⟨v, h1, h2⟩ := h
  obtain ⟨a, c, rfl, h3⟩ := row_of_owns (A := rOff) ofCells h2 (fun _ => rfl) (fun x _ => rfl)
  exact ⟨a, c, h1, h3⟩
theorem off_cells {w w' : World} {b off : Nat} {x : Int × (Int × Int)} {cs : List Value} (hc : CellsOff w b off 0 cs) (hR : cs = ofCells x) (hb : Below w.heap.size w w') :
    (w'.cell? ⟨b, off, none⟩ = some (.int .i64 x.1) ∧ w'.cell? ⟨b, off + 1, none⟩ = some (.int .i64 x.2.1) ∧ w'.cell? ⟨b, off + 2, none⟩ = some (.int .i64 x.2.2)) ∧ b < w'.heap.size := by
  subst hR
  have h := hc.mono (CK.of_below hb)
  simp only [CellsOff, ofCells, Nat.reduceAdd, Nat.add_zero, and_true] at h
  exact ⟨h, cell_size h.1⟩
theorem bestM_take {l : Offs} {i : Nat} {x : Int × (Int × Int)} (h : l[i]? = some x) : bestM (l.take (i + 1)) = max (bestM (l.take i)) x.2.1 := by
  rw [List.take_add_one, h]
  have key : ∀ l : Offs, bestM (l ++ [x]) = max (bestM l) x.2.1 := by
    intro l
    induction l with
    | nil => simp [bestM]; omega
    | cons p l ih =>
      have e : bestM (p :: (l ++ [x])) = max p.2.1 (bestM (l ++ [x])) := rfl
      have e2 : bestM (p :: l) = max p.2.1 (bestM l) := rfl
      rw [List.cons_append, e, e2, ih]
      omega
  exact key _

set_option maxHeartbeats 1000000 in
theorem rbest_calls (base rb : Nat) (z : Zs) (l : Offs) (w : World) (h : RAt w base rb z l) (hl : l.length ≤ 1000) : Calls Try.prog 19 #[.pointer (some ⟨rb, 0, none⟩)] w fun e w' => e = .returned (.int .i64 (bestM l)) ∧ w = w' := by
  obtain ⟨a, c, h1, h2⟩ := rat_row h
  have k1 := cells_all h1
  simp only [CellsAt, Nat.reduceAdd, and_true] at k1
  obtain ⟨-, -, -, c3, -, -, -⟩ := k1
  have hlt := size_of h1
  have HR := Lib.hid h2
  clear h h1 h2
  go_enter Try.func19, Try.ntmps19
  go_wp2_with (fail)
  go_loopg [3, 4] (l.length + 1) (fun g v k wr => ∃ i : Nat, i ≤ l.length ∧ g + i = l.length + 1 ∧ v = .int .i64 (bestM (l.take i)) ∧ k = .int .i64 i ∧ w = wr)
  case atStart => exact ⟨0, Nat.zero_le _, rfl, rfl, rfl, rfl⟩
  case round =>
    obtain ⟨i, hil, hg, rfl, rfl, rfl⟩ := hrel
    by_cases hlt2 : i < l.length
    · have e1 : IntKind.i64.wrap ((i : Int) + 1) = (i : Int) + 1 := IntWalk.i64_in _ (by omega)
      obtain ⟨b, off, cs, rfl, hc, hR⟩ := HR.out.get (List.getElem?_eq_getElem hlt2)
      have hgx : l[i]? = some l[i] := List.getElem?_eq_getElem hlt2
      generalize l[i] = x at hR hgx
      obtain ⟨⟨d0, d1, d2⟩, dl⟩ := off_cells (show CellsOff w b (off + i * 3) 0 cs from hc) hR (Below.refl _ _)
      have HT := Lib.hid (bestM_take hgx)
      clear hc hR hgx
      generalize bestM (l.take i) = bv at HT
      go_wp2_with (fail)
      all_goals
        go_roundg (l.length - i)
        case measure => omega
        case rel => exact ⟨i + 1, by omega, by omega, by rw [HT.out]; first | rw [Int.max_eq_left (by omega)] | rw [Int.max_eq_right (by omega)], by go_num, rfl⟩
    · have hlt3 : ¬ (i : Int) < l.length := by omega
      have bl : decide ((i : Int) < l.length) = false := decide_eq_false hlt3
      have hfull : l.take i = l := List.take_of_length_le (by omega)
      rw [hfull]
      clear hfull
      go_wp2_with (fail)
      go_ret
      exact ⟨rfl, rfl⟩

def ownB (z : Zs) : Bool := !toldB z
theorem own_quiet {rb : Nat} {z : Zs} {v : Value} (w : World) (h : w.heap[rb]? = some (rBlk z v)) {b : Bool} (hb : (!toldB z) = b) (n : Nat) : Calls Try.prog 25 #[.pointer (some ⟨rb, 0, none⟩)] (w.drewN n) fun e w' => e = .returned (.bool b) ∧ ∃ m, w' = w.drewN m :=
  Calls.quiet_of_same ((own_calls rb z v (w.drewN n) h).mono fun _ _ h => ⟨by rw [h.1, hb], h.2.symm⟩)
/-- Among the first i pairs none has the key. -/
def NoneTo (l : Offs) (i : Nat) (k : Int) : Prop := ∀ p ∈ l.take i, p.1 ≠ k
theorem noneTo_next {l : Offs} {i : Nat} {k : Int} {x : Int × (Int × Int)} (h : NoneTo l i k) (hx : l[i]? = some x) (hk : x.1 ≠ k) : NoneTo l (i + 1) k := by
  intro p hp
  rw [List.take_add_one, hx] at hp
  rcases List.mem_append.1 hp with hp | hp
  · exact h p hp
  · simp at hp; rw [hp]; exact hk
theorem noneTo_get {l : Offs} {i : Nat} {k : Int} {x : Int × (Int × Int)} (h : NoneTo l i k) (hx : l[i]? = some x) (hk : x.1 = k) : getM l k = some x.2 := by
  have hs : l = l.take i ++ x :: l.drop (i + 1) := by
    have hi := List.getElem?_eq_some_iff.1 hx
    obtain ⟨hi, he⟩ := hi
    rw [← he, ← List.drop_eq_getElem_cons hi, List.take_append_drop]
  rw [hs]
  unfold getM
  rw [List.find?_append]
  have : (l.take i).find? (fun p => p.1 == k) = none := List.find?_eq_none.2 fun p hp => by simpa using h p hp
  rw [this]
  simp [hk]

set_option maxHeartbeats 1000000 in
theorem rquiet_calls (base rb : Nat) (z : Zs) (l : Offs) (w : World) (link : Int) (h : RAt w base rb z l) (hl : l.length ≤ 1000) : Calls Try.prog 21 #[.pointer (some ⟨rb, 0, none⟩), .int .i64 link] w fun e w' => e = .returned (.bool (quietB z l link)) ∧ Below w.heap.size w w' := by
  obtain ⟨a, c, h1, h2⟩ := rat_row h
  have k1 := cells_all h1
  simp only [CellsAt, Nat.reduceAdd, and_true] at k1
  obtain ⟨-, -, -, c3, c4, -, -⟩ := k1
  have hlt := size_of h1
  have HR := Lib.hid h2
  have HB := Lib.hid h1
  clear h h1 h2
  go_enter Try.func21, Try.ntmps21
  go_wp2_with (fail)
  go_loopg [5] (l.length + 1) (fun g k wr => ∃ i : Nat, i ≤ l.length ∧ g + i = l.length + 1 ∧ k = .int .i64 i ∧ Hid (NoneTo l i link) ∧ w = wr)
  case atStart => exact ⟨0, Nat.zero_le _, rfl, rfl, fun p hp => by simp at hp, rfl⟩
  case round =>
    obtain ⟨i, hil, hg, rfl, HN, rfl⟩ := hrel
    by_cases hlt2 : i < l.length
    · have e1 : IntKind.i64.wrap ((i : Int) + 1) = (i : Int) + 1 := IntWalk.i64_in _ (by omega)
      obtain ⟨b, off, cs, rfl, hc, hR⟩ := HR.out.get (List.getElem?_eq_getElem hlt2)
      have hgx : l[i]? = some l[i] := List.getElem?_eq_getElem hlt2
      generalize l[i] = x at hR hgx
      obtain ⟨⟨d0, d1, d2⟩, dl⟩ := off_cells (show CellsOff w b (off + i * 3) 0 cs from hc) hR (Below.refl _ _)
      have HX := Lib.hid hgx
      clear hc hR hgx
      by_cases hk : x.1 = link
      · have HG := Lib.hid (noneTo_get HN.out HX.out hk)
        have bk : (x.1 == link) = true := by simpa using hk
        clear hk
        cases ht : toldB z
        · have HC := Lib.hid (own_quiet w HB.out (show (!toldB z) = true by rw [ht]; rfl))
          have HT := Lib.hid ht
          clear ht
          go_wp2_with (fail)
          go_quiet ((go_at_call 25; exact HC.out _))
          go_wp2
          go_ret
          exact ⟨ret_b (by rw [quietB, HG.out]; simp [HT.out]), below_drewN (Below.refl _ _) _⟩
        · have HC := Lib.hid (own_quiet w HB.out (show (!toldB z) = false by rw [ht]; rfl))
          have HT := Lib.hid ht
          clear ht
          go_wp2_with (fail)
          go_quiet ((go_at_call 25; exact HC.out _))
          go_wp2
          go_ret
          exact ⟨ret_b (by rw [quietB, HG.out]; simp [HT.out]), below_drewN (Below.refl _ _) _⟩
      · have HM := Lib.hid (noneTo_next HN.out HX.out hk)
        have bk : (x.1 == link) = false := by simpa using hk
        go_wp2_with (fail)
        go_roundg (l.length - i)
        case measure => omega
        case rel => exact ⟨i + 1, by omega, by omega, by go_num, HM, rfl⟩
    · have hlt3 : ¬ (i : Int) < l.length := by omega
      have bl : decide ((i : Int) < l.length) = false := decide_eq_false hlt3
      have HG := Lib.hid (show getM l link = none from getM_none.2 (by have := HN.out; unfold NoneTo at this; rw [List.take_of_length_le (by omega)] at this; exact this))
      go_wp2_with (fail)
      go_ret
      exact ⟨ret_b (by rw [quietB, HG.out]), Below.refl _ _⟩
end Go.Proofs.Ythdhodopmffdmaa
