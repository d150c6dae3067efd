/- The reference's table in memory; place, Get. -/
import Derived.Test.YtkofjejdgdhapaaLqA
import Derived.Test.YtkofjejdgdhapaaApp
namespace Go.Proofs.Ytkofjejdgdhapaa
open Go.RowKit

structure Kn where
  net : Nat
  b : Int
  n : Int
def Kn.cells (x : Kn) : List Value := [.int .u32 x.net, .int .i64 x.b, .int .i64 x.n]
def Kn.key (x : Kn) : Nat × Int := (x.net, x.b)
def rKn : Rd Kn := ⟨3, fun _ cs x => cs = x.cells, fun h => by rw [h]; rfl, fun _ h => h⟩
abbrev flatK (l : List Kn) : List Value := l.flatMap Kn.cells
structure RefAt (w : World) (B rb : Nat) (room : Int) (v : Value) (L : List Kn) : Prop where
  blk : w.heap[rb]? = some (.cells #[.int .i64 room, v] 46 (0, 0))
  own : w.ownsRow B 66 3 v L.length (flatK L)
  ne : ∀ g, v.ownBlock = some g → g ≠ rb
  lo : B ≤ rb
theorem RefAt.on {w w' : World} {B rb : Nat} {room : Int} {v : Value} {L : List Kn} (h : RefAt w B rb room v L) (hb : Below w.heap.size w w') : RefAt w' B rb room v L :=
  ⟨blk_below' hb h.blk, owns_below h.own hb, h.ne, h.lo⟩
theorem RefAt.row {w : World} {B rb : Nat} {room : Int} {v : Value} {L : List Kn} (h : RefAt w B rb room v L) : ∃ a c, v = .slice a L.length c ∧ RowAt rKn w a L :=
  row_of_owns (A := rKn) Kn.cells h.own (fun _ => rfl) (fun _ _ => rfl)
theorem RefAt.cells {w : World} {B rb : Nat} {room : Int} {v : Value} {L : List Kn} (h : RefAt w B rb room v L) : w.cell? ⟨rb, 0, none⟩ = some (.int .i64 room) ∧ w.cell? ⟨rb, 1, none⟩ = some v ∧ rb < w.heap.size ∧ w.frozen? ⟨rb, 1, none⟩ = false := by
  have k := cells_all (l := [_, _]) h.blk
  simp only [CellsAt, Nat.reduceAdd, and_true] at k
  exact ⟨k.1, k.2, size_of h.blk, frz h.blk 1⟩

theorem box_trans {w w2 : World} {o : Obj} (h : Below (w.alloc o).heap.size (w.alloc o) w2) : Below w.heap.size w w2 := ((Below.refl _ _).alloc (Nat.le_refl _) _).trans (h.mono (by rw [World.size_alloc]; omega))
theorem RefAt.alloc {w : World} {B rb : Nat} {room : Int} {v : Value} {L : List Kn} (h : RefAt w B rb room v L) (o : Obj) : RefAt (w.alloc o) B rb room v L := h.on ((Below.refl _ _).alloc (Nat.le_refl _) _)

def placeL : List Kn → Nat × Int → Nat × Bool
  | [], _ => (0, false)
  | x :: l, q => if 0 ≤ cmpK x.key q then (0, cmpK x.key q == 0) else ((placeL l q).1 + 1, (placeL l q).2)
theorem placeL_at {q : Nat × Int} {x : Kn} : ∀ {L : List Kn} {j : Nat}, (∀ (i : Nat) (y : Kn), i < j → L[i]? = some y → cmpK y.key q < 0) → L[j]? = some x → 0 ≤ cmpK x.key q → placeL L q = (j, cmpK x.key q == 0)
  | [], j, _, h, _ => by simp at h
  | y :: l, 0, _, h, hc => by
    simp at h; subst h
    rw [placeL, if_pos hc]
  | y :: l, j + 1, ha, h, hc => by
    have h0 := ha 0 y (by omega) rfl
    rw [placeL, if_neg (by omega), placeL_at (L := l) (j := j) (fun i z hi hz => ha (i + 1) z (by omega) (by simpa using hz)) (by simpa using h) hc]
theorem placeL_end {q : Nat × Int} : ∀ {L : List Kn}, (∀ (i : Nat) (y : Kn), L[i]? = some y → cmpK y.key q < 0) → placeL L q = (L.length, false)
  | [], _ => rfl
  | y :: l, ha => by
    have h0 := ha 0 y rfl
    rw [placeL, if_neg (by omega), placeL_end (L := l) (fun i z hz => ha (i + 1) z (by simpa using hz))]
    rfl
theorem kn_cells {w w' : World} {b off j : Nat} {x : Kn} {cs : List Value} (h : CellsOff w b (off + j * rKn.n) 0 cs) (hR : rKn.R w cs x) (hb : CK w w') :
    (w'.cell? ⟨b, off + j * 3, none⟩ = some (.int .u32 x.net) ∧ w'.cell? ⟨b, off + j * 3 + 1, none⟩ = some (.int .i64 x.b) ∧ w'.cell? ⟨b, off + j * 3 + 2, none⟩ = some (.int .i64 x.n)) ∧ b < w'.heap.size := by
  obtain rfl : cs = x.cells := hR
  have hc := h.mono hb
  simp only [CellsOff, Kn.cells, rKn, Nat.reduceAdd, Nat.add_zero, and_true] at hc
  exact ⟨hc, cell_size hc.1⟩
def PlInv (L : List Kn) (q : Nat × Int) (w : World) (j : Nat) (wr : World) : Prop :=
  Below w.heap.size w wr ∧ wr.heap[w.heap.size]? = some (.cells #[.int .u32 q.1, .int .i64 q.2] 30 (0, 0)) ∧ ∀ (i : Nat) (y : Kn), i < j → L[i]? = some y → cmpK y.key q < 0
theorem PlInv.on {L : List Kn} {q : Nat × Int} {w wr w2 : World} {j : Nat} (h : PlInv L q w j wr) (hb : Below wr.heap.size wr w2) : PlInv L q w j w2 := ⟨h.1.trans (hb.mono h.1.size), blk_below' hb h.2.1, h.2.2⟩
theorem PlInv.next {L : List Kn} {q : Nat × Int} {w wr : World} {j : Nat} {x : Kn} (h : PlInv L q w j wr) (hx : L[j]? = some x) (hc : cmpK x.key q < 0) : PlInv L q w (j + 1) wr :=
  ⟨h.1, h.2.1, fun i y hi hy => by
    by_cases e : i = j
    · subst e; rw [hx] at hy; obtain rfl := Option.some.inj hy; exact hc
    · exact h.2.2 i y (by omega) hy⟩

set_option maxRecDepth 100000 in
set_option maxHeartbeats 1000000 in
theorem place_calls (B rb : Nat) (room : Int) (v : Value) (L : List Kn) (net : Nat) (b : Int) (w : World) (h : RefAt w B rb room v L) (hl : L.length ≤ 100000) :
    Calls Try.prog 34 #[.pointer (some ⟨rb, 0, none⟩), .agg #[.int .u32 net, .int .i64 b]] w fun e w' => e = .returned (.tuple #[.int .i64 (placeL L (net, b)).1, .bool (placeL L (net, b)).2]) ∧ Below w.heap.size w w' := by
  have HT := Lib.hid h
  obtain ⟨a, c, rfl, hr⟩ := h.row
  have HR := Lib.hid hr
  have HI0 := Lib.hid (show PlInv L (net, b) w 0 (w.alloc (.cells #[.int .u32 net, .int .i64 b] 30 (0, 0))) from ⟨(Below.refl _ _).alloc (Nat.le_refl _) _, blk_new _ _, fun i y hi => by omega⟩)
  clear hr h
  go_enter Try.func34, Try.ntmps34
  go_wp2_with (fail)
  go_loopg [6] (L.length + 1) (fun g i wr => ∃ j : Nat, j ≤ L.length ∧ g + j = L.length + 1 ∧ i = .int .i64 j ∧ Hid (PlInv L (net, b) w j wr))
  case atStart => exact ⟨0, Nat.zero_le _, rfl, rfl, HI0⟩
  case round =>
    clear HI0
    obtain ⟨j, hj, hg, rfl, HI⟩ := hrel
    obtain ⟨t0, t1, tl, -⟩ := (HT.out.on HI.out.1).cells
    have k1 := cells_all (l := [_, _]) HI.out.2.1
    have z1 := size_of HI.out.2.1
    simp only [CellsAt, Nat.reduceAdd, and_true] at k1
    obtain ⟨p0, p1⟩ := k1
    by_cases hlt : j < L.length
    · have e1 : IntKind.i64.wrap ((j : Int) + 1) = (j : Int) + 1 := IntWalk.i64_in _ (by omega)
      obtain ⟨bk, off, cs, rfl, hc, hR⟩ := HR.out.get (List.getElem?_eq_getElem hlt)
      have hx? : L[j]? = some L[j] := List.getElem?_eq_getElem hlt
      generalize L[j] = x at hR hx?
      obtain ⟨⟨x0, x1, x2⟩, bl⟩ := kn_cells hc hR (CK.of_below HI.out.1)
      have HX := Lib.hid hx?
      obtain ⟨cv, hcv⟩ : ∃ cv, cmpK (x.net, x.b) (net, b) = cv := ⟨_, rfl⟩
      have HC := Lib.hid hcv
      clear hc hR hx? hcv
      go_wp2_with (fail)
      go_still_tail 9, (by kernel_rfl)
      by_cases hcc : 0 ≤ cv
      · go_wp2_with ((go_at_call 41; refine (rcmp_calls _ _ _ _ _).mono ?_; rintro e w2 ⟨rfl, hb2⟩; rw [HC.out]; have HI2 := Lib.hid (HI.out.on (((Below.refl _ _).drew).trans hb2)); clear hb2))
        have HV := Lib.hid (placeL_at HI.out.2.2 HX.out (show 0 ≤ cmpK x.key (net, b) by rw [Kn.key, HC.out]; exact hcc))
        go_ret2
        refine ⟨?_, HI2.out.1⟩
        rw [HV.out, Kn.key, HC.out]; rfl
      · go_wp2_with ((go_at_call 41; refine (rcmp_calls _ _ _ _ _).mono ?_; rintro e w2 ⟨rfl, hb2⟩; rw [HC.out]; have HI2 := Lib.hid (HI.out.on (((Below.refl _ _).drew).trans hb2)); clear hb2))
        go_roundg (L.length - j)
        case measure => omega
        case rel => exact ⟨j + 1, by omega, by omega, by go_num, Lib.hid (HI2.out.next HX.out (by rw [Kn.key, HC.out]; omega))⟩
    · have hlt3 : ¬ (j : Int) < L.length := by omega
      have HV := Lib.hid (placeL_end (L := L) (q := (net, b)) (fun i y hy => HI.out.2.2 i y (by have := (List.getElem?_eq_some_iff.1 hy).1; omega) hy))
      go_wp2_with (fail)
      go_ret2
      exact ⟨by rw [HV.out]; rfl, HI.out.1⟩

/-! ### Get -/
def getK (L : List Kn) (q : Nat × Int) : Option Int := if (placeL L q).2 then (L[(placeL L q).1]?).map (·.n) else none
theorem placeL_bound {q : Nat × Int} : ∀ {L : List Kn}, (placeL L q).2 = true → ∃ x, L[(placeL L q).1]? = some x ∧ cmpK x.key q = 0
  | [], h => by simp [placeL] at h
  | y :: l, h => by
    rw [placeL] at h ⊢
    by_cases hc : 0 ≤ cmpK y.key q
    · rw [if_pos hc] at h ⊢
      exact ⟨y, rfl, by simpa using h⟩
    · rw [if_neg hc] at h ⊢
      obtain ⟨x, h1, h2⟩ := placeL_bound (L := l) h
      exact ⟨x, by simpa using h1, h2⟩
theorem placeL_le {q : Nat × Int} : ∀ (L : List Kn), (placeL L q).1 ≤ L.length
  | [] => Nat.le_refl _
  | y :: l => by
    rw [placeL]
    split
    · exact Nat.zero_le _
    · have := placeL_le (q := q) l
      simp only [List.length_cons]
      omega
set_option maxRecDepth 100000 in
set_option maxHeartbeats 1000000 in
theorem rget_calls (B rb : Nat) (room : Int) (v : Value) (L : List Kn) (net : Nat) (b : Int) (w : World) (h : RefAt w B rb room v L) (hl : L.length ≤ 100000) :
    Calls Try.prog 19 #[.pointer (some ⟨rb, 0, none⟩), .agg #[.int .u32 net, .int .i64 b]] w fun e w' => e = .returned (.tuple #[.int .i64 ((getK L (net, b)).getD 0), .bool (getK L (net, b)).isSome]) ∧ Below w.heap.size w w' := by
  have HT := Lib.hid h
  obtain ⟨a, c, rfl, hr⟩ := h.row
  have HR := Lib.hid hr
  clear hr h
  cases hp : (placeL L (net, b)).2 with
  | false =>
    obtain ⟨i, hi⟩ : ∃ i, (placeL L (net, b)).1 = i := ⟨_, rfl⟩
    have HV := Lib.hid (show getK L (net, b) = none by rw [getK, hp]; rfl)
    have HP := Lib.hid (And.intro hp hi)
    clear hp hi
    go_enter Try.func19, Try.ntmps19
    go_wp2_with ((go_at_call 34; refine (place_calls B rb room _ L net b _ (HT.out.alloc _) hl).mono ?_; rintro e w2 ⟨rfl, hb0⟩; have hb := box_trans hb0; clear hb0; rw [HP.out.1, HP.out.2]; have HB := Lib.hid hb; clear hb))
    go_ret2
    exact ⟨by rw [HV.out]; rfl, HB.out⟩
  | true =>
    obtain ⟨x, hx, hxc⟩ := placeL_bound hp
    obtain ⟨i, hi⟩ : ∃ i, (placeL L (net, b)).1 = i := ⟨_, rfl⟩
    rw [hi] at hx
    have hlt : i < L.length := (List.getElem?_eq_some_iff.1 hx).1
    have HV := Lib.hid (show getK L (net, b) = some x.n by rw [getK, hp, hi, hx]; rfl)
    have HP := Lib.hid (And.intro hp hi)
    obtain ⟨bk, off, cs, rfl, hc, hR⟩ := HR.out.get hx
    have HCS := Lib.hid (And.intro hc hR)
    clear hp hi hxc hc hR hx
    go_enter Try.func19, Try.ntmps19
    go_wp2_with ((go_at_call 34; refine (place_calls B rb room _ L net b _ (HT.out.alloc _) hl).mono ?_; rintro e w2 ⟨rfl, hb0⟩; have hb := box_trans hb0; clear hb0; rw [HP.out.1, HP.out.2]; obtain ⟨⟨x0, x1, x2⟩, bl⟩ := kn_cells HCS.out.1 HCS.out.2 (CK.of_below hb); obtain ⟨t0, t1, tl, -⟩ := (HT.out.on hb).cells; have HB := Lib.hid hb; clear hb))
    go_ret2
    exact ⟨by rw [HV.out]; rfl, HB.out⟩
end Go.Proofs.Ytkofjejdgdhapaa
