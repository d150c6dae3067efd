/- The reference's Put. -/
import Derived.Test.YtkofjejdgdhapaaLqB
namespace Go.Proofs.Ytkofjejdgdhapaa
open Go.RowKit

/-- What was put into the reference's table. -/
def putK (L : List Kn) (x : Kn) : List Kn :=
  if (placeL L x.key).2 then L.set (placeL L x.key).1 x else L.take (placeL L x.key).1 ++ (x :: L.drop (placeL L x.key).1)
structure RFr (rb : Nat) (v v' : Value) (w w' : World) : Prop where
  os : w'.os = w.os
  tape : w'.tape = w.tape
  output : w'.output = w.output
  size : w.heap.size ≤ w'.heap.size
  block : ∀ b, b < w.heap.size → b ≠ rb → v.ownBlock ≠ some b → w'.heap[b]? = w.heap[b]?
  fresh : v'.ownBlock = v.ownBlock ∨ ∀ g, v'.ownBlock = some g → w.heap.size ≤ g
theorem RFr.of_below {rb : Nat} {v : Value} {w w' : World} (h : Below w.heap.size w w') : RFr rb v v w w' := ⟨h.os, h.tape, h.output, h.size, fun b hb _ _ => h.block b hb, .inl rfl⟩
def rputPost (B rb : Nat) (room : Int) (v : Value) (L : List Kn) (net : Nat) (b n : Int) (w : World) (e : Ending) (w' : World) : Prop :=
  (rightB net b = false ∧ e = .returned (.int .i64 1) ∧ Below w.heap.size w w') ∨
  (rightB net b = true ∧ (placeL L (net, b)).2 = false ∧ room ≤ L.length ∧ e = .returned (.int .i64 3) ∧ Below w.heap.size w w') ∨
  (rightB net b = true ∧ ((placeL L (net, b)).2 = true ∨ (L.length : Int) < room) ∧ e = .returned (.int .i64 0) ∧ ∃ v', RefAt w' B rb room v' (putK L ⟨net, b, n⟩) ∧ RFr rb v v' w w')

theorem flat_set : ∀ {L : List Kn} {i : Nat} {x : Kn} {n : Int}, L[i]? = some x → (flatK L).set (i * 3 + 2) (.int .i64 n) = flatK (L.set i ⟨x.net, x.b, n⟩)
  | [], i, x, n, h => by simp at h
  | y :: l, 0, x, n, h => by
    simp at h; subst h
    rfl
  | y :: l, i + 1, x, n, h => by
    have ih := flat_set (L := l) (i := i) (n := n) (by simpa using h)
    rw [flatK, List.flatMap_cons, List.set_append_right _ _ (by simp [Kn.cells]; omega)]
    rw [show (i + 1) * 3 + 2 - (Kn.cells y).length = i * 3 + 2 by simp [Kn.cells]; omega, List.set_cons_succ, flatK, List.flatMap_cons]
    exact congrArg _ ih
theorem flat_get : ∀ {L : List Kn} {i : Nat} {x : Kn}, L[i]? = some x → (flatK L)[i * 3 + 2]? = some (.int .i64 x.n)
  | [], i, x, h => by simp at h
  | y :: l, 0, x, h => by
    simp at h; subst h
    rfl
  | y :: l, i + 1, x, h => by
    have ih := flat_get (L := l) (i := i) (by simpa using h)
    rw [flatK, List.flatMap_cons, List.getElem?_append_right (by simp [Kn.cells]; omega)]
    rw [show (i + 1) * 3 + 2 - (Kn.cells y).length = i * 3 + 2 by simp [Kn.cells]; omega]
    exact ih
theorem cmpK_zero {p q : Nat × Int} (h : cmpK p q = 0) : p = q := by
  unfold cmpK at h
  split at h
  · omega
  · split at h
    · omega
    · split at h
      · omega
      · split at h
        · omega
        · exact Prod.ext (by omega) (by omega)
theorem RefAt.store {w : World} {B rb : Nat} {room : Int} {L : List Kn} {g c i : Nat} {x : Kn} (h : RefAt w B rb room (.slice (some ⟨g, 0, none⟩) L.length c) L) (hi : L[i]? = some x) (n : Int) :
    RefAt (w.setCell ⟨g, i * 3 + 2, none⟩ (.int .i64 n)) B rb room (.slice (some ⟨g, 0, none⟩) L.length c) (L.set i ⟨x.net, x.b, n⟩) ∧
    RFr rb (.slice (some ⟨g, 0, none⟩) L.length c) (.slice (some ⟨g, 0, none⟩) L.length c) w (w.setCell ⟨g, i * 3 + 2, none⟩ (.int .i64 n)) := by
  obtain ⟨h1, h2⟩ := h.own.stored (i * 3 + 2) (.int .i64 n)
  have hne : g ≠ rb := h.ne g rfl
  refine ⟨⟨?_, ?_, h.ne, h.lo⟩, ⟨h2.os, h2.tape, h2.output, h2.size, fun b hb hb1 hb2 => h2.block b hb (fun e => hb2 e.symm), .inl rfl⟩⟩
  · rw [Below.heap_setCell _ _ _ _ (fun e => hne e.symm)]; exact h.blk
  · rw [List.length_set, ← flat_set hi]; exact h1
theorem RFr.trans_below {rb : Nat} {v v' : Value} {w w1 w2 : World} (h : Below w.heap.size w w1) (k : RFr rb v v' w1 w2) : RFr rb v v' w w2 :=
  ⟨k.os.trans h.os, k.tape.trans h.tape, k.output.trans h.output, Nat.le_trans h.size k.size,
   fun b hb h1 h2 => (k.block b (Nat.lt_of_lt_of_le hb h.size) h1 h2).trans (h.block b hb),
   by rcases k.fresh with e | e
      · exact .inl e
      · exact .inr (fun g hg => Nat.le_trans h.size (e g hg))⟩

set_option maxRecDepth 100000 in
set_option maxHeartbeats 1000000 in
theorem rput_bad (B rb : Nat) (room : Int) (v : Value) (L : List Kn) (net : Nat) (b n : Int) (w : World) (hn : net < 2 ^ 32) (hb : rightB net b = false) :
    Calls Try.prog 27 #[.pointer (some ⟨rb, 0, none⟩), .agg #[.int .u32 net, .int .i64 b], .int .i64 n] w (rputPost B rb room v L net b n w) := by
  have HN := Lib.hid hn
  have HB := Lib.hid hb
  clear hn hb
  go_enter Try.func27, Try.ntmps27
  go_wp2_with ((go_at_call 38; refine (rright_calls net b _ HN.out).mono ?_; rintro e w2 ⟨rfl, hb0⟩; rw [HB.out]; have HV := Lib.hid (box_trans hb0); clear hb0))
  go_ret
  exact .inl ⟨HB.out, rfl, HV.out⟩
set_option maxRecDepth 100000 in
set_option maxHeartbeats 1000000 in
theorem rput_known (B rb : Nat) (room : Int) (v : Value) (L : List Kn) (net : Nat) (b n : Int) (w : World) (h : RefAt w B rb room v L) (hl : L.length ≤ 100000) (hn : net < 2 ^ 32) (hb : rightB net b = true) (hp : (placeL L (net, b)).2 = true) :
    Calls Try.prog 27 #[.pointer (some ⟨rb, 0, none⟩), .agg #[.int .u32 net, .int .i64 b], .int .i64 n] w (rputPost B rb room v L net b n w) := by
  have HT := Lib.hid h
  have HN := Lib.hid hn
  have HB := Lib.hid hb
  obtain ⟨x, hx, hxc⟩ := placeL_bound hp
  have hkey : x.key = (net, b) := cmpK_zero hxc
  obtain ⟨i, hi⟩ : ∃ i, (placeL L (net, b)).1 = i := ⟨_, rfl⟩
  rw [hi] at hx
  have hlt : i < L.length := (List.getElem?_eq_some_iff.1 hx).1
  have hlt2 : (i : Int) < L.length := by omega
  obtain ⟨g, c, rfl, -, hg⟩ := h.own.form (by omega)
  have HP := Lib.hid (And.intro hp (And.intro hi (And.intro hx hkey)))
  have HW := Lib.hid (show Below w.heap.size w (w.alloc (.cells #[.int .u32 net, .int .i64 b] 30 (0, 0))) ∧ (w.alloc (.cells #[.int .u32 net, .int .i64 b] 30 (0, 0))).heap[w.heap.size]? = some (.cells #[.int .u32 net, .int .i64 b] 30 (0, 0)) from ⟨(Below.refl _ _).alloc (Nat.le_refl _) _, blk_new _ _⟩)
  clear h hn hb hp hi hx hxc hkey
  go_enter Try.func27, Try.ntmps27
  go_wp2_with (first
    | (go_at_call 38; refine (rright_calls net b _ HN.out).mono ?_; rintro e w1 ⟨rfl, hb0⟩; rw [HB.out]; have HV := Lib.hid (And.intro (HW.out.1.trans (hb0.mono HW.out.1.size)) (blk_below' hb0 HW.out.2)); have k1 := cells_all (l := [_, _]) HV.out.2; have z1 := size_of HV.out.2; simp only [CellsAt, Nat.reduceAdd, and_true] at k1; obtain ⟨p0, p1⟩ := k1; clear hb0)
    | (go_at_call 34; refine (place_calls B rb room _ L net b _ (HT.out.on HV.out.1) hl).mono ?_; rintro e w2 ⟨rfl, hb0⟩; rw [HP.out.1, HP.out.2.1]; have HU := Lib.hid (HV.out.1.trans (hb0.mono HV.out.1.size)); have HTU := Lib.hid (HT.out.on HU.out); obtain ⟨t0, t1, tl, t6⟩ := HTU.out.cells; have hsz := HU.out.size; have hfz := HTU.out.own.frozenAt (i * 3 + 2); have hcz := (HTU.out.own.cellAt (i * 3 + 2) (by omega)).trans (flat_get HP.out.2.2.1); clear hb0))
  go_ret
  obtain ⟨hp, hi, hx, hk⟩ := HP.out
  have hx1 : x.net = net := congrArg Prod.fst hk
  have hx2 : x.b = b := congrArg Prod.snd hk
  obtain ⟨q1, q2⟩ := HTU.out.store hx n
  refine .inr (.inr ⟨HB.out, .inl hp, rfl, _, ?_, q2.trans_below HU.out⟩)
  have e : putK L ⟨net, b, n⟩ = L.set i ⟨x.net, x.b, n⟩ := by
    rw [putK, hx1, hx2, Kn.key, hp, hi]; rfl
  rw [e]; exact q1
set_option maxRecDepth 100000 in
set_option maxHeartbeats 1000000 in
theorem rput_full (B rb : Nat) (room : Int) (v : Value) (L : List Kn) (net : Nat) (b n : Int) (w : World) (h : RefAt w B rb room v L) (hl : L.length ≤ 100000) (hn : net < 2 ^ 32) (hb : rightB net b = true) (hp : (placeL L (net, b)).2 = false) (hf : room ≤ L.length) :
    Calls Try.prog 27 #[.pointer (some ⟨rb, 0, none⟩), .agg #[.int .u32 net, .int .i64 b], .int .i64 n] w (rputPost B rb room v L net b n w) := by
  have HT := Lib.hid h
  have HN := Lib.hid hn
  have HB := Lib.hid hb
  obtain ⟨a, c, rfl, -⟩ := h.row
  obtain ⟨i, hi⟩ : ∃ i, (placeL L (net, b)).1 = i := ⟨_, rfl⟩
  have HP := Lib.hid (And.intro hp hi)
  have HF := Lib.hid hf
  have bf : decide (room ≤ (L.length : Int)) = true := decide_eq_true hf
  have HW := Lib.hid (show Below w.heap.size w (w.alloc (.cells #[.int .u32 net, .int .i64 b] 30 (0, 0))) ∧ (w.alloc (.cells #[.int .u32 net, .int .i64 b] 30 (0, 0))).heap[w.heap.size]? = some (.cells #[.int .u32 net, .int .i64 b] 30 (0, 0)) from ⟨(Below.refl _ _).alloc (Nat.le_refl _) _, blk_new _ _⟩)
  clear h hn hb hp hi hf
  go_enter Try.func27, Try.ntmps27
  go_wp2_with (first
    | (go_at_call 38; refine (rright_calls net b _ HN.out).mono ?_; rintro e w1 ⟨rfl, hb0⟩; rw [HB.out]; have HV := Lib.hid (And.intro (HW.out.1.trans (hb0.mono HW.out.1.size)) (blk_below' hb0 HW.out.2)); have k1 := cells_all (l := [_, _]) HV.out.2; have z1 := size_of HV.out.2; simp only [CellsAt, Nat.reduceAdd, and_true] at k1; obtain ⟨p0, p1⟩ := k1; clear hb0)
    | (go_at_call 34; refine (place_calls B rb room _ L net b _ (HT.out.on HV.out.1) hl).mono ?_; rintro e w2 ⟨rfl, hb0⟩; rw [HP.out.1, HP.out.2]; have HU := Lib.hid (HV.out.1.trans (hb0.mono HV.out.1.size)); have HTU := Lib.hid (HT.out.on HU.out); obtain ⟨t0, t1, tl, t6⟩ := HTU.out.cells; have hsz := HU.out.size; clear hb0))
  go_quiet (fail)
  go_wp2_with (fail)
  go_ret
  exact .inr (.inl ⟨HB.out, HP.out.1, HF.out, rfl, below_drewN HU.out _⟩)
end Go.Proofs.Ytkofjejdgdhapaa
