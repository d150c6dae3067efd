/- lpm: Put. -/
import Derived.Test.YtkofjejdgdhapaaLpD
namespace Go.Proofs.Ytkofjejdgdhapaa
open Go.RowKit

abbrev Nd := Nat → Nat → Option Nat
/-- Nothing turned but the tree; its new nodes are new. -/
structure TFr (nd nd' : Nd) (w w' : World) : Prop where
  os : w'.os = w.os
  tape : w'.tape = w.tape
  output : w'.output = w.output
  size : w.heap.size ≤ w'.heap.size
  block : ∀ b, b < w.heap.size → (∀ k v, nd k v ≠ some b) → w'.heap[b]? = w.heap[b]?
  fresh : ∀ k v b, nd' k v = some b → nd k v = some b ∨ w.heap.size ≤ b
theorem TFr.refl (nd : Nd) (w : World) : TFr nd nd w w := ⟨rfl, rfl, rfl, Nat.le_refl _, fun _ _ _ => rfl, fun _ _ _ h => .inl h⟩
theorem TFr.of_below {nd : Nd} {w w' : World} (h : Below w.heap.size w w') : TFr nd nd w w' := ⟨h.os, h.tape, h.output, h.size, fun b hb _ => h.block b hb, fun _ _ _ h => .inl h⟩
theorem TFr.trans {a b c : Nd} {w1 w2 w3 : World} (h : TFr a b w1 w2) (k : TFr b c w2 w3) : TFr a c w1 w3 :=
  ⟨k.os.trans h.os, k.tape.trans h.tape, k.output.trans h.output, Nat.le_trans h.size k.size,
   fun x hx hn => (k.block x (Nat.lt_of_lt_of_le hx h.size) (fun i v e => by
     rcases h.fresh _ _ _ e with e | e
     · exact hn i v e
     · omega)).trans (h.block x hx hn),
   fun i v x e => by
     rcases k.fresh _ _ _ e with e | e
     · exact h.fresh _ _ _ e
     · exact .inr (Nat.le_trans h.size e)⟩
theorem TFr.set {nd : Nd} {w : World} {k v b : Nat} (hb : nd k v = some b) (o : Nat) (u : Value) : TFr nd nd w (w.setCell ⟨b, o, none⟩ u) :=
  ⟨rfl, rfl, rfl, by rw [World.size_setCell]; exact Nat.le_refl _, fun x _ hn => Below.heap_setCell _ _ _ _ (fun e => hn k v (by rw [hb, show x = b from e])), fun _ _ _ h => .inl h⟩
theorem TFr.grow {nd : Nd} {w : World} {k v b c : Nat} (hb : nd k v = some b) (o : Nat) : TFr nd (ndNew nd (k + 1) c w.heap.size) w ((w.alloc newNode).setCell ⟨b, o, none⟩ (.pointer (some ⟨w.heap.size, 0, none⟩))) := by
  refine ⟨rfl, rfl, rfl, by rw [World.size_setCell, World.size_alloc]; omega, fun x hx hn => ?_, fun k' v' x h => ?_⟩
  · rw [Below.heap_setCell _ _ _ _ (fun e => hn k v (by rw [hb, show x = b from e]))]
    exact Below.heap_alloc _ _ _ hx
  · by_cases e : k' = k + 1 ∧ v' = c
    · obtain ⟨rfl, rfl⟩ := e
      rw [ndNew_same] at h
      exact .inr (by rw [← Option.some.inj h]; exact Nat.le_refl _)
    · rw [ndNew_other e] at h; exact .inl h
def keyP (net : Nat) (b : Int) : Int := keyK b.toNat (headN net b.toNat)
def putPost (tb : Nat) (nd : Nd) (l : Nets) (room : Int) (net : Nat) (b n : Int) (w : World) (e : Ending) (w' : World) : Prop :=
  (rightB net b = false ∧ e = .returned (.int .i64 1) ∧ Below w.heap.size w w') ∨
  (rightB net b = true ∧ getM l (keyP net b) = none ∧ room ≤ l.length ∧ e = .returned (.int .i64 3) ∧ Below w.heap.size w w') ∨
  (rightB net b = true ∧ ((getM l (keyP net b)).isSome = true ∨ (l.length : Int) < room) ∧ e = .returned (.int .i64 0) ∧ ∃ nd', TreeAt w' tb nd' (putM l (keyP net b) n) room (putM l (keyP net b) n).length ∧ TFr nd nd' w w')
def PutInv (tb : Nat) (nd : Nd) (l : Nets) (room many : Int) (net k B : Nat) (w : World) (i : Nat) (x : Value) (wr : World) : Prop :=
  ∃ nd' b, TreeAt wr tb nd' l room many ∧ TFr nd nd' w wr ∧ BoxAt wr B net k ∧ (∀ i v, nd' i v ≠ some B) ∧ nd' i (headN net i) = some b ∧ x = .pointer (some ⟨b, 0, none⟩)
theorem rightB_lt {net : Nat} {b : Int} (h : rightB net b = true) : 0 ≤ b ∧ b ≤ 32 := by
  simp only [rightB, Bool.and_eq_true, decide_eq_true_eq] at h
  exact ⟨h.1, h.2.1⟩

set_option maxRecDepth 100000 in
set_option maxHeartbeats 2000000 in
theorem put_bad (tb : Nat) (nd : Nd) (l : Nets) (room : Int) (net : Nat) (b n : Int) (w : World) (hn : net < 2 ^ 32) (hb : rightB net b = false) :
    Calls Try.prog 13 #[.pointer (some ⟨tb, 0, none⟩), .agg #[.int .u32 net, .int .i64 b], .int .i64 n] w (putPost tb nd l room net b n w) := by
  have HN := Lib.hid hn
  have HB := Lib.hid hb
  have HW := Lib.hid ((Below.refl w.heap.size w).alloc (Nat.le_refl _) (.cells #[.int .u32 net, .int .i64 b] 30 (0, 0)))
  clear hn hb
  go_enter Try.func13, Try.ntmps13
  go_wp2_with ((go_at_call 24; refine (right_calls net b _ HN.out).mono ?_; rintro e w' ⟨rfl, hb⟩; rw [HB.out]; have HV := Lib.hid (HW.out.trans (hb.mono HW.out.size)); clear hb))
  go_ret
  exact .inl ⟨HB.out, rfl, HV.out⟩
theorem put_start {w w2 : World} {tb : Nat} {nd : Nd} {l : Nets} {room m0 : Int} {net k : Nat} (h : TreeAt w tb nd l room m0) (hn : net < 2 ^ 32) (hu : Below w.heap.size w w2 ∧ BoxAt w2 w.heap.size net k) : PutInv tb nd l room m0 net k w.heap.size w 0 (.pointer (some ⟨tb, 0, none⟩)) w2 :=
  ⟨nd, tb, h.of_same hu.1, TFr.of_below hu.1, hu.2, fun i v e => by have := h.lt_of e; omega, by rw [headN_zero hn]; exact h.root, rfl⟩
theorem put_start_set {w w2 : World} {tb : Nat} {nd : Nd} {l : Nets} {room m0 : Int} {net k : Nat} (h : TreeAt w tb nd l room m0) (hn : net < 2 ^ 32) (hu : Below w.heap.size w w2 ∧ BoxAt w2 w.heap.size net k) (m : Int) (q : Nat) : PutInv tb nd l room m net k w.heap.size w 0 (.pointer (some ⟨tb, 0, none⟩)) ((w2.drewN q).setCell ⟨tb, 5, none⟩ (.int .i64 m)) := by
  have h2 : TreeAt (w2.drewN q) tb nd l room m0 := h.of_same (below_drewN hu.1 q)
  have htb := h.lt_of h.root
  refine ⟨nd, tb, h2.count m, (TFr.of_below (below_drewN hu.1 q)).trans (TFr.set h.root 5 _), ?_, fun i v e => by have := h.lt_of e; omega, by rw [headN_zero hn]; exact h.root, rfl⟩
  show _ = _
  rw [Below.heap_setCell _ _ _ _ (show w.heap.size ≠ tb by omega)]
  exact hu.2
theorem put_old {w wr : World} {tb b b' : Nat} {nd nd' : Nd} {l : Nets} {room m : Int} {net k B j : Nat} (h1 : TreeAt wr tb nd' l room m) (h2 : TFr nd nd' w wr) (h3 : BoxAt wr B net k) (h4 : ∀ i v, nd' i v ≠ some B) (h5 : nd' (j + 1) (headN net (j + 1)) = some b') : PutInv tb nd l room m net k B w (j + 1) (.pointer (some ⟨b', 0, none⟩)) wr :=
  ⟨nd', b', h1, h2, h3, h4, h5, rfl⟩
theorem put_grow {w wr : World} {tb b r : Nat} {nd nd' : Nd} {l : Nets} {room m : Int} {net k B j : Nat} (h1 : TreeAt wr tb nd' l room m) (h2 : TFr nd nd' w wr) (h3 : BoxAt wr B net k) (h4 : ∀ i v, nd' i v ≠ some B) (h5 : nd' j (headN net j) = some b) (hj : j < 32) (hr : r < 2) (he : headN net (j + 1) = 2 * headN net j + r) (hn : nd' (j + 1) (2 * headN net j + r) = none) :
    PutInv tb nd l room m net k B w (j + 1) (.pointer (some ⟨wr.heap.size, 0, none⟩)) ((wr.setCell ⟨b, 2 + r, none⟩ (.pointer (some ⟨wr.heap.size, 0, none⟩))).alloc newNode) := by
  have hB := size_of h3
  rw [← World.setCell_alloc_past _ _ _ _ (h1.lt_of h5)]
  refine ⟨_, wr.heap.size, h1.grow r h5 hj hr hn, h2.trans (TFr.grow h5 (2 + r)), ?_, fun i v e => ?_, by rw [he]; exact ndNew_same, rfl⟩
  · show _ = _
    rw [Below.heap_setCell _ _ _ _ (show B ≠ b from fun e => h4 _ _ (by rw [h5, e]))]
    exact blk_alloc h3 _
  · by_cases e2 : i = j + 1 ∧ v = 2 * headN net j + r
    · obtain ⟨rfl, rfl⟩ := e2
      rw [ndNew_same] at e
      have := Option.some.inj e
      omega
    · rw [ndNew_other e2] at e; exact h4 _ _ e
theorem put_end {w wr : World} {tb b : Nat} {nd nd' : Nd} {l : Nets} {room m n : Int} {net k : Nat} (h1 : TreeAt wr tb nd' l room m) (h2 : TFr nd nd' w wr) (h5 : nd' k (headN net k) = some b) (hm : m = (putM l (keyP net k) n).length) :
    ∃ nd', TreeAt ((wr.setCell ⟨b, 0, none⟩ (.bool true)).setCell ⟨b, 1, none⟩ (.int .i64 n)) tb nd' (putM l (keyP net k) n) room (putM l (keyP net k) n).length ∧ TFr nd nd' w ((wr.setCell ⟨b, 0, none⟩ (.bool true)).setCell ⟨b, 1, none⟩ (.int .i64 n)) := by
  refine ⟨nd', ?_, (h2.trans (TFr.set h5 0 _)).trans (TFr.set h5 1 _)⟩
  rw [← hm]
  exact h1.note h5 n
theorem TreeAt.tops {w : World} {tb : Nat} {nd : Nd} {l : Nets} {room many : Int} (h : TreeAt w tb nd l room many) : w.cell? ⟨tb, 4, none⟩ = some (.int .i64 room) ∧ w.cell? ⟨tb, 5, none⟩ = some (.int .i64 many) ∧ tb < w.heap.size ∧ w.frozen? ⟨tb, 5, none⟩ = false := by
  have k1 := cells_all h.top
  simp only [CellsAt, nodeCells, List.cons_append, List.nil_append, Nat.reduceAdd, and_true] at k1
  obtain ⟨-, -, -, -, c4, c5⟩ := k1
  exact ⟨c4, c5, size_of h.top, by simp [World.frozen?, h.top]⟩
-- PRINTED by genE.py from here on

set_option maxRecDepth 100000 in
set_option maxHeartbeats 4000000 in
theorem put_none (tb : Nat) (nd : Nd) (l : Nets) (room : Int) (net k : Nat) (n : Int) (w : World) (h : TreeAt w tb nd l room l.length) (hn : net < 2 ^ 32) (hl : l.length ≤ 100000) (hk : k ≤ 32) (hb : rightB net k = true) (hx : ptrV (nd k (headN net k)) = .pointer none) (hg : getM l (keyP net k) = none) :
    Calls Try.prog 13 #[.pointer (some ⟨tb, 0, none⟩), .agg #[.int .u32 net, .int .i64 k], .int .i64 n] w (putPost tb nd l room net k n w) := by
  have HT := Lib.hid h
  have HN := Lib.hid hn
  have HB := Lib.hid hb
  have HX := Lib.hid hx
  have HG := Lib.hid hg
  have HW := Lib.hid (show Below w.heap.size w (w.alloc (.cells #[.int .u32 net, .int .i64 k] 30 (0, 0))) ∧ BoxAt (w.alloc (.cells #[.int .u32 net, .int .i64 k] 30 (0, 0))) w.heap.size net k from ⟨(Below.refl _ _).alloc (Nat.le_refl _) _, blk_new _ _⟩)
  have hmany : IntKind.i64.wrap ((l.length : Int) + 1) = (l.length : Int) + 1 := IntWalk.i64_in _ (by omega)
  clear hn hb h hx hg
  go_enter Try.func13, Try.ntmps13
  go_wp2_with (first
    | (go_at_call 24; refine (right_calls net k _ HN.out).mono ?_; rintro e w1 ⟨rfl, hb⟩; rw [HB.out]; have HV := Lib.hid (show Below w.heap.size w w1 ∧ BoxAt w1 w.heap.size net k from ⟨HW.out.1.trans (hb.mono HW.out.1.size), blk_below' hb HW.out.2⟩); have kc := cells_all HV.out.2; have kl := size_of HV.out.2; simp only [CellsAt, Nat.reduceAdd, and_true] at kc; obtain ⟨p0, p1⟩ := kc; clear hb)
    | (go_at_call 31; refine (at_calls tb nd l room l.length net k _ (HT.out.of_same HV.out.1) HN.out hk).mono ?_; rintro e w2 ⟨rfl, hb⟩; rw [HX.out]; have HU := Lib.hid (show Below w.heap.size w w2 ∧ BoxAt w2 w.heap.size net k from ⟨HV.out.1.trans (hb.mono HV.out.1.size), blk_below' hb HV.out.2⟩); have kc := cells_all HU.out.2; have kl2 := size_of HU.out.2; simp only [CellsAt, Nat.reduceAdd, and_true] at kc; obtain ⟨q0, q1⟩ := kc; have HTU := Lib.hid (HT.out.of_same HU.out.1); obtain ⟨t4, t5, tl, t6⟩ := HTU.out.tops; clear hb))
  by_cases hf : room ≤ (l.length : Int)
  · have bf : decide (room ≤ (l.length : Int)) = true := decide_eq_true hf
    go_quiet (fail)
    go_wp2_with (fail)
    go_ret
    exact .inr (.inl ⟨HB.out, HG.out, hf, rfl, below_drewN HU.out.1 _⟩)
  have bf : decide (room ≤ (l.length : Int)) = false := decide_eq_false hf
  go_quiet (fail)
  go_wp2_with (fail)
  go_loopg [8, 47] (k + 1) (fun g x i wr => ∃ j : Nat, j ≤ k ∧ g + j = k + 1 ∧ i = .int .i64 j ∧ Hid (PutInv tb nd l room ((l.length : Int) + 1) net k w.heap.size w j x wr))
  case atStart => exact ⟨0, Nat.zero_le _, rfl, rfl, Lib.hid (put_start_set HT.out HN.out HU.out _ _)⟩
  case round =>
    obtain ⟨j, hjk, hg, rfl, HI⟩ := hrel
    obtain ⟨nd', b, h1, h2, h3, h4, h5, rfl⟩ := HI.out
    have H1 := Lib.hid h1
    have H2 := Lib.hid h2
    have H3 := Lib.hid h3
    have H4 := Lib.hid h4
    have H5 := Lib.hid h5
    have kc := cells_all h3
    have kl3 := size_of h3
    simp only [CellsAt, Nat.reduceAdd, and_true] at kc
    obtain ⟨r0, r1⟩ := kc
    obtain ⟨⟨m0, m1, m2, m3⟩, ml, z0, z1, z2, z3⟩ := h1.cells h5
    clear h1 h2 h3 h4 h5 HI
    by_cases hlt : (j : Int) < k
    · have bl : decide ((j : Int) < k) = true := decide_eq_true hlt
      have e1 : IntKind.i64.wrap ((j : Int) + 1) = (j : Int) + 1 := IntWalk.i64_in _ (by omega)
      rcases Nat.mod_two_eq_zero_or_one (net / 2 ^ (31 - j)) with hr | hr
      · have HQ := Lib.hid (show headN net (j + 1) = 2 * headN net j + 0 from by rw [headN_succ (by omega), hr])
        have HBIT := Lib.hid (fun w => (bit_calls net j w HN.out (by omega)).mono (fun e w' h => show e = .returned (.int .u32 0) ∧ w = w' from ⟨by rw [h.1, hr]; rfl, h.2⟩))
        clear hr
        cases hc : nd' (j + 1) (2 * headN net j) with
        | none =>
          have HC := Lib.hid hc
          rw [hc] at m2
          simp only [ptrV] at m2
          clear hc
          go_wp2_with ((go_at_call 29; refine (HBIT.out _).mono ?_; rintro e w3 ⟨rfl, rfl⟩))
          go_roundg (k - j)
          case measure => omega
          case rel => exact ⟨j + 1, by omega, by omega, by go_num, Lib.hid (put_grow (r := 0) H1.out H2.out H3.out H4.out H5.out (by omega) (by decide) HQ.out HC.out)⟩
        | some b' =>
          have HC := Lib.hid hc
          rw [hc] at m2
          simp only [ptrV] at m2
          clear hc
          go_wp2_with ((go_at_call 29; refine (HBIT.out _).mono ?_; rintro e w3 ⟨rfl, rfl⟩))
          go_roundg (k - j)
          case measure => omega
          case rel => exact ⟨j + 1, by omega, by omega, by go_num, Lib.hid (put_old (b := b) H1.out H2.out H3.out H4.out (by rw [HQ.out]; exact HC.out))⟩
      · have HQ := Lib.hid (show headN net (j + 1) = 2 * headN net j + 1 from by rw [headN_succ (by omega), hr])
        have HBIT := Lib.hid (fun w => (bit_calls net j w HN.out (by omega)).mono (fun e w' h => show e = .returned (.int .u32 1) ∧ w = w' from ⟨by rw [h.1, hr]; rfl, h.2⟩))
        clear hr
        cases hc : nd' (j + 1) (2 * headN net j + 1) with
        | none =>
          have HC := Lib.hid hc
          rw [hc] at m3
          simp only [ptrV] at m3
          clear hc
          go_wp2_with ((go_at_call 29; refine (HBIT.out _).mono ?_; rintro e w3 ⟨rfl, rfl⟩))
          go_roundg (k - j)
          case measure => omega
          case rel => exact ⟨j + 1, by omega, by omega, by go_num, Lib.hid (put_grow (r := 1) H1.out H2.out H3.out H4.out H5.out (by omega) (by decide) HQ.out HC.out)⟩
        | some b' =>
          have HC := Lib.hid hc
          rw [hc] at m3
          simp only [ptrV] at m3
          clear hc
          go_wp2_with ((go_at_call 29; refine (HBIT.out _).mono ?_; rintro e w3 ⟨rfl, rfl⟩))
          go_roundg (k - j)
          case measure => omega
          case rel => exact ⟨j + 1, by omega, by omega, by go_num, Lib.hid (put_old (b := b) H1.out H2.out H3.out H4.out (by rw [HQ.out]; exact HC.out))⟩
    · have bl : decide ((j : Int) < k) = false := decide_eq_false hlt
      obtain rfl : j = k := by omega
      go_wp2_with (fail)
      go_ret
      exact .inr (.inr ⟨HB.out, .inr (by omega), rfl, put_end H1.out H2.out H5.out (by rw [put_len, HG.out]; simp)⟩)

set_option maxRecDepth 100000 in
set_option maxHeartbeats 4000000 in
theorem put_new (tb : Nat) (nd : Nd) (l : Nets) (room : Int) (net k : Nat) (n : Int) (w : World) (h : TreeAt w tb nd l room l.length) (hn : net < 2 ^ 32) (hl : l.length ≤ 100000) (hk : k ≤ 32) (hb : rightB net k = true) (b : Nat) (hy : nd k (headN net k) = some b) (hx : ptrV (nd k (headN net k)) = .pointer (some ⟨b, 0, none⟩)) (hg : getM l (keyP net k) = none) :
    Calls Try.prog 13 #[.pointer (some ⟨tb, 0, none⟩), .agg #[.int .u32 net, .int .i64 k], .int .i64 n] w (putPost tb nd l room net k n w) := by
  have HT := Lib.hid h
  have HN := Lib.hid hn
  have HB := Lib.hid hb
  have HX := Lib.hid hx
  have HG := Lib.hid hg
  have HW := Lib.hid (show Below w.heap.size w (w.alloc (.cells #[.int .u32 net, .int .i64 k] 30 (0, 0))) ∧ BoxAt (w.alloc (.cells #[.int .u32 net, .int .i64 k] 30 (0, 0))) w.heap.size net k from ⟨(Below.refl _ _).alloc (Nat.le_refl _) _, blk_new _ _⟩)
  have hmany : IntKind.i64.wrap ((l.length : Int) + 1) = (l.length : Int) + 1 := IntWalk.i64_in _ (by omega)
  have HY := Lib.hid hy
  clear hy
  clear hn hb h hx hg
  go_enter Try.func13, Try.ntmps13
  go_wp2_with (first
    | (go_at_call 24; refine (right_calls net k _ HN.out).mono ?_; rintro e w1 ⟨rfl, hb⟩; rw [HB.out]; have HV := Lib.hid (show Below w.heap.size w w1 ∧ BoxAt w1 w.heap.size net k from ⟨HW.out.1.trans (hb.mono HW.out.1.size), blk_below' hb HW.out.2⟩); have kc := cells_all HV.out.2; have kl := size_of HV.out.2; simp only [CellsAt, Nat.reduceAdd, and_true] at kc; obtain ⟨p0, p1⟩ := kc; clear hb)
    | (go_at_call 31; refine (at_calls tb nd l room l.length net k _ (HT.out.of_same HV.out.1) HN.out hk).mono ?_; rintro e w2 ⟨rfl, hb⟩; rw [HX.out]; have HU := Lib.hid (show Below w.heap.size w w2 ∧ BoxAt w2 w.heap.size net k from ⟨HV.out.1.trans (hb.mono HV.out.1.size), blk_below' hb HV.out.2⟩); have kc := cells_all HU.out.2; have kl2 := size_of HU.out.2; simp only [CellsAt, Nat.reduceAdd, and_true] at kc; obtain ⟨q0, q1⟩ := kc; have HTU := Lib.hid (HT.out.of_same HU.out.1); obtain ⟨t4, t5, tl, t6⟩ := HTU.out.tops; obtain ⟨⟨n0, n1, n2, n3⟩, nl, -⟩ := HTU.out.cells HY.out; rw [show getM l (keyK k (headN net k)) = none from HG.out] at n0; simp only [Option.isSome_none] at n0; clear hb))
  by_cases hf : room ≤ (l.length : Int)
  · have bf : decide (room ≤ (l.length : Int)) = true := decide_eq_true hf
    go_quiet (fail)
    go_wp2_with (fail)
    go_ret
    exact .inr (.inl ⟨HB.out, HG.out, hf, rfl, below_drewN HU.out.1 _⟩)
  have bf : decide (room ≤ (l.length : Int)) = false := decide_eq_false hf
  go_quiet (fail)
  go_wp2_with (fail)
  go_loopg [8, 47] (k + 1) (fun g x i wr => ∃ j : Nat, j ≤ k ∧ g + j = k + 1 ∧ i = .int .i64 j ∧ Hid (PutInv tb nd l room ((l.length : Int) + 1) net k w.heap.size w j x wr))
  case atStart => exact ⟨0, Nat.zero_le _, rfl, rfl, Lib.hid (put_start_set HT.out HN.out HU.out _ _)⟩
  case round =>
    obtain ⟨j, hjk, hg, rfl, HI⟩ := hrel
    obtain ⟨nd', b, h1, h2, h3, h4, h5, rfl⟩ := HI.out
    have H1 := Lib.hid h1
    have H2 := Lib.hid h2
    have H3 := Lib.hid h3
    have H4 := Lib.hid h4
    have H5 := Lib.hid h5
    have kc := cells_all h3
    have kl3 := size_of h3
    simp only [CellsAt, Nat.reduceAdd, and_true] at kc
    obtain ⟨r0, r1⟩ := kc
    obtain ⟨⟨m0, m1, m2, m3⟩, ml, z0, z1, z2, z3⟩ := h1.cells h5
    clear h1 h2 h3 h4 h5 HI
    by_cases hlt : (j : Int) < k
    · have bl : decide ((j : Int) < k) = true := decide_eq_true hlt
      have e1 : IntKind.i64.wrap ((j : Int) + 1) = (j : Int) + 1 := IntWalk.i64_in _ (by omega)
      rcases Nat.mod_two_eq_zero_or_one (net / 2 ^ (31 - j)) with hr | hr
      · have HQ := Lib.hid (show headN net (j + 1) = 2 * headN net j + 0 from by rw [headN_succ (by omega), hr])
        have HBIT := Lib.hid (fun w => (bit_calls net j w HN.out (by omega)).mono (fun e w' h => show e = .returned (.int .u32 0) ∧ w = w' from ⟨by rw [h.1, hr]; rfl, h.2⟩))
        clear hr
        cases hc : nd' (j + 1) (2 * headN net j) with
        | none =>
          have HC := Lib.hid hc
          rw [hc] at m2
          simp only [ptrV] at m2
          clear hc
          go_wp2_with ((go_at_call 29; refine (HBIT.out _).mono ?_; rintro e w3 ⟨rfl, rfl⟩))
          go_roundg (k - j)
          case measure => omega
          case rel => exact ⟨j + 1, by omega, by omega, by go_num, Lib.hid (put_grow (r := 0) H1.out H2.out H3.out H4.out H5.out (by omega) (by decide) HQ.out HC.out)⟩
        | some b' =>
          have HC := Lib.hid hc
          rw [hc] at m2
          simp only [ptrV] at m2
          clear hc
          go_wp2_with ((go_at_call 29; refine (HBIT.out _).mono ?_; rintro e w3 ⟨rfl, rfl⟩))
          go_roundg (k - j)
          case measure => omega
          case rel => exact ⟨j + 1, by omega, by omega, by go_num, Lib.hid (put_old (b := b) H1.out H2.out H3.out H4.out (by rw [HQ.out]; exact HC.out))⟩
      · have HQ := Lib.hid (show headN net (j + 1) = 2 * headN net j + 1 from by rw [headN_succ (by omega), hr])
        have HBIT := Lib.hid (fun w => (bit_calls net j w HN.out (by omega)).mono (fun e w' h => show e = .returned (.int .u32 1) ∧ w = w' from ⟨by rw [h.1, hr]; rfl, h.2⟩))
        clear hr
        cases hc : nd' (j + 1) (2 * headN net j + 1) with
        | none =>
          have HC := Lib.hid hc
          rw [hc] at m3
          simp only [ptrV] at m3
          clear hc
          go_wp2_with ((go_at_call 29; refine (HBIT.out _).mono ?_; rintro e w3 ⟨rfl, rfl⟩))
          go_roundg (k - j)
          case measure => omega
          case rel => exact ⟨j + 1, by omega, by omega, by go_num, Lib.hid (put_grow (r := 1) H1.out H2.out H3.out H4.out H5.out (by omega) (by decide) HQ.out HC.out)⟩
        | some b' =>
          have HC := Lib.hid hc
          rw [hc] at m3
          simp only [ptrV] at m3
          clear hc
          go_wp2_with ((go_at_call 29; refine (HBIT.out _).mono ?_; rintro e w3 ⟨rfl, rfl⟩))
          go_roundg (k - j)
          case measure => omega
          case rel => exact ⟨j + 1, by omega, by omega, by go_num, Lib.hid (put_old (b := b) H1.out H2.out H3.out H4.out (by rw [HQ.out]; exact HC.out))⟩
    · have bl : decide ((j : Int) < k) = false := decide_eq_false hlt
      obtain rfl : j = k := by omega
      go_wp2_with (fail)
      go_ret
      exact .inr (.inr ⟨HB.out, .inr (by omega), rfl, put_end H1.out H2.out H5.out (by rw [put_len, HG.out]; simp)⟩)

set_option maxRecDepth 100000 in
set_option maxHeartbeats 4000000 in
theorem put_known (tb : Nat) (nd : Nd) (l : Nets) (room : Int) (net k : Nat) (n : Int) (w : World) (h : TreeAt w tb nd l room l.length) (hn : net < 2 ^ 32) (hl : l.length ≤ 100000) (hk : k ≤ 32) (hb : rightB net k = true) (b : Nat) (y : Int) (hy : nd k (headN net k) = some b) (hx : ptrV (nd k (headN net k)) = .pointer (some ⟨b, 0, none⟩)) (hg : getM l (keyP net k) = some y) :
    Calls Try.prog 13 #[.pointer (some ⟨tb, 0, none⟩), .agg #[.int .u32 net, .int .i64 k], .int .i64 n] w (putPost tb nd l room net k n w) := by
  have HT := Lib.hid h
  have HN := Lib.hid hn
  have HB := Lib.hid hb
  have HX := Lib.hid hx
  have HG := Lib.hid hg
  have HW := Lib.hid (show Below w.heap.size w (w.alloc (.cells #[.int .u32 net, .int .i64 k] 30 (0, 0))) ∧ BoxAt (w.alloc (.cells #[.int .u32 net, .int .i64 k] 30 (0, 0))) w.heap.size net k from ⟨(Below.refl _ _).alloc (Nat.le_refl _) _, blk_new _ _⟩)
  have hmany : IntKind.i64.wrap ((l.length : Int) + 1) = (l.length : Int) + 1 := IntWalk.i64_in _ (by omega)
  have HY := Lib.hid hy
  clear hy
  clear hn hb h hx hg
  go_enter Try.func13, Try.ntmps13
  go_wp2_with (first
    | (go_at_call 24; refine (right_calls net k _ HN.out).mono ?_; rintro e w1 ⟨rfl, hb⟩; rw [HB.out]; have HV := Lib.hid (show Below w.heap.size w w1 ∧ BoxAt w1 w.heap.size net k from ⟨HW.out.1.trans (hb.mono HW.out.1.size), blk_below' hb HW.out.2⟩); have kc := cells_all HV.out.2; have kl := size_of HV.out.2; simp only [CellsAt, Nat.reduceAdd, and_true] at kc; obtain ⟨p0, p1⟩ := kc; clear hb)
    | (go_at_call 31; refine (at_calls tb nd l room l.length net k _ (HT.out.of_same HV.out.1) HN.out hk).mono ?_; rintro e w2 ⟨rfl, hb⟩; rw [HX.out]; have HU := Lib.hid (show Below w.heap.size w w2 ∧ BoxAt w2 w.heap.size net k from ⟨HV.out.1.trans (hb.mono HV.out.1.size), blk_below' hb HV.out.2⟩); have kc := cells_all HU.out.2; have kl2 := size_of HU.out.2; simp only [CellsAt, Nat.reduceAdd, and_true] at kc; obtain ⟨q0, q1⟩ := kc; have HTU := Lib.hid (HT.out.of_same HU.out.1); obtain ⟨t4, t5, tl, t6⟩ := HTU.out.tops; obtain ⟨⟨n0, n1, n2, n3⟩, nl, -⟩ := HTU.out.cells HY.out; rw [show getM l (keyK k (headN net k)) = some y from HG.out] at n0; simp only [Option.isSome_some] at n0; clear hb))
  go_loopg [8, 47] (k + 1) (fun g x i wr => ∃ j : Nat, j ≤ k ∧ g + j = k + 1 ∧ i = .int .i64 j ∧ Hid (PutInv tb nd l room (l.length : Int) net k w.heap.size w j x wr))
  case atStart => exact ⟨0, Nat.zero_le _, rfl, rfl, Lib.hid (put_start HT.out HN.out HU.out)⟩
  case round =>
    obtain ⟨j, hjk, hg, rfl, HI⟩ := hrel
    obtain ⟨nd', b, h1, h2, h3, h4, h5, rfl⟩ := HI.out
    have H1 := Lib.hid h1
    have H2 := Lib.hid h2
    have H3 := Lib.hid h3
    have H4 := Lib.hid h4
    have H5 := Lib.hid h5
    have kc := cells_all h3
    have kl3 := size_of h3
    simp only [CellsAt, Nat.reduceAdd, and_true] at kc
    obtain ⟨r0, r1⟩ := kc
    obtain ⟨⟨m0, m1, m2, m3⟩, ml, z0, z1, z2, z3⟩ := h1.cells h5
    clear h1 h2 h3 h4 h5 HI
    by_cases hlt : (j : Int) < k
    · have bl : decide ((j : Int) < k) = true := decide_eq_true hlt
      have e1 : IntKind.i64.wrap ((j : Int) + 1) = (j : Int) + 1 := IntWalk.i64_in _ (by omega)
      rcases Nat.mod_two_eq_zero_or_one (net / 2 ^ (31 - j)) with hr | hr
      · have HQ := Lib.hid (show headN net (j + 1) = 2 * headN net j + 0 from by rw [headN_succ (by omega), hr])
        have HBIT := Lib.hid (fun w => (bit_calls net j w HN.out (by omega)).mono (fun e w' h => show e = .returned (.int .u32 0) ∧ w = w' from ⟨by rw [h.1, hr]; rfl, h.2⟩))
        clear hr
        cases hc : nd' (j + 1) (2 * headN net j) with
        | none =>
          have HC := Lib.hid hc
          rw [hc] at m2
          simp only [ptrV] at m2
          clear hc
          go_wp2_with ((go_at_call 29; refine (HBIT.out _).mono ?_; rintro e w3 ⟨rfl, rfl⟩))
          go_roundg (k - j)
          case measure => omega
          case rel => exact ⟨j + 1, by omega, by omega, by go_num, Lib.hid (put_grow (r := 0) H1.out H2.out H3.out H4.out H5.out (by omega) (by decide) HQ.out HC.out)⟩
        | some b' =>
          have HC := Lib.hid hc
          rw [hc] at m2
          simp only [ptrV] at m2
          clear hc
          go_wp2_with ((go_at_call 29; refine (HBIT.out _).mono ?_; rintro e w3 ⟨rfl, rfl⟩))
          go_roundg (k - j)
          case measure => omega
          case rel => exact ⟨j + 1, by omega, by omega, by go_num, Lib.hid (put_old (b := b) H1.out H2.out H3.out H4.out (by rw [HQ.out]; exact HC.out))⟩
      · have HQ := Lib.hid (show headN net (j + 1) = 2 * headN net j + 1 from by rw [headN_succ (by omega), hr])
        have HBIT := Lib.hid (fun w => (bit_calls net j w HN.out (by omega)).mono (fun e w' h => show e = .returned (.int .u32 1) ∧ w = w' from ⟨by rw [h.1, hr]; rfl, h.2⟩))
        clear hr
        cases hc : nd' (j + 1) (2 * headN net j + 1) with
        | none =>
          have HC := Lib.hid hc
          rw [hc] at m3
          simp only [ptrV] at m3
          clear hc
          go_wp2_with ((go_at_call 29; refine (HBIT.out _).mono ?_; rintro e w3 ⟨rfl, rfl⟩))
          go_roundg (k - j)
          case measure => omega
          case rel => exact ⟨j + 1, by omega, by omega, by go_num, Lib.hid (put_grow (r := 1) H1.out H2.out H3.out H4.out H5.out (by omega) (by decide) HQ.out HC.out)⟩
        | some b' =>
          have HC := Lib.hid hc
          rw [hc] at m3
          simp only [ptrV] at m3
          clear hc
          go_wp2_with ((go_at_call 29; refine (HBIT.out _).mono ?_; rintro e w3 ⟨rfl, rfl⟩))
          go_roundg (k - j)
          case measure => omega
          case rel => exact ⟨j + 1, by omega, by omega, by go_num, Lib.hid (put_old (b := b) H1.out H2.out H3.out H4.out (by rw [HQ.out]; exact HC.out))⟩
    · have bl : decide ((j : Int) < k) = false := decide_eq_false hlt
      obtain rfl : j = k := by omega
      go_wp2_with (fail)
      go_ret
      exact .inr (.inr ⟨HB.out, .inl (by rw [HG.out]; rfl), rfl, put_end H1.out H2.out H5.out (by rw [put_len, HG.out]; rfl)⟩)
end Go.Proofs.Ytkofjejdgdhapaa
