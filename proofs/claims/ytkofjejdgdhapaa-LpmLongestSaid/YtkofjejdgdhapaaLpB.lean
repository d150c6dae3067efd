/- lpm: the tree in memory; at. -/
import Derived.Test.YtkofjejdgdhapaaLpA
import Derived.Test.YtkofjejdgdhapaaMapI
namespace Go.Proofs.Ytkofjejdgdhapaa
open Go.RowKit

/-- The name of the node of the first k bits v. -/
def keyK (k v : Nat) : Int := (v : Int) * 64 + k
theorem keyK_inj {k v k' v' : Nat} (h : k ≤ 32) (h' : k' ≤ 32) (e : keyK k v = keyK k' v') : k = k' ∧ v = v' := by
  unfold keyK at e
  omega
def ptrV : Option Nat → Value
  | none => .pointer none
  | some b => .pointer (some ⟨b, 0, none⟩)
abbrev Nets := List (Int × Int)
def nodeCells (nd : Nat → Nat → Option Nat) (l : Nets) (k v : Nat) : List Value :=
  [.bool (getM l (keyK k v)).isSome, .int .i64 ((getM l (keyK k v)).getD 0), ptrV (nd (k + 1) (2 * v)), ptrV (nd (k + 1) (2 * v + 1))]
structure TreeAt (w : World) (tb : Nat) (nd : Nat → Nat → Option Nat) (l : Nets) (room many : Int) : Prop where
  root : nd 0 0 = some tb
  lt : ∀ k v b, nd k v = some b → k ≤ 32 ∧ v < 2 ^ k
  inj : ∀ k v k' v' b, nd k v = some b → nd k' v' = some b → k = k' ∧ v = v'
  up : ∀ k v, nd k (v / 2) = none → nd (k + 1) v = none
  node : ∀ k v b, nd k v = some b → b ≠ tb → w.heap[b]? = some (.cells (nodeCells nd l k v).toArray 59 (0, 0))
  top : w.heap[tb]? = some (.cells (nodeCells nd l 0 0 ++ [Value.int .i64 room, Value.int .i64 many]).toArray 61 (0, 0))
  nodup : (l.map (·.1)).Nodup
  keys : ∀ p ∈ l, ∃ k v, k ≤ 32 ∧ v < 2 ^ k ∧ p.1 = keyK k v ∧ (nd k v).isSome
theorem TreeAt.cells {w : World} {tb : Nat} {nd : Nat → Nat → Option Nat} {l : Nets} {room many : Int} (h : TreeAt w tb nd l room many) {k v b : Nat} (hb : nd k v = some b) :
    (w.cell? ⟨b, 0, none⟩ = some (.bool (getM l (keyK k v)).isSome) ∧ w.cell? ⟨b, 1, none⟩ = some (.int .i64 ((getM l (keyK k v)).getD 0)) ∧ w.cell? ⟨b, 2, none⟩ = some (ptrV (nd (k + 1) (2 * v))) ∧ w.cell? ⟨b, 3, none⟩ = some (ptrV (nd (k + 1) (2 * v + 1)))) ∧ b < w.heap.size ∧ w.frozen? ⟨b, 0, none⟩ = false ∧ w.frozen? ⟨b, 1, none⟩ = false ∧ w.frozen? ⟨b, 2, none⟩ = false ∧ w.frozen? ⟨b, 3, none⟩ = false := by
  by_cases he : b = tb
  · subst he
    obtain ⟨rfl, rfl⟩ := h.inj _ _ _ _ _ hb h.root
    have k1 := cells_all h.top
    simp only [CellsAt, nodeCells, List.cons_append, Nat.reduceAdd, and_true] at k1
    obtain ⟨c0, c1, c2, c3, -⟩ := k1
    refine ⟨⟨c0, c1, c2, c3⟩, size_of h.top, ?_, ?_, ?_, ?_⟩ <;> simp [World.frozen?, h.top]
  · have hn := h.node _ _ _ hb he
    have k1 := cells_all hn
    simp only [CellsAt, nodeCells, Nat.reduceAdd, and_true] at k1
    obtain ⟨c0, c1, c2, c3⟩ := k1
    refine ⟨⟨c0, c1, c2, c3⟩, size_of hn, ?_, ?_, ?_, ?_⟩ <;> simp [World.frozen?, hn]
theorem TreeAt.of_same {w w' : World} {tb : Nat} {nd : Nat → Nat → Option Nat} {l : Nets} {room many : Int} (h : TreeAt w tb nd l room many) (hb : Below w.heap.size w w') : TreeAt w' tb nd l room many :=
  ⟨h.root, h.lt, h.inj, h.up, fun k v b h1 h2 => blk_below' hb (h.node k v b h1 h2), blk_below' hb h.top, h.nodup, h.keys⟩

/-- The first k bits of an address. -/
def headN (a k : Nat) : Nat := a / 2 ^ (32 - k)
theorem headN_succ {a k : Nat} (hk : k < 32) : headN a (k + 1) = 2 * headN a k + a / 2 ^ (31 - k) % 2 := by
  unfold headN
  have e1 : 32 - (k + 1) = 31 - k := by omega
  have e2 : 32 - k = (31 - k) + 1 := by omega
  rw [e1, e2, Nat.pow_succ, ← Nat.div_div_eq_div_mul]
  omega
theorem headN_half {a k : Nat} (hk : k < 32) : headN a (k + 1) / 2 = headN a k := by
  rw [headN_succ hk]
  omega
theorem headN_zero {a : Nat} (ha : a < 2 ^ 32) : headN a 0 = 0 := by
  unfold headN
  exact Nat.div_eq_of_lt ha
theorem none_on {w : World} {tb : Nat} {nd : Nat → Nat → Option Nat} {l : Nets} {room many : Int} (h : TreeAt w tb nd l room many) {a i : Nat} (hn : nd i (headN a i) = none) : ∀ k, i ≤ k → k ≤ 32 → nd k (headN a k) = none
  | 0, h1, _ => by
    obtain rfl : i = 0 := by omega
    exact hn
  | k + 1, h1, h2 => by
    by_cases e : i = k + 1
    · subst e; exact hn
    · exact h.up k _ (by rw [headN_half (by omega)]; exact none_on h hn k (by omega) (by omega))
theorem bit_quiet (a n : Nat) (w : World) (ha : a < 2 ^ 32) (h : n < 32) {r : Nat} (hr : a / 2 ^ (31 - n) % 2 = r) (m : Nat) : Calls Try.prog 29 #[.int .u32 a, .int .i64 n] (w.drewN m) fun e w' => e = .returned (.int .u32 r) ∧ ∃ m, w' = w.drewN m :=
  Calls.quiet_of_same ((bit_calls a n (w.drewN m) ha h).mono fun _ _ h => ⟨by rw [h.1, hr], h.2.symm⟩)
def BoxAt (w : World) (B net k : Nat) : Prop := w.heap[B]? = some (.cells #[.int .u32 net, .int .i64 k] 30 (0, 0))

set_option maxHeartbeats 1000000 in
theorem at_calls (tb : Nat) (nd : Nat → Nat → Option Nat) (l : Nets) (room many : Int) (net k : Nat) (w : World) (h : TreeAt w tb nd l room many) (hn : net < 2 ^ 32) (hk : k ≤ 32) :
    Calls Try.prog 31 #[.pointer (some ⟨tb, 0, none⟩), .agg #[.int .u32 net, .int .i64 k]] w fun e w' => e = .returned (ptrV (nd k (headN net k))) ∧ Below w.heap.size w w' := by
  have HT := Lib.hid h
  have HN := Lib.hid hn
  have HB0 : Hid (Below w.heap.size w (w.alloc (.cells #[.int .u32 net, .int .i64 k] 30 (0, 0))) ∧ BoxAt (w.alloc (.cells #[.int .u32 net, .int .i64 k] 30 (0, 0))) w.heap.size net k) := ⟨(Below.refl _ _).alloc (Nat.le_refl _) _, blk_new _ _⟩
  have HX0 := Lib.hid (show Value.pointer (some ⟨tb, 0, none⟩) = ptrV (nd 0 (headN net 0)) by rw [headN_zero hn, h.root]; rfl)
  clear h hn
  go_enter Try.func31, Try.ntmps31
  go_wp2_with (fail)
  go_loopg [5, 6] (k + 1) (fun g x i wr => ∃ n : Nat, n ≤ k ∧ g + n = k + 1 ∧ x = ptrV (nd n (headN net n)) ∧ i = .int .i64 n ∧ Hid (Below w.heap.size w wr ∧ BoxAt wr w.heap.size net k))
  case atStart => exact ⟨0, Nat.zero_le _, rfl, HX0.out, rfl, HB0⟩
  case round =>
    clear HX0 HB0
    obtain ⟨n, hnk, hg, rfl, rfl, HI⟩ := hrel
    have kc := cells_all HI.out.2
    have kl := size_of HI.out.2
    simp only [CellsAt, Nat.reduceAdd, and_true] at kc
    obtain ⟨p0, p1⟩ := kc
    cases hx : nd n (headN net n) with
    | none =>
      have HZ := Lib.hid (none_on HT.out hx k hnk hk)
      clear hx
      by_cases hlt : (n : Int) < k
      · have bl : decide ((n : Int) < k) = true := decide_eq_true hlt
        simp only [ptrV]
        go_wp2_with (fail)
        go_ret
        exact ⟨by rw [HZ.out]; rfl, HI.out.1⟩
      · have bl : decide ((n : Int) < k) = false := decide_eq_false hlt
        simp only [ptrV]
        go_wp2_with (fail)
        go_ret
        exact ⟨by rw [HZ.out]; rfl, HI.out.1⟩
    | some b =>
      by_cases hlt : (n : Int) < k
      · have bl : decide ((n : Int) < k) = true := decide_eq_true hlt
        have e1 : IntKind.i64.wrap ((n : Int) + 1) = (n : Int) + 1 := IntWalk.i64_in _ (by omega)
        obtain ⟨⟨c0, c1, c2, c3⟩, bl2, -⟩ := (HT.out.of_same HI.out.1).cells hx
        have hsu := headN_succ (a := net) (k := n) (by omega)
        rcases Nat.mod_two_eq_zero_or_one (net / 2 ^ (31 - n)) with hr | hr
        · have HQ := Lib.hid (bit_quiet net n wr HN.out (by omega) hr)
          have HY := Lib.hid (show nd (n + 1) (2 * headN net n) = nd (n + 1) (headN net (n + 1)) by rw [hsu, hr]; rfl)
          clear hsu hr hx
          simp only [ptrV]
          go_wp2_with (fail)
          go_quiet ((go_at_call 29; exact HQ.out _))
          go_wp2_with (fail)
          go_roundg (k - n)
          case measure => omega
          case rel => exact ⟨n + 1, by omega, by omega, by rw [HY.out], by go_num, Lib.hid ⟨below_drewN HI.out.1 _, HI.out.2⟩⟩
        · have HQ := Lib.hid (bit_quiet net n wr HN.out (by omega) hr)
          have HY := Lib.hid (show nd (n + 1) (2 * headN net n + 1) = nd (n + 1) (headN net (n + 1)) by rw [hsu, hr])
          clear hsu hr hx
          simp only [ptrV]
          go_wp2_with (fail)
          go_quiet ((go_at_call 29; exact HQ.out _))
          go_wp2_with (fail)
          go_roundg (k - n)
          case measure => omega
          case rel => exact ⟨n + 1, by omega, by omega, by rw [HY.out], by go_num, Lib.hid ⟨below_drewN HI.out.1 _, HI.out.2⟩⟩
      · have bl : decide ((n : Int) < k) = false := decide_eq_false hlt
        have hnk2 : n = k := by omega
        subst hnk2
        have HX := Lib.hid hx
        clear hx
        simp only [ptrV]
        go_wp2_with (fail)
        go_ret
        exact ⟨by rw [HX.out]; rfl, HI.out.1⟩
end Go.Proofs.Ytkofjejdgdhapaa
