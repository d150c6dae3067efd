/- ztp and its reference: what stands in memory; the small functions. -/
import Derived.Test.YthdhodopmffdmaaProg
import Derived.Test.YthdhodopmffdmaaMapJ
import Derived.Test.YthdhodopmffdmaaKept
namespace Go.Proofs.Ythdhodopmffdmaa
open Go.RowKit

/-- A node's state but its offers. -/
structure Zs where
  fixed : Int
  leaf : Bool
  top : Bool
  taken : Int
  held : Bool
  until_ : Int
def offE (x : Int × Int) : Value := .agg #[.int .i64 x.1, .int .i64 x.2]
def zBlk (z : Zs) (mb : Nat) : Obj := .cells #[.int .i64 z.fixed, .bool z.leaf, .bool z.top, .map (some mb), .int .i64 z.taken, .bool z.held, .int .i64 z.until_] 46 (0, 0)
def ZAt (w : World) (zb mb : Nat) (z : Zs) (m : List (Int × (Int × Int))) : Prop := w.heap[zb]? = some (zBlk z mb) ∧ MapAt w mb offE m
theorem ZAt.ne {w : World} {zb mb : Nat} {z : Zs} {m : List (Int × (Int × Int))} (h : ZAt w zb mb z m) : zb ≠ mb := by
  obtain ⟨h1, es, clock, h2, _⟩ := h
  intro e
  rw [e, h2] at h1
  cases h1
theorem ZAt.kept {l : List Nat} {w w' : World} {zb mb : Nat} {z : Zs} {m : List (Int × (Int × Int))} (h : ZAt w zb mb z m) (hk : Kept l w w') (h1 : zb ∉ l) (h2 : mb ∉ l) : ZAt w' zb mb z m :=
  ⟨hk.blk h.1 h1, h.2.of_blk (hk.block mb h.2.lt h2)⟩

def momB (n : Int) : Bool := decide (0 ≤ n) && decide (n ≤ 1099511627776)
theorem moment_calls (n : Int) (w : World) : Calls Try.prog 22 #[.int .i64 n] w fun e w' => e = .returned (.bool (momB n)) ∧ w = w' := by
  by_cases h : 0 ≤ n
  · have hb : decide (0 ≤ n) = true := decide_eq_true h
    go_enter Try.func22, Try.ntmps22
    go_wp2
    go_ret
    exact ⟨by simp [momB, h], rfl⟩
  · have hb : decide (0 ≤ n) = false := decide_eq_false h
    go_enter Try.func22, Try.ntmps22
    go_wp2
    go_ret
    exact ⟨by simp [momB]; omega, rfl⟩
theorem rmoment_calls (n : Int) (w : World) : Calls Try.prog 23 #[.int .i64 n] w fun e w' => e = .returned (.bool (momB n)) ∧ w = w' := by
  by_cases h : 0 ≤ n
  · have hb : decide (0 ≤ n) = true := decide_eq_true h
    go_enter Try.func23, Try.ntmps23
    go_wp2
    go_ret
    exact ⟨by simp [momB, h], rfl⟩
  · have hb : decide (0 ≤ n) = false := decide_eq_false h
    go_enter Try.func23, Try.ntmps23
    go_wp2
    go_ret
    exact ⟨by simp [momB]; omega, rfl⟩

def toldB (z : Zs) : Bool := decide (0 ≤ z.fixed) || (z.leaf || z.top)
theorem told_calls (zb mb : Nat) (z : Zs) (w : World) (h : w.heap[zb]? = some (zBlk z mb)) : Calls Try.prog 24 #[.pointer (some ⟨zb, 0, none⟩)] w fun e w' => e = .returned (.bool (toldB z)) ∧ w = w' := by
  have k1 := cells_all h
  simp only [CellsAt, Nat.reduceAdd, and_true] at k1
  obtain ⟨c0, c1, c2, c3, c4, c5, c6⟩ := k1
  clear h
  by_cases h0 : 0 ≤ z.fixed
  · go_enter Try.func24, Try.ntmps24
    go_wp2
    go_ret
    exact ⟨by simp [toldB, h0], rfl⟩
  · cases hl : z.leaf
    · rw [hl] at c1
      have hb : decide (0 ≤ z.fixed) = false := decide_eq_false h0
      have HL := Lib.hid hl
      clear hl
      go_enter Try.func24, Try.ntmps24
      go_wp2
      go_ret
      exact ⟨by simp [toldB, HL.out]; try omega, rfl⟩
    · rw [hl] at c1
      have hb : decide (0 ≤ z.fixed) = false := decide_eq_false h0
      have HL := Lib.hid hl
      clear hl
      go_enter Try.func24, Try.ntmps24
      go_wp2
      go_ret
      exact ⟨by simp [toldB, HL.out]; try omega, rfl⟩

def levelI (z : Zs) : Int := if 0 ≤ z.fixed then z.fixed else if z.top then 24 else if z.leaf then 0 else wrap64 (z.taken - 1)
theorem level_calls (zb mb : Nat) (z : Zs) (w : World) (h : w.heap[zb]? = some (zBlk z mb)) : Calls Try.prog 16 #[.pointer (some ⟨zb, 0, none⟩)] w fun e w' => e = .returned (.int .i64 (levelI z)) ∧ w = w' := by
  have k1 := cells_all h
  simp only [CellsAt, Nat.reduceAdd, and_true] at k1
  obtain ⟨c0, c1, c2, c3, c4, c5, c6⟩ := k1
  clear h
  go_enter Try.func16, Try.ntmps16
  go_wp2
  · go_ret
    exact ⟨ret_i (by rw [levelI, if_pos (by assumption)]), rfl⟩
  · go_ret
    exact ⟨ret_i (by rw [levelI, if_neg (by omega), if_pos (by assumption)]), rfl⟩
  · go_ret
    exact ⟨ret_i (by rw [levelI, if_neg (by omega), if_neg (by simp [*]), if_pos (by assumption)]), rfl⟩
  · go_ret
    exact ⟨ret_i (by rw [levelI, if_neg (by omega), if_neg (by simp [*]), if_neg (by simp [*])]), rfl⟩

/-- The reference's state: its offers a row of its own. -/
def rBlk (z : Zs) (v : Value) : Obj := .cells #[.int .i64 z.fixed, .bool z.leaf, .bool z.top, v, .int .i64 z.taken, .bool z.held, .int .i64 z.until_] 49 (0, 0)
def ofCells (p : Int × (Int × Int)) : List Value := [.int .i64 p.1, .int .i64 p.2.1, .int .i64 p.2.2]
def RAt (w : World) (base rb : Nat) (z : Zs) (l : List (Int × (Int × Int))) : Prop := ∃ v, w.heap[rb]? = some (rBlk z v) ∧ w.ownsRow base 54 3 v l.length (l.flatMap ofCells)
theorem own_calls (rb : Nat) (z : Zs) (v : Value) (w : World) (h : w.heap[rb]? = some (rBlk z v)) : Calls Try.prog 25 #[.pointer (some ⟨rb, 0, none⟩)] w fun e w' => e = .returned (.bool (!toldB z)) ∧ w = w' := by
  have k1 := cells_all h
  simp only [CellsAt, Nat.reduceAdd, and_true] at k1
  obtain ⟨c0, c1, c2, c3, c4, c5, c6⟩ := k1
  clear h
  by_cases h0 : z.fixed < 0
  · have hb : decide (z.fixed < 0) = true := decide_eq_true h0
    cases hl : z.leaf
    · rw [hl] at c1
      have HL := Lib.hid hl
      have H0 := Lib.hid h0
      clear hl h0
      go_enter Try.func25, Try.ntmps25
      go_wp2
      go_ret
      exact ⟨by have := H0.out; simp [toldB, HL.out]; try omega, rfl⟩
    · rw [hl] at c1
      have HL := Lib.hid hl
      have H0 := Lib.hid h0
      clear hl h0
      go_enter Try.func25, Try.ntmps25
      go_wp2
      go_ret
      exact ⟨by simp [toldB, HL.out], rfl⟩
  · have hb : decide (z.fixed < 0) = false := decide_eq_false h0
    have H0 := Lib.hid h0
    clear h0
    go_enter Try.func25, Try.ntmps25
    go_wp2
    go_ret
    exact ⟨by have := H0.out; simp [toldB]; omega, rfl⟩
theorem rlevel_calls (rb : Nat) (z : Zs) (v : Value) (w : World) (h : w.heap[rb]? = some (rBlk z v)) : Calls Try.prog 17 #[.pointer (some ⟨rb, 0, none⟩)] w fun e w' => e = .returned (.int .i64 (levelI z)) ∧ w = w' := by
  have k1 := cells_all h
  simp only [CellsAt, Nat.reduceAdd, and_true] at k1
  obtain ⟨c0, c1, c2, c3, c4, c5, c6⟩ := k1
  clear h
  go_enter Try.func17, Try.ntmps17
  go_wp2
  · go_ret
    exact ⟨ret_i (by rw [levelI, if_pos (by assumption)]), rfl⟩
  · go_ret
    exact ⟨ret_i (by rw [levelI, if_neg (by omega), if_pos (by assumption)]), rfl⟩
  · go_ret
    exact ⟨ret_i (by rw [levelI, if_neg (by omega), if_neg (by simp [*]), if_pos (by assumption)]), rfl⟩
  · go_ret
    exact ⟨ret_i (by rw [levelI, if_neg (by omega), if_neg (by simp [*]), if_neg (by simp [*])]), rfl⟩

/-! ### New -/
def newOk (fixed : Int) (leaf top : Bool) : Bool := !(decide (fixed < -1) || decide (24 < fixed)) && !(leaf && top) && !(decide (0 ≤ fixed) && (leaf || top))
def newPost (fixed : Int) (leaf top : Bool) (w : World) (e : Ending) (w' : World) : Prop :=
  (newOk fixed leaf top = true ∧ e = .returned (.tuple #[.pointer (some ⟨w.heap.size + 1, 0, none⟩), .int .i64 0]) ∧ w' = (w.alloc (.map #[] 0)).alloc (zBlk ⟨fixed, leaf, top, 0, false, 0⟩ w.heap.size)) ∨
  (newOk fixed leaf top = false ∧ e = .returned (.tuple #[.pointer none, .int .i64 1]) ∧ w' = w)
set_option maxHeartbeats 1000000 in
theorem new_calls (fixed : Int) (leaf top : Bool) (w : World) : Calls Try.prog 10 #[.int .i64 fixed, .bool leaf, .bool top] w (newPost fixed leaf top w) := by
  have hmm := @run_makeMap Try.prog
  by_cases h1 : fixed < -1
  · have b1 : decide (fixed < -1) = true := decide_eq_true h1
    have HF := Lib.hid (show newOk fixed leaf top = false by simp [newOk, h1])
    go_enter Try.func10, Try.ntmps10
    go_wp2
    go_ret2
    exact .inr ⟨HF.out, rfl, rfl⟩
  · have b1 : decide (fixed < -1) = false := decide_eq_false h1
    by_cases h2 : 24 < fixed
    · have b2 : decide (24 < fixed) = true := decide_eq_true h2
      have HF := Lib.hid (show newOk fixed leaf top = false by simp [newOk, h2])
      go_enter Try.func10, Try.ntmps10
      go_wp2
      go_ret2
      exact .inr ⟨HF.out, rfl, rfl⟩
    · have b2 : decide (24 < fixed) = false := decide_eq_false h2
      by_cases h3 : 0 ≤ fixed
      · have b3 : decide (0 ≤ fixed) = true := decide_eq_true h3
        cases leaf <;> cases top
        · have HF := Lib.hid (show newOk fixed false false = true by simp [newOk, h3]; omega)
          go_enter Try.func10, Try.ntmps10
          go_wp2
          go_ret2
          exact .inl ⟨HF.out, rfl, rfl⟩
        · have HF := Lib.hid (show newOk fixed false true = false by simp [newOk, h3])
          go_enter Try.func10, Try.ntmps10
          go_wp2
          go_ret2
          exact .inr ⟨HF.out, rfl, rfl⟩
        · have HF := Lib.hid (show newOk fixed true false = false by simp [newOk, h3])
          go_enter Try.func10, Try.ntmps10
          go_wp2
          go_ret2
          exact .inr ⟨HF.out, rfl, rfl⟩
        · have HF := Lib.hid (show newOk fixed true true = false by simp [newOk, h3])
          go_enter Try.func10, Try.ntmps10
          go_wp2
          go_ret2
          exact .inr ⟨HF.out, rfl, rfl⟩
      · have b3 : decide (0 ≤ fixed) = false := decide_eq_false h3
        cases leaf <;> cases top
        · have HF := Lib.hid (show newOk fixed false false = true by simp [newOk]; omega)
          go_enter Try.func10, Try.ntmps10
          go_wp2
          go_ret2
          exact .inl ⟨HF.out, rfl, rfl⟩
        · have HF := Lib.hid (show newOk fixed false true = true by simp [newOk]; omega)
          go_enter Try.func10, Try.ntmps10
          go_wp2
          go_ret2
          exact .inl ⟨HF.out, rfl, rfl⟩
        · have HF := Lib.hid (show newOk fixed true false = true by simp [newOk]; omega)
          go_enter Try.func10, Try.ntmps10
          go_wp2
          go_ret2
          exact .inl ⟨HF.out, rfl, rfl⟩
        · have HF := Lib.hid (show newOk fixed true true = false by simp [newOk])
          go_enter Try.func10, Try.ntmps10
          go_wp2
          go_ret2
          exact .inr ⟨HF.out, rfl, rfl⟩
def rnewPost (fixed : Int) (leaf top : Bool) (w : World) (e : Ending) (w' : World) : Prop :=
  (newOk fixed leaf top = true ∧ e = .returned (.tuple #[.pointer (some ⟨w.heap.size, 0, none⟩), .int .i64 0]) ∧ w' = w.alloc (rBlk ⟨fixed, leaf, top, 0, false, 0⟩ (.slice none 0 0))) ∨
  (newOk fixed leaf top = false ∧ e = .returned (.tuple #[.pointer none, .int .i64 1]) ∧ w' = w)
set_option maxHeartbeats 1000000 in
theorem rnew_calls (fixed : Int) (leaf top : Bool) (w : World) : Calls Try.prog 11 #[.int .i64 fixed, .bool leaf, .bool top] w (rnewPost fixed leaf top w) := by
  by_cases h1 : fixed < -1
  · have b1 : decide (fixed < -1) = true := decide_eq_true h1
    have HF := Lib.hid (show newOk fixed leaf top = false by simp [newOk, h1])
    go_enter Try.func11, Try.ntmps11
    go_wp2
    go_ret2
    exact .inr ⟨HF.out, rfl, rfl⟩
  · have b1 : decide (fixed < -1) = false := decide_eq_false h1
    by_cases h2 : 24 < fixed
    · have b2 : decide (24 < fixed) = true := decide_eq_true h2
      have HF := Lib.hid (show newOk fixed leaf top = false by simp [newOk, h2])
      go_enter Try.func11, Try.ntmps11
      go_wp2
      go_ret2
      exact .inr ⟨HF.out, rfl, rfl⟩
    · have b2 : decide (24 < fixed) = false := decide_eq_false h2
      by_cases h3 : 0 ≤ fixed
      · have b3 : decide (0 ≤ fixed) = true := decide_eq_true h3
        cases leaf <;> cases top
        · have HF := Lib.hid (show newOk fixed false false = true by simp [newOk, h3]; omega)
          go_enter Try.func11, Try.ntmps11
          go_wp2
          go_ret2
          exact .inl ⟨HF.out, rfl, rfl⟩
        · have HF := Lib.hid (show newOk fixed false true = false by simp [newOk, h3])
          go_enter Try.func11, Try.ntmps11
          go_wp2
          go_ret2
          exact .inr ⟨HF.out, rfl, rfl⟩
        · have HF := Lib.hid (show newOk fixed true false = false by simp [newOk, h3])
          go_enter Try.func11, Try.ntmps11
          go_wp2
          go_ret2
          exact .inr ⟨HF.out, rfl, rfl⟩
        · have HF := Lib.hid (show newOk fixed true true = false by simp [newOk, h3])
          go_enter Try.func11, Try.ntmps11
          go_wp2
          go_ret2
          exact .inr ⟨HF.out, rfl, rfl⟩
      · have b3 : decide (0 ≤ fixed) = false := decide_eq_false h3
        cases leaf <;> cases top
        · have HF := Lib.hid (show newOk fixed false false = true by simp [newOk]; omega)
          go_enter Try.func11, Try.ntmps11
          go_wp2
          go_ret2
          exact .inl ⟨HF.out, rfl, rfl⟩
        · have HF := Lib.hid (show newOk fixed false true = true by simp [newOk]; omega)
          go_enter Try.func11, Try.ntmps11
          go_wp2
          go_ret2
          exact .inl ⟨HF.out, rfl, rfl⟩
        · have HF := Lib.hid (show newOk fixed true false = true by simp [newOk]; omega)
          go_enter Try.func11, Try.ntmps11
          go_wp2
          go_ret2
          exact .inl ⟨HF.out, rfl, rfl⟩
        · have HF := Lib.hid (show newOk fixed true true = false by simp [newOk])
          go_enter Try.func11, Try.ntmps11
          go_wp2
          go_ret2
          exact .inr ⟨HF.out, rfl, rfl⟩
end Go.Proofs.Ythdhodopmffdmaa
