/- lpm: the program's table and the reference's beside each other. -/
import Derived.Test.YtkofjejdgdhapaaLqK
namespace Go.Proofs.Ytkofjejdgdhapaa
open Go.RowKit

theorem owns_block {w w' : World} {base e size n : Nat} {v : Value} {xs : List Value} (h : w.ownsRow base e size v n xs) (hb : ∀ g, v.ownBlock = some g → w'.heap[g]? = w.heap[g]?) : w'.ownsRow base e size v n xs := by
  refine ⟨h.1, ?_⟩
  rcases h.2 with h2 | ⟨g, cap, cur, h1, h2, h3, h4⟩
  · exact .inl h2
  · exact .inr ⟨g, cap, cur, h1, h2, (hb g (by rw [h1]; rfl)).trans h3, h4⟩
theorem TreeAt.of_blocks {w w' : World} {tb : Nat} {nd : Nd} {l : Nets} {room many : Int} (h : TreeAt w tb nd l room many) (hb : ∀ k v b, nd k v = some b → w'.heap[b]? = w.heap[b]?) : TreeAt w' tb nd l room many :=
  ⟨h.root, h.lt, h.inj, h.up, fun k v b h1 h2 => (hb k v b h1).trans (h.node k v b h1 h2), (hb 0 0 tb h.root).trans h.top, h.nodup, h.keys⟩
abbrev Blks := List (Nat × Obj)
/-- Blocks beside the two tables. -/
def Beside (w : World) (nd : Nd) (v : Value) (rb : Nat) (S : Blks) : Prop := ∀ p ∈ S, w.heap[p.1]? = some p.2 ∧ (∀ k x, nd k x ≠ some p.1) ∧ p.1 ≠ rb ∧ v.ownBlock ≠ some p.1
def MemAt (w0 w : World) (tb rb : Nat) (room : Int) (l : Nets) (L : List Kn) (S : Blks) : Prop :=
  ∃ nd v, Below w0.heap.size w0 w ∧ TreeAt w tb nd l room l.length ∧ RefAt w w0.heap.size rb room v L ∧ (∀ k x b, nd k x = some b → w0.heap.size ≤ b ∧ b ≠ rb ∧ v.ownBlock ≠ some b) ∧ Beside w nd v rb S
theorem MemAt.below {w0 w : World} {tb rb : Nat} {room : Int} {l : Nets} {L : List Kn} {S : Blks} (h : MemAt w0 w tb rb room l L S) : Below w0.heap.size w0 w := by
  obtain ⟨nd, v, h1, _⟩ := h; exact h1
theorem MemAt.on {w0 w w' : World} {tb rb : Nat} {room : Int} {l : Nets} {L : List Kn} {S : Blks} (h : MemAt w0 w tb rb room l L S) (hb : Below w.heap.size w w') : MemAt w0 w' tb rb room l L S := by
  obtain ⟨nd, v, h1, h2, h3, h4, h5⟩ := h
  exact ⟨nd, v, h1.trans (hb.mono h1.size), h2.of_same hb, h3.on hb, h4, fun p hp => ⟨blk_below' hb (h5 p hp).1, (h5 p hp).2⟩⟩
theorem MemAt.alloc {w0 w : World} {tb rb : Nat} {room : Int} {l : Nets} {L : List Kn} {S : Blks} (h : MemAt w0 w tb rb room l L S) (o : Obj) : MemAt w0 (w.alloc o) tb rb room l L S := h.on ((Below.refl _ _).alloc (Nat.le_refl _) _)
theorem mem_tree {w0 w w' : World} {tb rb : Nat} {room : Int} {l l' : Nets} {L : List Kn} {nd nd' : Nd} {v : Value} (h1 : Below w0.heap.size w0 w) (h2 : TreeAt w tb nd l room l.length) (h3 : RefAt w w0.heap.size rb room v L) (h4 : ∀ k x b, nd k x = some b → w0.heap.size ≤ b ∧ b ≠ rb ∧ v.ownBlock ≠ some b) {S : Blks} (h5 : Beside w nd v rb S)
    (k1 : TreeAt w' tb nd' l' room l'.length) (k2 : TFr nd nd' w w') : MemAt w0 w' tb rb room l' L S := by
  have hrb := size_of h3.blk
  have hrow : ∀ g, v.ownBlock = some g → g < w.heap.size := fun g hg => (h3.own.lt g hg).2
  refine ⟨nd', v, ?_, k1, ⟨?_, ?_, h3.ne, h3.lo⟩, fun k x b hb => ?_, fun p hp => ?_⟩
  · exact ⟨k2.os.trans h1.os, k2.tape.trans h1.tape, k2.output.trans h1.output, Nat.le_trans h1.size k2.size, fun b hb => (k2.block b (Nat.lt_of_lt_of_le hb h1.size) (fun k x e => by have := (h4 k x b e).1; omega)).trans (h1.block b hb)⟩
  · rw [k2.block rb hrb (fun k x e => (h4 k x rb e).2.1 rfl)]; exact h3.blk
  · exact owns_block h3.own (fun g hg => k2.block g (hrow g hg) (fun k x e => (h4 k x g e).2.2 hg))
  · rcases k2.fresh _ _ _ hb with e | e
    · exact h4 _ _ _ e
    · exact ⟨Nat.le_trans h1.size e, by omega, fun e2 => by have := hrow b e2; omega⟩
  · obtain ⟨q1, q2, q3, q4⟩ := h5 p hp
    have hp1 := size_of q1
    refine ⟨(k2.block p.1 hp1 q2).trans q1, fun k x e => ?_, q3, q4⟩
    rcases k2.fresh _ _ _ e with e | e
    · exact q2 k x e
    · omega
theorem mem_ref {w0 w w' : World} {tb rb : Nat} {room : Int} {l : Nets} {L L' : List Kn} {nd : Nd} {v v' : Value} (h1 : Below w0.heap.size w0 w) (h2 : TreeAt w tb nd l room l.length) (h3 : RefAt w w0.heap.size rb room v L) (h4 : ∀ k x b, nd k x = some b → w0.heap.size ≤ b ∧ b ≠ rb ∧ v.ownBlock ≠ some b) {S : Blks} (h5 : Beside w nd v rb S)
    (k1 : RefAt w' w0.heap.size rb room v' L') (k2 : RFr rb v v' w w') : MemAt w0 w' tb rb room l L' S := by
  refine ⟨nd, v', ?_, h2.of_blocks (fun k x b e => ?_), k1, fun k x b hb => ?_, fun p hp => ?_⟩
  · exact ⟨k2.os.trans h1.os, k2.tape.trans h1.tape, k2.output.trans h1.output, Nat.le_trans h1.size k2.size, fun b hb => (k2.block b (Nat.lt_of_lt_of_le hb h1.size) (by have := h3.lo; omega) (fun e => by have := (h3.own.lt b e).1; omega)).trans (h1.block b hb)⟩
  · exact k2.block b (h2.lt_of e) (h4 k x b e).2.1 (h4 k x b e).2.2
  · obtain ⟨q1, q2, q3⟩ := h4 k x b hb
    refine ⟨q1, q2, fun e => ?_⟩
    rcases k2.fresh with e2 | e2
    · exact q3 (e2 ▸ e)
    · have := e2 b e
      have := h2.lt_of hb
      omega
  · obtain ⟨q1, q2, q3, q4⟩ := h5 p hp
    have hp1 := size_of q1
    refine ⟨(k2.block p.1 hp1 q3 q4).trans q1, q2, q3, fun e => ?_⟩
    rcases k2.fresh with e2 | e2
    · exact q4 (e2 ▸ e)
    · have := e2 p.1 e
      omega
theorem MemAt.push {w0 w : World} {tb rb : Nat} {room : Int} {l : Nets} {L : List Kn} {S : Blks} (h : MemAt w0 w tb rb room l L S) (o : Obj) : MemAt w0 (w.alloc o) tb rb room l L ((w.heap.size, o) :: S) := by
  have h' := h.alloc o
  obtain ⟨nd, v, h1, h2, h3, h4, h5⟩ := h
  have hB := (Below.refl w.heap.size w).alloc (Nat.le_refl _) o
  refine ⟨nd, v, h1.trans (hB.mono h1.size), h2.of_same hB, h3.on hB, h4, fun p hp => ?_⟩
  rcases List.mem_cons.1 hp with rfl | hp
  · exact ⟨blk_new _ _, fun k x e => Nat.lt_irrefl _ (h2.lt_of e), fun e => by have := size_of h3.blk; simp only at e; omega, fun e => Nat.lt_irrefl _ (h3.own.lt _ e).2⟩
  · exact ⟨blk_below' hB (h5 p hp).1, (h5 p hp).2⟩
theorem MemAt.sub {w0 w : World} {tb rb : Nat} {room : Int} {l : Nets} {L : List Kn} {S S' : Blks} (h : MemAt w0 w tb rb room l L S) (hs : ∀ p ∈ S', p ∈ S) : MemAt w0 w tb rb room l L S' := by
  obtain ⟨nd, v, h1, h2, h3, h4, h5⟩ := h
  exact ⟨nd, v, h1, h2, h3, h4, fun p hp => h5 p (hs p hp)⟩
theorem MemAt.blk {w0 w : World} {tb rb : Nat} {room : Int} {l : Nets} {L : List Kn} {S : Blks} (h : MemAt w0 w tb rb room l L S) {b : Nat} {o : Obj} (hp : (b, o) ∈ S) : w.heap[b]? = some o := by
  obtain ⟨nd, v, h1, h2, h3, h4, h5⟩ := h
  exact (h5 _ hp).1

/-! ### The steps -/
def mayPut (l : Nets) (room : Int) (net : Nat) (b : Int) : Bool := rightB net b && ((getM l (keyP net b)).isSome || decide ((l.length : Int) < room))
def putN (l : Nets) (room : Int) (net : Nat) (b n : Int) : Nets := if mayPut l room net b then putM l (keyP net b) n else l
def putCode (l : Nets) (room : Int) (net : Nat) (b : Int) : Int := if rightB net b then (if mayPut l room net b then 0 else 3) else 1
def mayPutR (L : List Kn) (room : Int) (net : Nat) (b : Int) : Bool := rightB net b && ((placeL L (net, b)).2 || decide ((L.length : Int) < room))
def putR (L : List Kn) (room : Int) (net : Nat) (b n : Int) : List Kn := if mayPutR L room net b then putK L ⟨net, b, n⟩ else L
def dropN (l : Nets) (net : Nat) (b : Int) : Nets := if (knowsN l net b).isSome then delM l (keyP net b) else l
theorem Tied.may {l : Nets} {L : List Kn} (h : Tied l L) {net : Nat} {b : Int} (hn : net < 2 ^ 32) (room : Int) : mayPutR L room net b = mayPut l room net b := by
  unfold mayPut mayPutR
  cases hb : rightB net b with
  | false => rfl
  | true => rw [(h.knows b hn).2, knowsN_ok hb, h.len]
theorem Tied.putS {l : Nets} {L : List Kn} (h : Tied l L) {net : Nat} {b : Int} (hn : net < 2 ^ 32) (room n : Int) : Tied (putN l room net b n) (putR L room net b n) := by
  unfold putN putR
  rw [h.may hn]
  split
  · rename_i hm
    exact h.put hn (by unfold mayPut at hm; simp only [Bool.and_eq_true] at hm; exact hm.1) n
  · exact h
theorem Tied.dropS {l : Nets} {L : List Kn} (h : Tied l L) (hd : (l.map (·.1)).Nodup) {net : Nat} {b : Int} (hn : net < 2 ^ 32) : Tied (dropN l net b) (dropK L (net, b)) := by
  unfold dropN
  split
  · rename_i hm
    exact h.drop hd hn (by
      cases hb : rightB net b with
      | true => rfl
      | false => rw [knowsN_bad hb] at hm; cases hm)
  · rename_i hm
    rw [dropK_none (by rw [(h.knows b hn).2]; simpa using hm)]
    exact h
theorem putN_len (l : Nets) (room : Int) (net : Nat) (b n : Int) : (putN l room net b n).length ≤ l.length + 1 := by
  unfold putN
  split
  · rw [put_len]; split <;> omega
  · omega
theorem dropN_len (l : Nets) (net : Nat) (b : Int) : (dropN l net b).length ≤ l.length := by
  unfold dropN
  split
  · exact List.length_filter_le _ _
  · exact Nat.le_refl _
theorem MemAt.nodup {w0 w : World} {tb rb : Nat} {room : Int} {l : Nets} {L : List Kn} {S : Blks} (h : MemAt w0 w tb rb room l L S) : (l.map (·.1)).Nodup := by
  obtain ⟨nd, v, _, h2, _⟩ := h; exact h2.nodup
theorem put_mem (w0 : World) (tb rb : Nat) (room : Int) (l : Nets) (L : List Kn) (S : Blks) (net : Nat) (b n : Int) (w : World) (h : MemAt w0 w tb rb room l L S) (hn : net < 2 ^ 32) (hl : l.length ≤ 100000) :
    Calls Try.prog 13 #[.pointer (some ⟨tb, 0, none⟩), .agg #[.int .u32 net, .int .i64 b], .int .i64 n] w fun e w' => e = .returned (.int .i64 (putCode l room net b)) ∧ MemAt w0 w' tb rb room (putN l room net b n) L S := by
  have h' := h
  obtain ⟨nd, v, h1, h2, h3, h4, h5⟩ := h
  refine (put_calls tb nd l room net b n w h2 hn hl).mono fun e w2 hq => ?_
  rcases hq with ⟨g1, g2, g3⟩ | ⟨g1, g2, g3, g4, g5⟩ | ⟨g1, g2, g3, nd', g4, g5⟩
  · exact ⟨by rw [g2, putCode, g1]; rfl, by rw [putN, mayPut, g1]; exact h'.on g3⟩
  · have hm : mayPut l room net b = false := by rw [mayPut, g1, g2]; simp; omega
    exact ⟨by rw [g4, putCode, g1, hm]; rfl, by rw [putN, hm]; exact h'.on g5⟩
  · have hm : mayPut l room net b = true := by
      rw [mayPut, g1]
      rcases g2 with g2 | g2
      · rw [g2]; rfl
      · simp [g2]
    exact ⟨by rw [g3, putCode, g1, hm]; rfl, by rw [putN, hm]; exact mem_tree h1 h2 h3 h4 h5 g4 g5⟩
theorem rput_mem (w0 : World) (tb rb : Nat) (room : Int) (l : Nets) (L : List Kn) (S : Blks) (net : Nat) (b n : Int) (w : World) (h : MemAt w0 w tb rb room l L S) (hn : net < 2 ^ 32) (hl : L.length ≤ 100000) {code : Int} (hc : (if rightB net b then (if mayPutR L room net b then 0 else 3) else 1) = code) :
    Calls Try.prog 27 #[.pointer (some ⟨rb, 0, none⟩), .agg #[.int .u32 net, .int .i64 b], .int .i64 n] w fun e w' => e = .returned (.int .i64 code) ∧ MemAt w0 w' tb rb room l (putR L room net b n) S := by
  have h' := h
  obtain ⟨nd, v, h1, h2, h3, h4, h5⟩ := h
  refine (rput_calls w0.heap.size rb room v L net b n w h3 hl hn).mono fun e w2 hq => ?_
  rw [← hc]
  rcases hq with ⟨g1, g2, g3⟩ | ⟨g1, g2, g3, g4, g5⟩ | ⟨g1, g2, g3, v', g4, g5⟩
  · exact ⟨by rw [g2, g1]; rfl, by rw [putR, mayPutR, g1]; exact h'.on g3⟩
  · have hm : mayPutR L room net b = false := by rw [mayPutR, g1, g2]; simp; omega
    exact ⟨by rw [g4, g1, hm]; rfl, by rw [putR, hm]; exact h'.on g5⟩
  · have hm : mayPutR L room net b = true := by
      rw [mayPutR, g1]
      rcases g2 with g2 | g2
      · rw [g2]; rfl
      · simp [g2]
    exact ⟨by rw [g3, g1, hm]; rfl, by rw [putR, hm]; exact mem_ref h1 h2 h3 h4 h5 g4 g5⟩
theorem drop_mem (w0 : World) (tb rb : Nat) (room : Int) (l : Nets) (L : List Kn) (S : Blks) (net : Nat) (b : Int) (w : World) (h : MemAt w0 w tb rb room l L S) (hn : net < 2 ^ 32) (hl : l.length ≤ 100000) :
    Calls Try.prog 15 #[.pointer (some ⟨tb, 0, none⟩), .agg #[.int .u32 net, .int .i64 b]] w fun e w' => e = .returned (.bool (knowsN l net b).isSome) ∧ MemAt w0 w' tb rb room (dropN l net b) L S := by
  have h' := h
  obtain ⟨nd, v, h1, h2, h3, h4, h5⟩ := h
  refine (drop_calls tb nd l room net b w h2 hn hl).mono fun e w2 hq => ?_
  rcases hq with ⟨g1, g2, g3⟩ | ⟨g1, g2, g3, g4⟩
  · exact ⟨by rw [g2, g1]; rfl, by rw [dropN, g1]; exact h'.on g3⟩
  · exact ⟨by rw [g2, g1], by rw [dropN, g1]; exact mem_tree h1 h2 h3 h4 h5 g3 g4⟩
theorem rdrop_mem (w0 : World) (tb rb : Nat) (room : Int) (l : Nets) (L : List Kn) (S : Blks) (net : Nat) (b : Int) (w : World) (h : MemAt w0 w tb rb room l L S) (hl : L.length ≤ 100000) {is : Bool} (hi : (placeL L (net, b)).2 = is) :
    Calls Try.prog 22 #[.pointer (some ⟨rb, 0, none⟩), .agg #[.int .u32 net, .int .i64 b]] w fun e w' => e = .returned (.bool is) ∧ MemAt w0 w' tb rb room l (dropK L (net, b)) S := by
  obtain ⟨nd, v, h1, h2, h3, h4, h5⟩ := h
  refine (rdrop_calls w0.heap.size rb room v L net b w h3 hl).mono fun e w2 ⟨g1, v', g2, g3⟩ => ⟨by rw [g1, hi], mem_ref h1 h2 h3 h4 h5 g2 g3⟩
theorem find_mem (w0 : World) (tb rb : Nat) (room : Int) (l : Nets) (L : List Kn) (S : Blks) (a : Nat) (w : World) (h : MemAt w0 w tb rb room l L S) (ha : a < 2 ^ 32) :
    Calls Try.prog 11 #[.pointer (some ⟨tb, 0, none⟩), .int .u32 a] w fun e w' => e = .returned (findV l a) ∧ Below w.heap.size w w' := by
  obtain ⟨nd, v, h1, h2, h3, h4, h5⟩ := h
  exact find_calls tb nd l room _ a w h2 ha
theorem rfind_mem (w0 : World) (tb rb : Nat) (room : Int) (l : Nets) (L : List Kn) (S : Blks) (a : Nat) (w : World) (h : MemAt w0 w tb rb room l L S) (ht : Tied l L) (hl : L.length ≤ 100000) (ha : a < 2 ^ 32) :
    Calls Try.prog 12 #[.pointer (some ⟨rb, 0, none⟩), .int .u32 a] w fun e w' => e = .returned (findV l a) ∧ Below w.heap.size w w' := by
  obtain ⟨nd, v, h1, h2, h3, h4, h5⟩ := h
  rw [ht.find ha]
  exact rfind_calls w0.heap.size rb room v L a w h3 hl ha (fun x hx => (ht.rt x hx).2)
theorem rnew_calls (room : Int) (w : World) (h1 : 1 ≤ room) (h2 : room ≤ 4096) : Calls Try.prog 26 #[.int .i64 room] w fun e w' => e = .returned (.tuple #[.pointer (some ⟨w.heap.size, 0, none⟩), .int .i64 0]) ∧ w' = w.alloc (.cells #[.int .i64 room, .slice none 0 0] 46 (0, 0)) := by
  have b1 : decide (room < 1) = false := decide_eq_false (by omega)
  have b2 : decide (4096 < room) = false := decide_eq_false (by omega)
  go_enter Try.func26, Try.ntmps26
  go_wp2_with (fail)
  go_ret2
  exact ⟨rfl, rfl⟩
theorem rnew_bad (room : Int) (w : World) (h : room < 1 ∨ 4096 < room) : Calls Try.prog 26 #[.int .i64 room] w fun e w' => e = .returned (.tuple #[.pointer none, .int .i64 1]) ∧ w' = w := by
  by_cases h1 : room < 1
  · have b1 : decide (room < 1) = true := decide_eq_true h1
    go_enter Try.func26, Try.ntmps26
    go_wp2_with (fail)
    go_ret2
    exact ⟨rfl, rfl⟩
  · have b1 : decide (room < 1) = false := decide_eq_false h1
    have b2 : decide (4096 < room) = true := decide_eq_true (by omega)
    go_enter Try.func26, Try.ntmps26
    go_wp2_with (fail)
    go_ret2
    exact ⟨rfl, rfl⟩
theorem mem_new (w : World) (room : Int) : MemAt w ((w.alloc (newTable room)).alloc (.cells #[.int .i64 room, .slice none 0 0] 46 (0, 0))) w.heap.size (w.heap.size + 1) room [] [] [] := by
  refine ⟨nd0 w.heap.size, .slice none 0 0, ((Below.refl _ _).alloc (Nat.le_refl _) _).alloc (by rw [World.size_alloc]; omega) _, (tree_new w room).of_same ((Below.refl _ _).alloc (Nat.le_refl _) _), ⟨blk_new' _ _ _ (World.size_alloc _ _).symm, World.ownsRow_nil _ _ _ _, fun g hg => by simp [Value.ownBlock] at hg, by omega⟩, fun k x b hb => ?_, fun p hp => by simp at hp⟩
  unfold nd0 at hb
  split at hb
  · have := Option.some.inj hb
    exact ⟨by omega, by omega, by simp [Value.ownBlock]⟩
  · cases hb
end Go.Proofs.Ytkofjejdgdhapaa
