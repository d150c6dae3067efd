/- The reference's Put: a new one. -/
import Derived.Test.YtkofjejdgdhapaaLqC
namespace Go.Proofs.Ytkofjejdgdhapaa
open Go.RowKit

theorem infoKn : (Try.prog.info? 66).map (fun i => (i.zero, i.size, i.bytes)) = some (some (.agg #[.int .u32 0, .int .i64 0, .int .i64 0]), 3, 24) := by kernel_rfl
theorem own_emptyK {wr : World} : (wr.alloc (.cells #[] 66)).ownsRow wr.heap.size 66 3 (.slice (some ⟨wr.heap.size, 0, none⟩) 0 0) 0 [] :=
  World.ownsRow_made (w := wr) #[] 0 (Nat.le_refl _) (Nat.zero_le _) rfl
theorem base_alloc {wr : World} {o : Obj} : wr.heap.size ≤ (wr.alloc o).heap.size := by
  rw [World.size_alloc]; omega
theorem flatK_one (l : List Kn) : ∀ u ∈ flatK l, u.oneCell' = true := by
  intro u hu
  obtain ⟨x, _, hx⟩ := List.mem_flatMap.1 hu
  simp only [Kn.cells, List.mem_cons, List.not_mem_nil, or_false] at hx
  rcases hx with rfl | rfl | rfl <;> rfl
theorem flatK_len : ∀ l : List Kn, (flatK l).length = l.length * 3
  | [] => rfl
  | x :: l => by
    have := flatK_len l
    rw [flatK, List.flatMap_cons, List.length_append, this, List.length_cons]
    simp [Kn.cells]; omega
theorem src_nil (w : World) (size : Nat) : Src w size none 0 (flatK []) := ⟨by simp, fun _ => rfl, fun ad e => by cases e⟩
theorem src_take {w : World} {B g c n : Nat} {L : List Kn} (h : w.ownsRow B 66 3 (.slice (some ⟨g, 0, none⟩) n c) n (flatK L)) {i : Nat} (hi : i ≤ L.length) : Src w 3 (some ⟨g, 0, none⟩) i (flatK (L.take i)) := by
  refine ⟨by rw [flatK_len, List.length_take]; omega, (fun e => by cases e), fun ad e j u hu => ?_⟩
  obtain rfl := Option.some.inj e
  refine h.cells rfl j u ?_
  have e2 : flatK L = flatK (L.take i) ++ flatK (L.drop i) := by rw [flatK, flatK, flatK, ← List.flatMap_append, List.take_append_drop]
  rw [e2, List.getElem?_append_left (List.getElem?_eq_some_iff.1 hu).1]
  exact hu
theorem src_drop {w : World} {B g c n : Nat} {L : List Kn} (h : w.ownsRow B 66 3 (.slice (some ⟨g, 0, none⟩) n c) n (flatK L)) {i : Nat} (hi : i ≤ L.length) : Src w 3 (some ⟨g, i * 3, none⟩) (L.length - i) (flatK (L.drop i)) := by
  refine ⟨by rw [flatK_len, List.length_drop], (fun e => by cases e), fun ad e j u hu => ?_⟩
  obtain rfl := Option.some.inj e
  have hc := h.cells rfl (i * 3 + j) u ?_
  · rw [Addr.add_lit] at hc ⊢
    rw [Nat.zero_add] at hc
    exact hc
  · have e2 : flatK L = flatK (L.take i) ++ flatK (L.drop i) := by rw [flatK, flatK, flatK, ← List.flatMap_append, List.take_append_drop]
    have e3 : (flatK (L.take i)).length = i * 3 := by rw [flatK_len, List.length_take, Nat.min_eq_left hi]
    rw [e2, List.getElem?_append_right (by rw [e3]; omega), e3, show i * 3 + j - i * 3 = j by omega]
    exact hu
theorem src_end {w : World} {B g c n : Nat} {L : List Kn} (_h : w.ownsRow B 66 3 (.slice (some ⟨g, 0, none⟩) n c) n (flatK L)) {i : Nat} (hi : i = L.length) : Src w 3 (some ⟨g, 0, none⟩) (L.length - i) (flatK (L.drop i)) := by
  subst hi
  refine ⟨by rw [flatK_len, List.length_drop], (fun e => by cases e), fun ad e j u hu => ?_⟩
  rw [List.drop_length] at hu
  simp at hu
theorem src_end0 {w : World} {B g c n : Nat} {L : List Kn} (h : w.ownsRow B 66 3 (.slice (some ⟨g, 0, none⟩) n c) n (flatK L)) : Src w 3 (some ⟨g, 0, none⟩) 0 (flatK (L.drop L.length)) := by
  have := src_end h rfl
  rwa [Nat.sub_self] at this
theorem src_end1 {w : World} {B g c n i : Nat} {L : List Kn} (h : w.ownsRow B 66 3 (.slice (some ⟨g, 0, none⟩) n c) n (flatK L)) (hi : i + 1 = L.length) : Src w 3 (some ⟨g, 0, none⟩) 0 (flatK (L.drop (i + 1))) := by
  have := src_end h hi
  rwa [hi, Nat.sub_self, ← hi] at this
theorem src_new (w : World) (x : Kn) : Src (w.alloc (.cells #[.int .u32 x.net, .int .i64 x.b, .int .i64 x.n] 66)) 3 (some ⟨w.heap.size, 0, none⟩) 1 (Kn.cells x) :=
  ⟨rfl, (fun e => by cases e), fun ad e j u hu => by
    have e2 := Option.some.inj e
    subst e2
    exact new_cells w (Kn.cells x) _ j u hu⟩
theorem one_Kn (x : Kn) : ∀ u ∈ Kn.cells x, u.oneCell' = true := by
  intro u hu
  simp only [Kn.cells, List.mem_cons, List.not_mem_nil, or_false] at hu
  rcases hu with rfl | rfl | rfl <;> rfl
/-- The last step: the field is turned. -/
theorem RefAt.field {w0 w3 w6 : World} {B rb : Nat} {room : Int} {v v6 : Value} {L M : List Kn} (h : RefAt w3 B rb room v L) (h0 : Below w0.heap.size w0 w3) (hb : Below w3.heap.size w3 w6) (ho : w6.ownsRow w3.heap.size 66 3 v6 M.length (flatK M)) :
    RefAt (w6.setCell ⟨rb, 1, none⟩ v6) B rb room v6 M ∧ RFr rb v v6 w0 (w6.setCell ⟨rb, 1, none⟩ v6) := by
  have hrl : rb < w3.heap.size := size_of h.blk
  have hB : B ≤ w3.heap.size := Nat.le_trans h.lo (Nat.le_of_lt hrl)
  have hlo : ∀ g, v6.ownBlock = some g → w3.heap.size ≤ g := fun g hg => (ho.lt g hg).1
  have hne : ∀ g, v6.ownBlock = some g → g ≠ rb := fun g hg e => by have := hlo g hg; omega
  have hgr : w6.grownBy (w6.setCell ⟨rb, 1, none⟩ v6) (some rb) := ⟨rfl, rfl, rfl, by rw [World.size_setCell]; exact Nat.le_refl _, fun k _ hk => Below.heap_setCell _ _ _ _ (fun e => hk (by rw [e]))⟩
  refine ⟨⟨?_, ?_, hne, h.lo⟩, ⟨hb.os.trans h0.os, hb.tape.trans h0.tape, hb.output.trans h0.output, by rw [World.size_setCell]; exact Nat.le_trans h0.size hb.size, fun b hbl hb1 _ => ?_, .inr (fun g hg => Nat.le_trans h0.size (hlo g hg))⟩⟩
  · exact blk_set (blk_below' hb h.blk) 1 v6
  · have : w6.ownsRow B 66 3 v6 M.length (flatK M) := ⟨ho.1, ho.2.imp id fun ⟨g, cap, cur, h1, h2, h3⟩ => ⟨g, cap, cur, h1, Nat.le_trans hB h2, h3⟩⟩
    refine this.kept hgr ?_
    cases hv : v6.ownBlock with
    | none => exact .inl rfl
    | some g => exact .inr (fun e => hne g hv (Option.some.inj e))
  · rw [Below.heap_setCell _ _ _ _ (show b ≠ rb from hb1), hb.block b (Nat.lt_of_lt_of_le hbl h0.size)]
    exact h0.block b hbl
end Go.Proofs.Ytkofjejdgdhapaa
