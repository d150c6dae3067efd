/- Best: the highest level that is offered. -/
import Derived.Test.YthdhodopmffdmaaZtA
namespace Go.Proofs.Ythdhodopmffdmaa
open Go.RowKit

abbrev Offs := List (Int × (Int × Int))
def bestM (m : Offs) : Int := m.foldr (fun p n => max p.2.1 n) 0
def IsBest (m : Offs) (p : Int × (Int × Int) → Prop) (n : Int) : Prop := 0 ≤ n ∧ (∀ q ∈ m, p q → q.2.1 ≤ n) ∧ (n = 0 ∨ ∃ q ∈ m, q.2.1 = n)
theorem bestM_nonneg (m : Offs) : 0 ≤ bestM m := by
  induction m with
  | nil => exact Int.le_refl _
  | cons p m ih => simp only [bestM, List.foldr_cons] at *; omega
theorem bestM_ge {m : Offs} {q : Int × (Int × Int)} (h : q ∈ m) : q.2.1 ≤ bestM m := by
  induction m with
  | nil => cases h
  | cons p m ih =>
    simp only [bestM, List.foldr_cons] at *
    rcases List.mem_cons.1 h with rfl | h
    · omega
    · have := ih h; omega
theorem bestM_at (m : Offs) : bestM m = 0 ∨ ∃ q ∈ m, q.2.1 = bestM m := by
  induction m with
  | nil => exact .inl rfl
  | cons p m ih =>
    have e : bestM (p :: m) = max p.2.1 (bestM m) := rfl
    rw [e]
    by_cases h : p.2.1 ≤ bestM m
    · rw [Int.max_eq_right h]
      rcases ih with h1 | ⟨q, hq, h1⟩
      · exact .inl h1
      · exact .inr ⟨q, by simp [hq], h1⟩
    · rw [Int.max_eq_left (by omega)]
      exact .inr ⟨p, by simp, rfl⟩
theorem IsBest.eq {m : Offs} {p : Int × (Int × Int) → Prop} {n : Int} (h : IsBest m p n) (hp : ∀ q ∈ m, p q) : n = bestM m := by
  obtain ⟨h0, h1, h2⟩ := h
  have hb := bestM_nonneg m
  have hle : bestM m ≤ n := by
    rcases bestM_at m with h | ⟨q, hq, h⟩
    · omega
    · have := h1 q hq (hp q hq); omega
  rcases h2 with h2 | ⟨q, hq, h2⟩
  · omega
  · have := bestM_ge hq; omega

def BestInv (w : World) (mb : Nat) (m : Offs) (g : Nat) (n : Int) (wr : World) : Prop :=
  ∃ done, Ranging wr w.heap.size mb offE m done ∧ leftM m done < g ∧ Below w.heap.size w wr ∧ IsBest m (fun q => done q.1 = true) n
theorem mem_key {m : Offs} (hn : (m.map (·.1)).Nodup) {k : Int} {x : Int × Int} (h : (k, x) ∈ m) {q : Int × (Int × Int)} (hq : q ∈ m) (e : q.1 = k) : q = (k, x) := by
  obtain ⟨i, hi⟩ := List.mem_iff_getElem?.1 h
  obtain ⟨j, hj⟩ := List.mem_iff_getElem?.1 hq
  have : i = j := nodup_index hn hi hj (by rw [e])
  subst this
  rw [hi] at hj
  exact (Option.some.inj hj).symm

theorem BestInv.next {w w2 : World} {mb : Nat} {m : Offs} {done : Int → Bool} {n n' k : Int} {x : Int × Int} {o : Obj} (hn : (m.map (·.1)).Nodup) (hb : IsBest m (fun q => done q.1 = true) n) (hm : (k, x) ∈ m) (hr : Ranging w2 w.heap.size mb offE m (fun j => done j || j == k)) (hB : Below w.heap.size w w2) (h1 : n ≤ n') (h2 : x.1 ≤ n') (h3 : n' = n ∨ n' = x.1) : BestInv w mb m (leftM m (fun j => done j || j == k) + 1) n' (w2.alloc o) := by
  refine ⟨_, hr.of_blk (Below.heap_alloc _ _ _ hr.at.lt) (Below.heap_alloc _ _ _ hr.lt), Nat.lt_succ_self _, hB.alloc hB.size _, ?_, fun q hq hd => ?_, ?_⟩
  · have := hb.1; omega
  · simp only [Bool.or_eq_true, beq_iff_eq] at hd
    rcases hd with hd | hd
    · have := hb.2.1 q hq hd; omega
    · rw [mem_key hn hm hq hd]; exact h2
  · rcases h3 with rfl | rfl
    · exact hb.2.2
    · exact .inr ⟨_, hm, rfl⟩

def Bounded (m : Offs) : Prop := ∀ q ∈ m, 0 ≤ q.2.1 ∧ q.2.1 ≤ 24

theorem best_calls (zb mb : Nat) (z : Zs) (m : Offs) (w : World) (h : ZAt w zb mb z m) : Calls Try.prog 18 #[.pointer (some ⟨zb, 0, none⟩)] w fun e w' => e = .returned (.int .i64 (bestM m)) ∧ Below w.heap.size w w' := by
  have k1 := cells_all h.1
  simp only [CellsAt, Nat.reduceAdd, and_true] at k1
  obtain ⟨c0, c1, c2, c3, c4, c5, c6⟩ := k1
  have HM := Lib.hid h.2
  clear h
  go_enter Try.func18, Try.ntmps18
  go_wp2_with (refine wpList_rangeM rfl (.tmp 9) 44 rfl 3 51 Try.underlying44 rfl HM.out ?_)
  intro w1 hr1 hb1 hz1
  have HI : Hid (BestInv w mb m (leftM m (fun _ => false) + 1) 0 w1) := ⟨_, hr1, by omega, hb1, Int.le_refl _, fun q _ hq => by simp at hq, .inl rfl⟩
  clear hr1 hb1 hz1
  go_wp2_with fail
  go_loopg [3] (leftM m (fun _ => false) + 1) (fun g v wr => ∃ n : Int, v = .int .i64 n ∧ Hid (BestInv w mb m g n wr))
  case atStart => exact ⟨0, rfl, HI⟩
  case round =>
    clear HI
    obtain ⟨n, rfl, HI⟩ := hrel
    obtain ⟨done, hr, hg, hb, hbest⟩ := HI.out
    have HR := Lib.hid hr
    have HG := Lib.hid hg
    have HB := Lib.hid hb
    have HN := Lib.hid hbest
    clear hr hg hb hbest
    go_wp2_with (refine wpList_nextM rfl (.tmp 10) rfl rfl HR.out ?_ ?_; (intro hd; have HD := Lib.hid hd; clear hd); rotate_left; (intro k x w2 hm hdk hr2 hg2 hz2 hen; have HM2 := Lib.hid hm; have HK2 := Lib.hid hdk; have HR2 := Lib.hid hr2; have HB2 := Lib.hid (HB.out.grown hg2 HB.out.size (fun j hj => by cases hj; exact Nat.le_refl _)); clear hm hdk hr2 hg2 hz2; unfold offE at hen ⊢); rotate_left)
    · go_ret
      exact ⟨ret_i (HN.out.eq HD.out), HB.out⟩
    · have h1 : n < x.1 := by assumption
      go_roundg (leftM m (fun j => done j || j == k) + 1)
      case measure => have := leftM_next HM2.out HK2.out; have := HG.out; omega
      case rel => exact ⟨x.1, rfl, BestInv.next HM.out.nd HN.out HM2.out HR2.out HB2.out (by omega) (Int.le_refl _) (.inr rfl)⟩
    · have h1 : x.1 ≤ n := by assumption
      go_roundg (leftM m (fun j => done j || j == k) + 1)
      case measure => have := leftM_next HM2.out HK2.out; have := HG.out; omega
      case rel => exact ⟨n, rfl, BestInv.next HM.out.nd HN.out HM2.out HR2.out HB2.out (Int.le_refl _) h1 (.inl rfl)⟩
end Go.Proofs.Ythdhodopmffdmaa
