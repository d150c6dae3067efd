/- The plain law: the tree's nets and the reference's list are the same. -/
import Derived.Test.YtkofjejdgdhapaaLqF
import Derived.Test.YtkofjejdgdhapaaLqH
import Derived.Test.YtkofjejdgdhapaaLqI
namespace Go.Proofs.Ytkofjejdgdhapaa
open Go.RowKit

def ltK (p q : Nat × Int) : Prop := p.1 < q.1 ∨ (p.1 = q.1 ∧ p.2 < q.2)
theorem cmpK_lt {p q : Nat × Int} : cmpK p q < 0 ↔ ltK p q := by
  unfold cmpK ltK
  split
  · omega
  · split
    · omega
    · split
      · omega
      · split <;> omega
theorem cmpK_eq {p q : Nat × Int} : cmpK p q = 0 ↔ p = q := by
  constructor
  · exact cmpK_zero
  · rintro rfl
    unfold cmpK
    rw [if_neg (by omega), if_neg (by omega), if_neg (by omega), if_neg (by omega)]
theorem cmpK_gt {p q : Nat × Int} : 0 < cmpK p q ↔ ltK q p := by
  unfold cmpK ltK
  split
  · omega
  · split
    · omega
    · split
      · omega
      · split <;> omega
theorem ltK_trans {p q r : Nat × Int} (h : ltK p q) (k : ltK q r) : ltK p r := by unfold ltK at *; omega
theorem ltK_ne {p q : Nat × Int} (h : ltK p q) : p ≠ q := fun e => by subst e; unfold ltK at h; omega
def SortedK (L : List Kn) : Prop := L.Pairwise (fun x y => ltK x.key y.key)
def lookK (L : List Kn) (q : Nat × Int) : Option Int := (L.find? (fun x => x.key == q)).map (·.n)
theorem lookK_cons {x : Kn} {l : List Kn} {q : Nat × Int} : lookK (x :: l) q = if x.key = q then some x.n else lookK l q := by
  unfold lookK
  by_cases h : x.key = q
  · simp [h]
  · rw [List.find?_cons_of_neg (by simpa using h), if_neg h]
theorem lookK_none {L : List Kn} {q : Nat × Int} : lookK L q = none ↔ ∀ x ∈ L, x.key ≠ q := by
  unfold lookK
  simp only [Option.map_eq_none_iff, List.find?_eq_none, beq_iff_eq]
theorem lookK_mem {L : List Kn} {q : Nat × Int} {n : Int} (h : lookK L q = some n) : ∃ x ∈ L, x.key = q ∧ x.n = n := by
  unfold lookK at h
  cases hf : L.find? (fun x => x.key == q) with
  | none => rw [hf] at h; simp at h
  | some x =>
    rw [hf] at h
    simp at h
    have h1 := List.find?_some hf
    simp at h1
    exact ⟨x, List.mem_of_find?_eq_some hf, h1, h⟩
theorem lookK_of {L : List Kn} (hs : SortedK L) {x : Kn} (hx : x ∈ L) : lookK L x.key = some x.n := by
  induction L with
  | nil => simp at hx
  | cons y l ih =>
    rw [lookK_cons]
    obtain ⟨h1, h2⟩ := List.pairwise_cons.1 hs
    rcases List.mem_cons.1 hx with rfl | hx
    · rw [if_pos rfl]
    · rw [if_neg (ltK_ne (h1 x hx)), ih h2 hx]
theorem getK_look {L : List Kn} (hs : SortedK L) (q : Nat × Int) : getK L q = lookK L q ∧ (placeL L q).2 = (lookK L q).isSome := by
  induction L with
  | nil => exact ⟨rfl, rfl⟩
  | cons y l ih =>
    obtain ⟨h1, h2⟩ := List.pairwise_cons.1 hs
    have ih := ih h2
    rw [lookK_cons]
    by_cases hc : 0 ≤ cmpK y.key q
    · by_cases h0 : cmpK y.key q = 0
      · rw [if_pos (cmpK_eq.1 h0)]
        simp [getK, placeL, h0]
      · have hgt : ltK q y.key := cmpK_gt.1 (by omega)
        have hno : lookK l q = none := lookK_none.2 fun x hx e => ltK_ne (ltK_trans hgt (h1 x hx)) e.symm
        rw [if_neg (fun e => ltK_ne hgt e.symm), hno]
        simp [getK, placeL, hc, h0]
    · have hne : y.key ≠ q := fun e => hc (by rw [cmpK_eq.2 e]; exact Int.le_refl _)
      rw [if_neg hne, ← ih.2, ← ih.1]
      simp [getK, placeL, hc]
theorem putK_cons {y x : Kn} {l : List Kn} : putK (y :: l) x = if 0 ≤ cmpK y.key x.key then (if cmpK y.key x.key = 0 then x :: l else x :: y :: l) else y :: putK l x := by
  by_cases hc : 0 ≤ cmpK y.key x.key
  · rw [if_pos hc]
    by_cases h0 : cmpK y.key x.key = 0
    · simp [putK, placeL, h0]
    · simp [putK, placeL, hc, h0]
  · rw [if_neg hc]
    by_cases hp : (placeL l x.key).2 = true
    · simp [putK, placeL, hc, hp]
    · simp [putK, placeL, hc, hp]
theorem dropK_cons {y : Kn} {q : Nat × Int} {l : List Kn} : dropK (y :: l) q = if 0 ≤ cmpK y.key q then (if cmpK y.key q = 0 then l else y :: l) else y :: dropK l q := by
  by_cases hc : 0 ≤ cmpK y.key q
  · rw [if_pos hc]
    by_cases h0 : cmpK y.key q = 0
    · simp [dropK, placeL, h0]
    · simp [dropK, placeL, hc, h0]
  · rw [if_neg hc]
    by_cases hp : (placeL l q).2 = true
    · simp [dropK, placeL, hc, hp]
    · simp [dropK, placeL, hc, hp]
theorem putK_mem {x z : Kn} : ∀ {L : List Kn}, z ∈ putK L x → z = x ∨ z ∈ L
  | [], h => by simp [putK, placeL] at h; exact .inl h
  | y :: l, h => by
    rw [putK_cons] at h
    split at h
    · split at h
      · rcases List.mem_cons.1 h with e | e
        · exact .inl e
        · exact .inr (List.mem_cons_of_mem _ e)
      · rcases List.mem_cons.1 h with e | e
        · exact .inl e
        · exact .inr e
    · rcases List.mem_cons.1 h with e | e
      · exact .inr (by rw [e]; exact List.mem_cons_self)
      · rcases putK_mem e with e | e
        · exact .inl e
        · exact .inr (List.mem_cons_of_mem _ e)
theorem putK_sorted {x : Kn} {L : List Kn} (hs : SortedK L) : SortedK (putK L x) := by
  induction L with
  | nil => simp [putK, placeL, SortedK]
  | cons y l ih =>
    obtain ⟨h1, h2⟩ := List.pairwise_cons.1 hs
    rw [putK_cons]
    split
    · rename_i hc
      split
      · rename_i h0
        have e := cmpK_eq.1 h0
        exact List.pairwise_cons.2 ⟨fun z hz => by rw [← e]; exact h1 z hz, h2⟩
      · rename_i h0
        have hgt : ltK x.key y.key := cmpK_gt.1 (by omega)
        refine List.pairwise_cons.2 ⟨fun z hz => ?_, hs⟩
        rcases List.mem_cons.1 hz with rfl | hz
        · exact hgt
        · exact ltK_trans hgt (h1 z hz)
    · rename_i hc
      refine List.pairwise_cons.2 ⟨fun z hz => ?_, ih h2⟩
      rcases putK_mem hz with rfl | hz
      · exact cmpK_lt.1 (by omega)
      · exact h1 z hz
theorem putK_look {x : Kn} {q : Nat × Int} {L : List Kn} (hs : SortedK L) : lookK (putK L x) q = if x.key = q then some x.n else lookK L q := by
  induction L with
  | nil =>
    have e : putK [] x = [x] := by simp [putK, placeL]
    rw [e, lookK_cons]
  | cons y l ih =>
    obtain ⟨h1, h2⟩ := List.pairwise_cons.1 hs
    rw [putK_cons]
    split
    · split
      · rename_i h0
        have e := cmpK_eq.1 h0
        rw [lookK_cons, lookK_cons, e]
        split <;> rfl
      · rw [lookK_cons]
    · rename_i hc
      rw [lookK_cons, ih h2, lookK_cons]
      by_cases e : y.key = q
      · have : x.key ≠ q := fun e2 => hc (by rw [cmpK_eq.2 (e.trans e2.symm)]; exact Int.le_refl _)
        rw [if_pos e, if_neg this, if_pos e]
      · rw [if_neg e, if_neg e]
theorem putK_len {x : Kn} {L : List Kn} : (putK L x).length = if (placeL L x.key).2 then L.length else L.length + 1 := by
  have := placeL_le (q := x.key) L
  unfold putK
  split
  · simp
  · simp; omega
theorem dropK_mem {q : Nat × Int} {z : Kn} : ∀ {L : List Kn}, z ∈ dropK L q → z ∈ L
  | [], h => by simp [dropK, placeL] at h
  | y :: l, h => by
    rw [dropK_cons] at h
    split at h
    · split at h
      · exact List.mem_cons_of_mem _ h
      · exact h
    · rcases List.mem_cons.1 h with e | e
      · rw [e]; exact List.mem_cons_self
      · exact List.mem_cons_of_mem _ (dropK_mem e)
theorem dropK_sorted {q : Nat × Int} {L : List Kn} (hs : SortedK L) : SortedK (dropK L q) := by
  induction L with
  | nil => simp [dropK, placeL, SortedK]
  | cons y l ih =>
    obtain ⟨h1, h2⟩ := List.pairwise_cons.1 hs
    rw [dropK_cons]
    split
    · split
      · exact h2
      · exact hs
    · exact List.pairwise_cons.2 ⟨fun z hz => h1 z (dropK_mem hz), ih h2⟩
theorem dropK_look {q q' : Nat × Int} {L : List Kn} (hs : SortedK L) : lookK (dropK L q) q' = if q = q' then none else lookK L q' := by
  induction L with
  | nil => simp [dropK, placeL, lookK]
  | cons y l ih =>
    obtain ⟨h1, h2⟩ := List.pairwise_cons.1 hs
    rw [dropK_cons]
    split
    · rename_i hc
      split
      · rename_i h0
        have e := cmpK_eq.1 h0
        rw [lookK_cons, e]
        split
        · rename_i e2
          exact lookK_none.2 fun x hx e3 => ltK_ne (h1 x hx) (by rw [e, e2, e3])
        · rfl
      · rename_i h0
        have hgt : ltK q y.key := cmpK_gt.1 (by omega)
        split
        · rename_i e2
          subst e2
          refine lookK_none.2 fun x hx e3 => ?_
          rcases List.mem_cons.1 hx with rfl | hx
          · exact ltK_ne hgt e3.symm
          · exact ltK_ne (ltK_trans hgt (h1 x hx)) e3.symm
        · rfl
    · rename_i hc
      rw [lookK_cons, ih h2, lookK_cons]
      by_cases e : y.key = q'
      · have : q ≠ q' := fun e2 => hc (by rw [cmpK_eq.2 (e.trans e2.symm)]; exact Int.le_refl _)
        rw [if_pos e, if_neg this, if_pos e]
      · rw [if_neg e, if_neg e]
theorem dropK_len {q : Nat × Int} {L : List Kn} : (dropK L q).length = if (placeL L q).2 then L.length - 1 else L.length := by
  unfold dropK
  split
  · rename_i h
    obtain ⟨x, hx, _⟩ := placeL_bound h
    have := (List.getElem?_eq_some_iff.1 hx).1
    simp; omega
  · rfl
end Go.Proofs.Ytkofjejdgdhapaa
