/- ZtpSettles: the plain law's second half: twelve rounds. -/
import Derived.Test.YthdhodopmffdmaaZtM
namespace Go.Proofs.Ythdhodopmffdmaa
open Go.RowKit

/-- The offers within round k, once the first i levels are offered. -/
structure Rnd (now : Int) (l : List Int) (k i : Nat) (m : Offs) : Prop where
  good : ∀ p ∈ m, Good p ∧ (p.2.2 ≤ now + 4 ∨ (p.2.1 ∈ l ∧ okL p.2.1))
  here : ∀ j, j < i → ∀ x, l[j]? = some x → okL x → ∃ p ∈ m, p.1 = j ∧ p.2.1 = x ∧ p.2.2 = now + k + 4
theorem rnd_off {now : Int} {l : List Int} {k i : Nat} {m : Offs} {x : Int} (hn : (m.map (·.1)).Nodup) (h : Rnd now l k i m) (hi : l[i]? = some x) (hl : l.length ≤ 30) (h0 : 0 ≤ now) (h1 : now ≤ 549755813888) (hk : k < 12) :
    Rnd now l k (i + 1) (offM m i x false (now + k)).2 := by
  have hil : i < l.length := (List.getElem?_eq_some_iff.1 hi).1
  have hxl : x ∈ l := List.mem_of_getElem? hi
  rcases offM_cases hn (fun p hp => (h.good p hp).1) i x (now + k) false with ⟨e, hb⟩ | ⟨e, hb, hx⟩ | ⟨e, hb, hx⟩
  · rw [e]
    refine ⟨h.good, fun j hj y hy ho => ?_⟩
    by_cases hji : j = i
    · subst hji
      rw [hi] at hy
      obtain rfl := Option.some.inj hy
      unfold okL at ho
      rw [badO_false (by omega) (by omega) (by omega) (by omega) (by omega) (by omega)] at hb
      cases hb
    · exact h.here j (by omega) y hy ho
  · rw [e]
    refine ⟨fun p hp => h.good p (List.mem_filter.1 hp).1, fun j hj y hy ho => ?_⟩
    by_cases hji : j = i
    · subst hji
      rw [hi] at hy
      obtain rfl := Option.some.inj hy
      unfold okL at ho
      rcases hx with hx | hx
      · omega
      · cases hx
    · obtain ⟨p, hp, h2, h3, h4⟩ := h.here j (by omega) y hy ho
      exact ⟨p, List.mem_filter.2 ⟨hp, by simp [h2]; omega⟩, h2, h3, h4⟩
  · rw [e]
    have hle := badO_le hb
    have hok : okL x := ⟨hx, hle.2.2.2.1⟩
    refine ⟨fun p hp => ?_, fun j hj y hy ho => ?_⟩
    · rcases putM_mem hp with rfl | ⟨hp, _⟩
      · exact ⟨⟨by show (0 : Int) ≤ i; omega, by show (i : Int) ≤ 31; omega, hx, hle.2.2.2.1⟩, .inr ⟨hxl, hok⟩⟩
      · exact h.good p hp
    · by_cases hji : j = i
      · subst hji
        rw [hi] at hy
        obtain rfl := Option.some.inj hy
        exact ⟨_, putM_new, rfl, rfl, rfl⟩
      · obtain ⟨p, hp, h2, h3, h4⟩ := h.here j (by omega) y hy ho
        exact ⟨p, putM_old hp (by rw [h2]; omega), h2, h3, h4⟩
theorem rnd_next {now : Int} {l : List Int} {k i : Nat} {m : Offs} {t : Int} (h : Rnd now l k i m) : Rnd now l (k + 1) 0 (liveM m t) :=
  ⟨fun p hp => h.good p (List.mem_filter.1 hp).1, fun j hj => by omega⟩
theorem rnd_best {now : Int} {l : List Int} {k : Nat} {m : Offs} (h : Rnd now l k l.length m) (hk : 4 ≤ k) : bestM (liveM m (now + k)) = bestV l := by
  refine Int.le_antisymm ?_ ?_
  · rcases bestM_at (liveM m (now + k)) with h1 | ⟨q, hq, h1⟩
    · rw [h1]; exact (bestV_le l 0 (by decide) (by decide)).1
    · rw [← h1]
      obtain ⟨hq1, hq2⟩ := List.mem_filter.1 hq
      have hq3 := of_decide_eq_true hq2
      rcases (h.good q hq1).2 with h2 | ⟨h2, h3⟩
      · omega
      · exact foldV_ge l 0 _ h2 h3
  · rcases foldV_at l 0 with h1 | ⟨x, h1, h2, h3⟩
    · have : bestV l = 0 := h1
      rw [this]; exact bestM_nonneg _
    · have : bestV l = x := h3
      rw [this]
      obtain ⟨j, hj⟩ := List.mem_iff_getElem?.1 h1
      obtain ⟨p, hp, _, h4, h5⟩ := h.here j (List.getElem?_eq_some_iff.1 hj).1 x hj h2
      rw [← h4]
      exact bestM_ge (List.mem_filter.2 ⟨hp, by simp; omega⟩)
/-- The node, once k rounds are done. -/
structure Rz (now b : Int) (k : Nat) (z : Zs) : Prop where
  own : OwnZ z
  early : k ≤ 4 → z.until_ ≤ now + 6
  late : 5 ≤ k → (z.held = false ∧ z.taken = b) ∨ (k < 8 ∧ z.held = true ∧ z.until_ ≤ now + 7 ∧ z.taken ≤ b)
theorem rz_early {now b n : Int} {k : Nat} {z : Zs} (h : Rz now b k z) (hk : k < 4) (h0 : 0 ≤ n) (h1 : n ≤ 24) : Rz now b (k + 1) (tickZ z n (now + k)) :=
  ⟨tickZ_own h.own h0 h1, fun _ => tickZ_until (h.early (by omega)) (by omega), fun h => by omega⟩
theorem rz_late {now b : Int} {k : Nat} {z : Zs} (h : Rz now b k z) (hk : 4 ≤ k) (h0 : 0 ≤ b) (h1 : b ≤ 24) : Rz now b (k + 1) (tickZ z b (now + k)) := by
  refine ⟨tickZ_own h.own h0 h1, fun h => by omega, fun _ => ?_⟩
  have hst : (z.held = false ∧ (k = 4 ∨ z.taken = b)) ∨ (z.held = true ∧ k < 8 ∧ z.until_ ≤ now + 7 ∧ (k = 4 → z.until_ ≤ now + 6) ∧ (k = 4 ∨ z.taken ≤ b)) := by
    by_cases h4 : k = 4
    · cases hh : z.held
      · exact .inl ⟨rfl, .inl h4⟩
      · have := h.early (by omega)
        exact .inr ⟨rfl, by omega, by omega, fun _ => this, .inl h4⟩
    · rcases h.late (by omega) with ⟨h2, h3⟩ | ⟨h2, h3, h4, h5⟩
      · exact .inl ⟨h2, .inr h3⟩
      · exact .inr ⟨h3, h2, h4, fun h => by omega, .inr h5⟩
  unfold tickZ
  rcases hst with ⟨hh, ht⟩ | ⟨hh, hk8, hu, hu4, ht⟩
  · rcases Int.lt_trichotomy z.taken b with hlt | hlt | hlt
    · simp [hh, hlt]
    · simp [hh, hlt]
    · have h2 : ¬ z.taken < b := by omega
      have h3 : ¬ now + (k : Int) + 3 ≤ now + k := by omega
      rcases ht with ht | ht
      · simp [h2, hlt, h3]; omega
      · omega
  · have e1 : (decide (z.taken < b) && !z.held) = false := by simp [hh]
    by_cases hlt : b < z.taken
    · have h3 : ¬ now + (k : Int) + 3 ≤ now + k := by omega
      have hk4 : k = 4 := by rcases ht with ht | ht <;> omega
      simp [e1, hlt, h3]; omega
    · by_cases hun : z.until_ ≤ now + k
      · simp [hh, hlt, hun]
      · simp [hh, hlt, hun]; omega
theorem rz_fin {now b : Int} {z : Zs} (h : Rz now b 12 z) : z.taken = b := by
  rcases h.late (by decide) with h | h
  · exact h.2
  · omega
theorem rz_start {now b : Int} {z : Zs} {m : Offs} (h : Ph1 now z m) : Rz now b 0 z := ⟨h.own, fun _ => by have := h.until_; omega, fun h => by omega⟩
theorem rnd_start {now : Int} {l : List Int} {z : Zs} {m : Offs} (h : Ph1 now z m) : Rnd now l 0 0 m := ⟨fun p hp => ⟨(h.good p hp).1, .inl (h.good p hp).2⟩, fun j hj => by omega⟩
/-- One round. -/
def RndB (now : Int) (l : List Int) (k : Nat) (z : Zs) (m : Offs) : Prop := Rnd now l k 0 m ∧ Rz now (bestV l) k z ∧ (5 ≤ k → bestM m = bestV l)
theorem rnd_tick {now : Int} {l : List Int} {k : Nat} {z : Zs} {m : Offs} (h : Rnd now l k l.length m) (hz : Rz now (bestV l) k z) (h0 : 0 ≤ now) (h1 : now ≤ 549755813888) (hk : k < 12) :
    RndB now l (k + 1) (tickS z m (now + k)).1 (tickS z m (now + k)).2 := by
  rw [tickS_eq (by omega) (by omega)]
  have hb := bestV_le l 0 (by decide) (by decide)
  refine ⟨rnd_next h, ?_, fun h5 => rnd_best h (by omega)⟩
  by_cases h4 : 4 ≤ k
  · show Rz _ _ _ (tickZ z (bestM (liveM m (now + k))) (now + k))
    rw [rnd_best h h4]
    exact rz_late hz h4 hb.1 hb.2
  · have hg := good_best (m := liveM m (now + k)) (fun p hp => (h.good p (List.mem_filter.1 hp).1).1)
    exact rz_early hz (by omega) hg.1 hg.2
theorem own_lev {z : Zs} (h : OwnZ z) : levelI z = z.taken - 1 := levelI_own (by rw [h.fixed]; decide) h.leaf h.top h.lo (by have := h.hi; omega)
end Go.Proofs.Ythdhodopmffdmaa
