/- ZtpSettles: the plain law. -/
import Derived.Test.YthdhodopmffdmaaZtI
namespace Go.Proofs.Ythdhodopmffdmaa
open Go.RowKit

theorem length_le_range : ∀ (n : Nat) (l : List Int), l.Nodup → (∀ x ∈ l, 0 ≤ x ∧ x < n) → l.length ≤ n
  | 0, l, _, h => by
    match l with
    | [] => simp
    | x :: l => have := h x (by simp); omega
  | n + 1, l, hn, h => by
    by_cases hm : (n : Int) ∈ l
    · have h1 := length_le_range n (l.erase (n : Int)) (hn.erase _) (fun x hx => by
        have h2 := (hn.mem_erase_iff).1 hx
        have h3 := h x h2.2
        have := h2.1
        omega)
      rw [List.length_erase_of_mem hm] at h1
      omega
    · exact Nat.le_succ_of_le (length_le_range n l hn (fun x hx => by
        have h3 := h x hx
        have : x ≠ n := fun e => hm (e ▸ hx)
        omega))
def okL (x : Int) : Prop := 1 ≤ x ∧ x ≤ 24
instance (x : Int) : Decidable (okL x) := inferInstanceAs (Decidable (_ ∧ _))
def bestV (l : List Int) : Int := l.foldl (fun n x => if okL x then max n x else n) 0
theorem bestV_snoc (l : List Int) (x : Int) : bestV (l ++ [x]) = if okL x then max (bestV l) x else bestV l := by
  simp [bestV, List.foldl_append]
theorem bestV_le : ∀ (l : List Int) (n : Int), 0 ≤ n → n ≤ 24 → 0 ≤ l.foldl (fun n x => if okL x then max n x else n) n ∧ l.foldl (fun n x => if okL x then max n x else n) n ≤ 24
  | [], n, h0, h1 => ⟨h0, h1⟩
  | x :: l, n, h0, h1 => by
    simp only [List.foldl_cons]
    by_cases h : okL x
    · rw [if_pos h]; unfold okL at h; exact bestV_le l _ (by omega) (by omega)
    · rw [if_neg h]; exact bestV_le l _ h0 h1
theorem foldV_mono : ∀ (l : List Int) (n : Int), n ≤ l.foldl (fun n x => if okL x then max n x else n) n
  | [], n => Int.le_refl _
  | x :: l, n => by
    simp only [List.foldl_cons]
    by_cases h : okL x
    · rw [if_pos h]; exact Int.le_trans (by omega) (foldV_mono l _)
    · rw [if_neg h]; exact foldV_mono l _
theorem foldV_ge : ∀ (l : List Int) (n x : Int), x ∈ l → okL x → x ≤ l.foldl (fun n x => if okL x then max n x else n) n
  | [], n, x, h, _ => by cases h
  | y :: l, n, x, h, ho => by
    simp only [List.foldl_cons]
    rcases List.mem_cons.1 h with rfl | h
    · rw [if_pos ho]; exact Int.le_trans (by omega) (foldV_mono l _)
    · exact foldV_ge l _ x h ho
theorem foldV_at : ∀ (l : List Int) (n : Int), l.foldl (fun n x => if okL x then max n x else n) n = n ∨ ∃ x ∈ l, okL x ∧ l.foldl (fun n x => if okL x then max n x else n) n = x
  | [], n => .inl rfl
  | y :: l, n => by
    simp only [List.foldl_cons]
    by_cases ho : okL y
    · rw [if_pos ho]
      rcases foldV_at l (max n y) with h | ⟨x, h1, h2, h3⟩
      · rw [h]
        by_cases hm : y ≤ n
        · exact .inl (by omega)
        · exact .inr ⟨y, by simp, ho, by omega⟩
      · exact .inr ⟨x, by simp [h1], h2, h3⟩
    · rw [if_neg ho]
      rcases foldV_at l n with h | ⟨x, h1, h2, h3⟩
      · exact .inl h
      · exact .inr ⟨x, by simp [h1], h2, h3⟩

/-- What every script leaves. -/
structure OwnZ (z : Zs) : Prop where
  fixed : z.fixed = -1
  leaf : z.leaf = false
  top : z.top = false
  lo : 0 ≤ z.taken
  hi : z.taken ≤ 24
def Good (p : Int × (Int × Int)) : Prop := 0 ≤ p.1 ∧ p.1 ≤ 31 ∧ 1 ≤ p.2.1 ∧ p.2.1 ≤ 24
theorem good_len {m : Offs} (hn : (m.map (·.1)).Nodup) (h : ∀ p ∈ m, Good p) : m.length ≤ 32 := by
  have := length_le_range 32 (m.map (·.1)) hn (fun x hx => by
    obtain ⟨p, hp, rfl⟩ := List.mem_map.1 hx
    have := h p hp
    unfold Good at this
    omega)
  simpa using this
theorem good_best {m : Offs} (h : ∀ p ∈ m, Good p) : 0 ≤ bestM m ∧ bestM m ≤ 24 := by
  refine ⟨bestM_nonneg m, ?_⟩
  rcases bestM_at m with h1 | ⟨q, hq, h1⟩
  · omega
  · have := h q hq
    unfold Good at this
    omega
theorem putM_mem {m : Offs} {k : Int} {x : Int × Int} {p : Int × (Int × Int)} : p ∈ putM m k x → p = (k, x) ∨ (p ∈ m ∧ p.1 ≠ k) := by
  intro h
  cases hg : getM m k with
  | none =>
    rw [putM_none hg] at h
    rcases List.mem_append.1 h with h | h
    · exact .inr ⟨h, getM_none.1 hg p h⟩
    · exact .inl (by simpa using h)
  | some y =>
    rw [putM_some hg] at h
    obtain ⟨q, hq, rfl⟩ := List.mem_map.1 h
    by_cases hk : q.1 = k
    · exact .inl (by simp [hk])
    · exact .inr ⟨by simp [hk, hq], by simp [hk]⟩
theorem putM_new {m : Offs} {k : Int} {x : Int × Int} : (k, x) ∈ putM m k x := by
  cases hg : getM m k with
  | none => rw [putM_none hg]; simp
  | some y =>
    rw [putM_some hg]
    have hm : ∃ p ∈ m, p.1 = k := by
      rcases Classical.em (∃ p ∈ m, p.1 = k) with h | h
      · exact h
      · have : getM m k = none := getM_none.2 fun p hp e => h ⟨p, hp, e⟩
        rw [hg] at this; cases this
    obtain ⟨p, hp, he⟩ := hm
    exact List.mem_map.2 ⟨p, hp, by simp [he]⟩
theorem putM_old {m : Offs} {k : Int} {x : Int × Int} {p : Int × (Int × Int)} (h : p ∈ m) (hk : p.1 ≠ k) : p ∈ putM m k x := by
  cases hg : getM m k with
  | none => rw [putM_none hg]; simp [h]
  | some y => rw [putM_some hg]; exact List.mem_map.2 ⟨p, h, by simp [hk]⟩
/-- An offer's outcome, where no one is turned away for want of room. -/
theorem offM_cases {m : Offs} (hn : (m.map (·.1)).Nodup) (h : ∀ p ∈ m, Good p) (link level now : Int) (none : Bool) :
    ((offM m link level none now).2 = m ∧ badO link level now = true) ∨ ((offM m link level none now).2 = delM m link ∧ badO link level now = false ∧ (level < 1 ∨ none = true)) ∨
    ((offM m link level none now).2 = putM m link (level, now + 4) ∧ badO link level now = false ∧ 1 ≤ level) := by
  have hl := good_len hn h
  unfold offM
  cases hb : badO link level now
  · rw [if_neg (by simp)]
    by_cases h1 : (decide (level < 1) || none) = true
    · rw [if_pos h1]; exact .inr (.inl ⟨rfl, rfl, by simpa using h1⟩)
    · rw [if_neg h1, if_neg (by simp; omega)]
      exact .inr (.inr ⟨rfl, rfl, by simp at h1; omega⟩)
  · rw [if_pos rfl]; exact .inl ⟨rfl, rfl⟩
theorem badO_le {link level now : Int} (h : badO link level now = false) : 0 ≤ link ∧ link ≤ 65535 ∧ -1 ≤ level ∧ level ≤ 24 ∧ 0 ≤ now ∧ now ≤ 1099511627776 := by
  obtain ⟨⟨h1, h2, h3, h4⟩, h5⟩ := badO_not h
  have := momB_le h5
  have := of_decide_eq_false h1
  have := of_decide_eq_false h2
  have := of_decide_eq_false h3
  have := of_decide_eq_false h4
  omega

/-! The script -/
structure Ph1 (now : Int) (z : Zs) (m : Offs) : Prop where
  own : OwnZ z
  until_ : z.until_ ≤ now + 3
  good : ∀ p ∈ m, Good p ∧ p.2.2 ≤ now + 4
theorem ph1_start {now : Int} (h : 0 ≤ now) : Ph1 now z0 [] := ⟨⟨rfl, rfl, rfl, by decide, by decide⟩, by show (0 : Int) ≤ _; omega, fun p hp => by cases hp⟩
theorem ph1_off {now : Int} {z : Zs} {m : Offs} (hn : (m.map (·.1)).Nodup) (h : Ph1 now z m) {link level t : Int} {none : Bool} (h0 : 0 ≤ link) (h1 : link ≤ 31) (ht : t ≤ now) : Ph1 now z (offM m link level none t).2 := by
  refine ⟨h.own, h.until_, fun p hp => ?_⟩
  rcases offM_cases hn (fun p hp => (h.good p hp).1) link level t none with ⟨e, _⟩ | ⟨e, _⟩ | ⟨e, hb, hl⟩
  · rw [e] at hp; exact h.good p hp
  · rw [e] at hp; exact h.good p (List.mem_filter.1 hp).1
  · rw [e] at hp
    have := badO_le hb
    rcases putM_mem hp with rfl | ⟨h2, _⟩
    · exact ⟨⟨h0, h1, hl, by show level ≤ 24; omega⟩, by show t + 4 ≤ _; omega⟩
    · exact h.good p h2
theorem tickZ_own {z : Zs} {best now : Int} (h : OwnZ z) (h0 : 0 ≤ best) (h1 : best ≤ 24) : OwnZ (tickZ z best now) := by
  obtain ⟨a, b, c, d, e⟩ := h
  unfold tickZ
  refine ⟨?_, ?_, ?_, ?_, ?_⟩ <;> (dsimp only; (repeat' split) <;> (first | assumption | (show (0 : Int) ≤ 0; omega) | (show (0 : Int) ≤ 24; omega)))
theorem tickZ_until {z : Zs} {best now u : Int} (h : z.until_ ≤ u) (hu : now + 3 ≤ u) : (tickZ z best now).until_ ≤ u := by
  unfold tickZ
  dsimp only
  (repeat' split) <;> assumption
theorem ph1_tick {now : Int} {z : Zs} {m : Offs} (h : Ph1 now z m) {t : Int} (ht : t ≤ now) : Ph1 now (tickS z m t).1 (tickS z m t).2 := by
  unfold tickS
  split
  · have hg : ∀ p ∈ liveM m t, Good p ∧ p.2.2 ≤ now + 4 := fun p hp => h.good p (List.mem_filter.1 hp).1
    have hb := good_best (fun p hp => (hg p hp).1)
    exact ⟨tickZ_own h.own hb.1 hb.2, tickZ_until h.until_ (by omega), hg⟩
  · exact h
end Go.Proofs.Ythdhodopmffdmaa
