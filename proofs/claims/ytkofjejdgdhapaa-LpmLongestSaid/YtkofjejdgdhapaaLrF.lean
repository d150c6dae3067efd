/- The plain law: All is the reference's list. -/
import Derived.Test.YtkofjejdgdhapaaLrE
namespace Go.Proofs.Ytkofjejdgdhapaa
open Go.RowKit

def ltP (x y : Pf) : Prop := x.1 < y.1 ∨ (x.1 = y.1 ∧ x.2 < y.2)
theorem ltP_trans {x y z : Pf} (h : ltP x y) (k : ltP y z) : ltP x z := by unfold ltP at *; omega
theorem ltP_irr {x : Pf} : ¬ ltP x x := by unfold ltP; omega
theorem sorted_ext : ∀ {A B : List Pf}, A.Pairwise ltP → B.Pairwise ltP → (∀ x, x ∈ A ↔ x ∈ B) → A = B
  | [], [], _, _, _ => rfl
  | [], b :: B, _, _, h => by have := (h b).2 List.mem_cons_self; simp at this
  | a :: A, [], _, _, h => by have := (h a).1 List.mem_cons_self; simp at this
  | a :: A, b :: B, hA, hB, h => by
    obtain ⟨a1, a2⟩ := List.pairwise_cons.1 hA
    obtain ⟨b1, b2⟩ := List.pairwise_cons.1 hB
    have hab : a = b := by
      rcases List.mem_cons.1 ((h a).1 List.mem_cons_self) with e | e
      · exact e
      · rcases List.mem_cons.1 ((h b).2 List.mem_cons_self) with e2 | e2
        · exact e2.symm
        · exact absurd (ltP_trans (b1 a e) (a1 b e2)) ltP_irr
    subst hab
    congr 1
    refine sorted_ext a2 b2 fun x => ⟨fun hx => ?_, fun hx => ?_⟩
    · rcases List.mem_cons.1 ((h x).1 (List.mem_cons_of_mem _ hx)) with e | e
      · subst e; exact absurd (a1 x hx) ltP_irr
      · exact e
    · rcases List.mem_cons.1 ((h x).2 (List.mem_cons_of_mem _ hx)) with e | e
      · subst e; exact absurd (b1 x hx) ltP_irr
      · exact e
theorem pow_facts {k v : Nat} (hk : k < 32) : v * 2 ^ (32 - k) = 2 * (v * 2 ^ (32 - (k + 1))) ∧ (v + 1) * 2 ^ (32 - k) = 2 * (v * 2 ^ (32 - (k + 1))) + 2 * 2 ^ (32 - (k + 1)) ∧ 2 * v * 2 ^ (32 - (k + 1)) = 2 * (v * 2 ^ (32 - (k + 1))) ∧ (2 * v + 1) * 2 ^ (32 - (k + 1)) = 2 * (v * 2 ^ (32 - (k + 1))) + 2 ^ (32 - (k + 1)) ∧ (2 * v + 1 + 1) * 2 ^ (32 - (k + 1)) = 2 * (v * 2 ^ (32 - (k + 1))) + 2 * 2 ^ (32 - (k + 1)) := by
  have e : 2 ^ (32 - k) = 2 * 2 ^ (32 - (k + 1)) := by rw [show 32 - k = (32 - (k + 1)) + 1 by omega, Nat.pow_succ, Nat.mul_comm]
  rw [e]
  generalize 2 ^ (32 - (k + 1)) = P
  refine ⟨?_, ?_, ?_, ?_, ?_⟩
  · rw [← Nat.mul_assoc, Nat.mul_comm v 2, Nat.mul_assoc]
  · rw [Nat.add_mul, Nat.one_mul, ← Nat.mul_assoc, Nat.mul_comm v 2, Nat.mul_assoc]
  · rw [Nat.mul_assoc]
  · rw [Nat.add_mul, Nat.one_mul, Nat.mul_assoc]
  · rw [Nat.add_mul, Nat.add_mul, Nat.one_mul, Nat.mul_assoc]; omega
theorem under_range {l : Nets} : ∀ {f k v : Nat}, k + f = 33 → ∀ {x : Pf}, x ∈ underN l f k v → v * 2 ^ (32 - k) ≤ x.1 ∧ x.1 < (v + 1) * 2 ^ (32 - k) ∧ k ≤ x.2
  | 0, k, v, hk, x, hx => by simp [underN] at hx
  | f + 1, k, v, hk, x, hx => by
    have hp : 0 < 2 ^ (32 - k) := Nat.two_pow_pos _
    rw [underN, List.mem_append, List.mem_append] at hx
    rcases hx with (hx | hx) | hx
    · split at hx
      · simp at hx
        subst hx
        rw [Nat.add_mul, Nat.one_mul]
        simp only
        omega
      · simp at hx
    · by_cases h32 : k < 32
      · obtain ⟨a1, a2, a3⟩ := under_range (by omega) hx
        obtain ⟨p1, p2, p3, p4, p5⟩ := pow_facts (v := v) h32
        omega
      · have : f = 0 := by omega
        subst this
        simp [underN] at hx
    · by_cases h32 : k < 32
      · obtain ⟨a1, a2, a3⟩ := under_range (by omega) hx
        obtain ⟨p1, p2, p3, p4, p5⟩ := pow_facts (v := v) h32
        omega
      · have : f = 0 := by omega
        subst this
        simp [underN] at hx
theorem under_sorted {l : Nets} : ∀ {f k v : Nat}, k + f = 33 → (underN l f k v).Pairwise ltP
  | 0, _, _, _ => by simp [underN]
  | f + 1, k, v, hk => by
    by_cases h32 : k < 32
    · obtain ⟨p1, p2, p3, p4, p5⟩ := pow_facts (v := v) h32
      rw [underN, List.append_assoc, List.pairwise_append]
      refine ⟨by split <;> simp, ?_, ?_⟩
      · rw [List.pairwise_append]
        refine ⟨under_sorted (by omega), under_sorted (by omega), fun x hx y hy => ?_⟩
        obtain ⟨a1, a2, a3⟩ := under_range (by omega) hx
        obtain ⟨b1, b2, b3⟩ := under_range (by omega) hy
        unfold ltP
        omega
      · intro x hx y hy
        split at hx
        · simp at hx
          subst hx
          unfold ltP
          simp only
          rcases List.mem_append.1 hy with hy | hy
          · obtain ⟨b1, b2, b3⟩ := under_range (by omega) hy
            omega
          · obtain ⟨b1, b2, b3⟩ := under_range (by omega) hy
            omega
        · simp at hx
    · have : f = 0 := by omega
      subst this
      rw [underN]
      simp only [underN, List.append_nil]
      split <;> simp
theorem under_mem {l : Nets} : ∀ {f k v : Nat}, k + f = 33 → ∀ {x : Pf}, x ∈ underN l f k v ↔ ∃ k' v', k ≤ k' ∧ k' ≤ 32 ∧ v' / 2 ^ (k' - k) = v ∧ (getM l (keyK k' v')).isSome = true ∧ x = (v' * 2 ^ (32 - k'), k')
  | 0, k, v, hk, x => by
    constructor
    · intro h; simp [underN] at h
    · rintro ⟨k', v', h1, h2, _⟩; omega
  | f + 1, k, v, hk, x => by
    rw [underN, List.mem_append, List.mem_append, under_mem (by omega), under_mem (by omega)]
    constructor
    · rintro ((h | ⟨k', v', h1, h2, h3, h4, h5⟩) | ⟨k', v', h1, h2, h3, h4, h5⟩)
      · split at h
        · rename_i hs
          simp at h
          exact ⟨k, v, Nat.le_refl _, by omega, by simp, hs, h⟩
        · simp at h
      · refine ⟨k', v', by omega, h2, ?_, h4, h5⟩
        rw [show k' - k = (k' - (k + 1)) + 1 by omega, Nat.pow_succ, ← Nat.div_div_eq_div_mul, h3]
        omega
      · refine ⟨k', v', by omega, h2, ?_, h4, h5⟩
        rw [show k' - k = (k' - (k + 1)) + 1 by omega, Nat.pow_succ, ← Nat.div_div_eq_div_mul, h3]
        omega
    · rintro ⟨k', v', h1, h2, h3, h4, h5⟩
      by_cases e : k' = k
      · subst e
        rw [Nat.sub_self, Nat.pow_zero, Nat.div_one] at h3
        subst h3
        rw [if_pos h4]
        exact .inl (.inl (by simp [h5]))
      · rw [show k' - k = (k' - (k + 1)) + 1 by omega, Nat.pow_succ, ← Nat.div_div_eq_div_mul] at h3
        rcases Nat.mod_two_eq_zero_or_one (v' / 2 ^ (k' - (k + 1))) with hr | hr
        · exact .inl (.inr ⟨k', v', by omega, h2, by omega, h4, h5⟩)
        · exact .inr ⟨k', v', by omega, h2, by omega, h4, h5⟩
def pfOf (x : Kn) : Pf := (x.net, x.b.toNat)
theorem Tied.under {l : Nets} {L : List Kn} (h : Tied l L) (f : Nat) (hf : f = 33) : underN l f 0 0 = L.map pfOf := by
  refine sorted_ext (under_sorted (by omega)) ?_ fun x => ?_
  · rw [List.pairwise_map]
    refine List.Pairwise.imp_of_mem ?_ h.srt
    intro a b ha hb hab
    obtain ⟨ka, ea, _, _⟩ := rightB_of (h.rt a ha).1
    obtain ⟨kb, eb, _, _⟩ := rightB_of (h.rt b hb).1
    unfold ltK Kn.key at hab
    unfold ltP pfOf
    simp only at hab ⊢
    omega
  · rw [under_mem (by omega), List.mem_map]
    constructor
    · rintro ⟨k', v', -, h2, h3, h4, h5⟩
      rw [Nat.sub_zero] at h3
      have hlt : v' < 2 ^ k' := by
        rcases Nat.lt_or_ge v' (2 ^ k') with h | h
        · exact h
        · have := Nat.div_pos h (Nat.two_pow_pos k'); omega
      have hn : v' * 2 ^ (32 - k') < 2 ^ 32 := by
        calc v' * 2 ^ (32 - k') < 2 ^ k' * 2 ^ (32 - k') := Nat.mul_lt_mul_of_pos_right hlt (Nat.two_pow_pos _)
          _ = 2 ^ 32 := by rw [← Nat.pow_add, show k' + (32 - k') = 32 by omega]
      have hr : rightB (v' * 2 ^ (32 - k')) k' = true := by
        simp only [rightB, Bool.and_eq_true, decide_eq_true_eq, Int.toNat_natCast]
        exact ⟨by omega, by omega, Nat.mul_mod_left _ _⟩
      have hk : keyP (v' * 2 ^ (32 - k')) k' = keyK k' v' := by
        unfold keyP headN
        rw [Int.toNat_natCast, Nat.mul_div_cancel _ (Nat.two_pow_pos _)]
      have := h.same _ _ hn hr
      rw [hk] at this
      rw [this] at h4
      obtain ⟨n, hn⟩ := Option.isSome_iff_exists.1 h4
      obtain ⟨y, hy, hkey, -⟩ := lookK_mem hn
      refine ⟨y, hy, ?_⟩
      have e1 : y.net = v' * 2 ^ (32 - k') := congrArg Prod.fst hkey
      have e2 : y.b = k' := congrArg Prod.snd hkey
      rw [h5, pfOf, e1, e2]; rfl
    · rintro ⟨y, hy, rfl⟩
      obtain ⟨hr, hn⟩ := h.rt y hy
      obtain ⟨k', e, hk32, hm⟩ := rightB_of hr
      have hs := h.same y.net y.b hn hr
      rw [show (y.net, y.b) = y.key from rfl, lookK_of h.srt hy] at hs
      unfold pwN at hm
      have hd := Nat.div_add_mod y.net (2 ^ (32 - k'))
      rw [hm, Nat.add_zero, Nat.mul_comm] at hd
      refine ⟨k', y.net / 2 ^ (32 - k'), Nat.zero_le _, hk32, ?_, ?_, ?_⟩
      · rw [Nat.sub_zero, Nat.div_div_eq_div_mul, ← Nat.pow_add, show 32 - k' + k' = 32 by omega]
        exact Nat.div_eq_of_lt hn
      · have : keyP y.net y.b = keyK k' (y.net / 2 ^ (32 - k')) := by
          rw [e]; unfold keyP headN; rw [Int.toNat_natCast]
        rw [← this, hs]; rfl
      · rw [hd, pfOf, e]; rfl
end Go.Proofs.Ytkofjejdgdhapaa
