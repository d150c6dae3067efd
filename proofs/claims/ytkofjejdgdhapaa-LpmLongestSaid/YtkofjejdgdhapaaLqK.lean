/- The plain law: the tree's nets and the reference's list: Put, Drop, Get, Find. -/
import Derived.Test.YtkofjejdgdhapaaLqJ
namespace Go.Proofs.Ytkofjejdgdhapaa
open Go.RowKit

theorem keyP_inj {n1 n2 : Nat} {b1 b2 : Int} (h1 : rightB n1 b1 = true) (h2 : rightB n2 b2 = true) (e : keyP n1 b1 = keyP n2 b2) : (n1, b1) = (n2, b2) := by
  obtain ⟨k1, rfl, hk1, hm1⟩ := rightB_of h1
  obtain ⟨k2, rfl, hk2, hm2⟩ := rightB_of h2
  unfold keyP at e
  rw [Int.toNat_natCast, Int.toNat_natCast] at e
  obtain ⟨rfl, e2⟩ := keyK_inj hk1 hk2 e
  unfold headN at e2
  have d1 := Nat.div_add_mod n1 (2 ^ (32 - k1))
  have d2 := Nat.div_add_mod n2 (2 ^ (32 - k1))
  unfold pwN at hm1 hm2
  rw [hm1, e2] at d1
  rw [hm2] at d2
  have e3 : n1 = n2 := d1.symm.trans d2
  rw [e3]
structure Tied (l : Nets) (L : List Kn) : Prop where
  len : l.length = L.length
  rt : ∀ x ∈ L, rightB x.net x.b = true ∧ x.net < 2 ^ 32
  srt : SortedK L
  same : ∀ net b, net < 2 ^ 32 → rightB net b = true → getM l (keyP net b) = lookK L (net, b)
theorem tied_nil : Tied [] [] := ⟨rfl, fun x hx => by simp at hx, by simp [SortedK], fun net b _ _ => rfl⟩
theorem Tied.knows {l : Nets} {L : List Kn} (h : Tied l L) {net : Nat} (b : Int) (hn : net < 2 ^ 32) : knowsN l net b = getK L (net, b) ∧ (placeL L (net, b)).2 = (knowsN l net b).isSome := by
  obtain ⟨g1, g2⟩ := getK_look h.srt (net, b)
  rw [g1, g2]
  cases hb : rightB net b with
  | true => rw [knowsN_ok hb, h.same net b hn hb]; exact ⟨rfl, rfl⟩
  | false =>
    have : lookK L (net, b) = none := lookK_none.2 fun x hx e => by
      have h1 := (h.rt x hx).1
      have e1 : x.net = net := congrArg Prod.fst e
      have e2 : x.b = b := congrArg Prod.snd e
      rw [e1, e2, hb] at h1
      cases h1
    rw [knowsN_bad hb, this]; exact ⟨rfl, rfl⟩
theorem Tied.put {l : Nets} {L : List Kn} (h : Tied l L) {net : Nat} {b : Int} (hn : net < 2 ^ 32) (hb : rightB net b = true) (n : Int) : Tied (putM l (keyP net b) n) (putK L ⟨net, b, n⟩) where
  len := by
    have g2 := (getK_look h.srt (net, b)).2
    rw [put_len, putK_len, show (Kn.key ⟨net, b, n⟩) = (net, b) from rfl, g2, h.same net b hn hb, h.len]
  rt := fun x hx => by
    rcases putK_mem hx with rfl | hx
    · exact ⟨hb, hn⟩
    · exact h.rt x hx
  srt := putK_sorted h.srt
  same := fun n2 b2 hn2 hb2 => by
    rw [putK_look h.srt, show Kn.key ⟨net, b, n⟩ = (net, b) from rfl]
    by_cases e : (net, b) = (n2, b2)
    · rw [if_pos e]
      obtain ⟨rfl, rfl⟩ := Prod.mk.inj e
      exact getM_put_self
    · rw [if_neg e, getM_put_other (fun e2 => e (keyP_inj hb hb2 e2.symm))]
      exact h.same n2 b2 hn2 hb2
theorem Tied.nodup_len {l : Nets} {L : List Kn} (h : Tied l L) (hd : (l.map (·.1)).Nodup) {net : Nat} {b : Int} (hn : net < 2 ^ 32) (hb : rightB net b = true) : (delM l (keyP net b)).length = (dropK L (net, b)).length := by
  have g2 := (getK_look h.srt (net, b)).2
  rw [dropK_len, g2, ← h.same net b hn hb]
  cases hg : getM l (keyP net b) with
  | none => rw [delM_none hg]; exact h.len
  | some y =>
    have := delM_len hd hg
    have := h.len
    simp; omega
theorem Tied.drop {l : Nets} {L : List Kn} (h : Tied l L) (hd : (l.map (·.1)).Nodup) {net : Nat} {b : Int} (hn : net < 2 ^ 32) (hb : rightB net b = true) : Tied (delM l (keyP net b)) (dropK L (net, b)) where
  len := h.nodup_len hd hn hb
  rt := fun x hx => h.rt x (dropK_mem hx)
  srt := dropK_sorted h.srt
  same := fun n2 b2 hn2 hb2 => by
    rw [dropK_look h.srt]
    by_cases e : (net, b) = (n2, b2)
    · rw [if_pos e]
      obtain ⟨rfl, rfl⟩ := Prod.mk.inj e
      exact delM_self
    · rw [if_neg e, delM_other (fun e2 => e (keyP_inj hb hb2 e2.symm))]
      exact h.same n2 b2 hn2 hb2
theorem dropK_none {L : List Kn} {q : Nat × Int} (h : (placeL L q).2 = false) : dropK L q = L := by rw [dropK, h]; rfl

/-! ### Find -/
theorem bestTo_none_all {l : Nets} {a : Nat} : ∀ {i : Nat}, bestTo l a i = none → ∀ k, k < i → getM l (keyK k (headN a k)) = none
  | 0, _, k, hk => by omega
  | i + 1, h, k, hk => by
    cases hg : getM l (keyK i (headN a i)) with
    | none =>
      rw [bestTo_none hg] at h
      by_cases e : k = i
      · subst e; exact hg
      · exact bestTo_none_all h k (by omega)
    | some m => rw [bestTo_some hg] at h; cases h
theorem bestTo_is' {l : Nets} {a : Nat} : ∀ {i : Nat} {k : Nat} {n : Int}, bestTo l a i = some (k, n) → k < i ∧ getM l (keyK k (headN a k)) = some n ∧ ∀ k', k < k' → k' < i → getM l (keyK k' (headN a k')) = none
  | 0, k, n, h => by simp [bestTo] at h
  | i + 1, k, n, h => by
    cases hg : getM l (keyK i (headN a i)) with
    | none =>
      rw [bestTo_none hg] at h
      obtain ⟨h1, h2, h3⟩ := bestTo_is' h
      refine ⟨by omega, h2, fun k' a1 a2 => ?_⟩
      by_cases e : k' = i
      · subst e; exact hg
      · exact h3 k' a1 (by omega)
    | some m =>
      rw [bestTo_some hg] at h
      obtain ⟨rfl, rfl⟩ := Prod.mk.inj (Option.some.inj h)
      exact ⟨Nat.lt_succ_self _, hg, fun k' a1 a2 => by omega⟩
theorem cut_right {a k : Nat} (ha : a < 2 ^ 32) (hk : k ≤ 32) : rightB (cutN a k) k = true ∧ cutN a k < 2 ^ 32 ∧ keyP (cutN a k) k = keyK k (headN a k) := by
  have hp : 0 < 2 ^ (32 - k) := Nat.two_pow_pos _
  refine ⟨?_, ?_, ?_⟩
  · simp only [rightB, Bool.and_eq_true, decide_eq_true_eq, Int.toNat_natCast]
    exact ⟨by omega, by omega, by unfold cutN; exact Nat.mul_mod_left _ _⟩
  · exact Nat.lt_of_le_of_lt (Nat.div_mul_le_self _ _) ha
  · unfold keyP headN
    rw [Int.toNat_natCast]
    unfold cutN
    rw [Nat.mul_div_cancel _ hp]
theorem Tied.at_ {l : Nets} {L : List Kn} (h : Tied l L) {a k : Nat} (ha : a < 2 ^ 32) (hk : k ≤ 32) : getM l (keyK k (headN a k)) = lookK L (cutN a k, (k : Int)) := by
  obtain ⟨h1, h2, h3⟩ := cut_right ha hk
  rw [← h3]; exact h.same _ _ h2 h1
theorem inB_is {net : Nat} {b : Int} {a : Nat} (h : inB net b a = true) : ∃ k : Nat, b = k ∧ k ≤ 32 ∧ net = cutN a k := by
  simp only [inB, Bool.and_eq_true, decide_eq_true_eq] at h
  obtain ⟨k, rfl, hk, _⟩ := rightB_of h.1
  refine ⟨k, rfl, hk, ?_⟩
  have := h.2
  rw [Int.toNat_natCast] at this
  exact this.symm
theorem inB_cut {a k : Nat} (ha : a < 2 ^ 32) (hk : k ≤ 32) : inB (cutN a k) k a = true := by
  rw [inB, (cut_right ha hk).1, Int.toNat_natCast]
  simp [cutN]
theorem bestK_none_all {L : List Kn} {a : Nat} : ∀ {j : Nat}, bestK L a j = none → ∀ i x, i < j → L[i]? = some x → inB x.net x.b a = false
  | 0, _, i, x, hi, _ => by omega
  | j + 1, h, i, x, hi, hx => by
    cases hy : L[j]? with
    | none =>
      have e : bestK L a (j + 1) = bestK L a j := by simp [bestK, hy]
      rw [e] at h
      refine bestK_none_all h i x ?_ hx
      have := (List.getElem?_eq_none_iff.1 hy)
      have := (List.getElem?_eq_some_iff.1 hx).1
      omega
    | some y =>
      cases hin : inB y.net y.b a with
      | false =>
        rw [bestK_skip hy hin] at h
        by_cases e : i = j
        · subst e; rw [hy] at hx; obtain rfl := Option.some.inj hx; exact hin
        · exact bestK_none_all h i x (by omega) hx
      | true =>
        cases hb : bestK L a j with
        | none => rw [bestK_first hy hin hb] at h; cases h
        | some m =>
          obtain ⟨_, z, hz, _⟩ := bestK_is hb
          by_cases hlt : z.b < y.b
          · rw [bestK_more hy hin hb hz hlt] at h; cases h
          · rw [bestK_less hy hb hz hlt] at h; cases h
theorem bestK_max {L : List Kn} {a : Nat} : ∀ {j i : Nat} {x : Kn}, bestK L a j = some i → L[i]? = some x → ∀ i2 y, i2 < j → L[i2]? = some y → inB y.net y.b a = true → y.b ≤ x.b
  | 0, i, x, h, _ => by simp [bestK] at h
  | j + 1, i, x, h, hx => fun i2 y hi2 hy hin => by
    cases hz : L[j]? with
    | none =>
      have e : bestK L a (j + 1) = bestK L a j := by simp [bestK, hz]
      rw [e] at h
      refine bestK_max h hx i2 y ?_ hy hin
      have := (List.getElem?_eq_none_iff.1 hz)
      have := (List.getElem?_eq_some_iff.1 hy).1
      omega
    | some z =>
      cases hzin : inB z.net z.b a with
      | false =>
        rw [bestK_skip hz hzin] at h
        by_cases e : i2 = j
        · subst e; rw [hz] at hy; obtain rfl := Option.some.inj hy; rw [hin] at hzin; cases hzin
        · exact bestK_max h hx i2 y (by omega) hy hin
      | true =>
        cases hb : bestK L a j with
        | none =>
          rw [bestK_first hz hzin hb] at h
          obtain rfl := Option.some.inj h
          rw [hz] at hx
          obtain rfl := Option.some.inj hx
          by_cases e : i2 = j
          · subst e; rw [hz] at hy; obtain rfl := Option.some.inj hy; exact Int.le_refl _
          · have := bestK_none_all hb i2 y (by omega) hy
            rw [hin] at this; cases this
        | some m =>
          obtain ⟨_, u, hu, _⟩ := bestK_is hb
          by_cases hlt : u.b < z.b
          · rw [bestK_more hz hzin hb hu hlt] at h
            obtain rfl := Option.some.inj h
            rw [hz] at hx
            obtain rfl := Option.some.inj hx
            by_cases e : i2 = j
            · subst e; rw [hz] at hy; obtain rfl := Option.some.inj hy; exact Int.le_refl _
            · have := bestK_max hb hu i2 y (by omega) hy hin
              omega
          · rw [bestK_less hz hb hu hlt] at h
            obtain rfl := Option.some.inj h
            rw [hu] at hx
            obtain rfl := Option.some.inj hx
            by_cases e : i2 = j
            · subst e; rw [hz] at hy; obtain rfl := Option.some.inj hy; omega
            · exact bestK_max hb hu i2 y (by omega) hy hin
theorem Tied.find {l : Nets} {L : List Kn} (h : Tied l L) {a : Nat} (ha : a < 2 ^ 32) : findV l a = findR L a := by
  cases ht : bestTo l a 33 with
  | none =>
    have hno := bestTo_none_all ht
    cases hk : bestK L a L.length with
    | none => rw [findV, findR, ht, hk]; rfl
    | some i =>
      obtain ⟨_, x, hx, hin⟩ := bestK_is hk
      obtain ⟨k, hb, hk32, hnet⟩ := inB_is hin
      have h1 := hno k (by omega)
      rw [h.at_ ha hk32] at h1
      have h2 := lookK_of h.srt (List.mem_of_getElem? hx)
      rw [Kn.key, hnet, hb, h1] at h2
      cases h2
  | some r =>
    obtain ⟨k, n⟩ := r
    obtain ⟨hk33, hg, hmax⟩ := bestTo_is' ht
    have hk32 : k ≤ 32 := by omega
    rw [h.at_ ha hk32] at hg
    obtain ⟨x', hx', hkey, hn⟩ := lookK_mem hg
    have e1 : x'.net = cutN a k := congrArg Prod.fst hkey
    have e2 : x'.b = k := congrArg Prod.snd hkey
    obtain ⟨i', hi'⟩ := List.mem_iff_getElem?.1 hx'
    have hin' : inB x'.net x'.b a = true := by rw [e1, e2]; exact inB_cut ha hk32
    cases hk : bestK L a L.length with
    | none =>
      have := bestK_none_all hk i' x' (List.getElem?_eq_some_iff.1 hi').1 hi'
      rw [hin'] at this; cases this
    | some i =>
      obtain ⟨_, x, hx, hin⟩ := bestK_is hk
      have hle := bestK_max hk hx i' x' (List.getElem?_eq_some_iff.1 hi').1 hi' hin'
      obtain ⟨k2, hb2, hk2, hnet2⟩ := inB_is hin
      have h2 := lookK_of h.srt (List.mem_of_getElem? hx)
      rw [Kn.key, hnet2, hb2] at h2
      have hkk : k2 = k := by
        by_cases e : k < k2
        · have := hmax k2 e (by omega)
          rw [h.at_ ha hk2, h2] at this
          cases this
        · omega
      subst hkk
      rw [hg] at h2
      rw [findV, findR, ht, hk, Option.bind_some, hx]
      simp only [pfxCells, numOf, Option.isSome_some]
      rw [hb2, hnet2, Option.some.inj h2]
end Go.Proofs.Ytkofjejdgdhapaa
