/- ZtpScripts: the plain law: the map and the reference's row hold the same pairs. -/
import Derived.Test.YthdhodopmffdmaaZtR
namespace Go.Proofs.Ythdhodopmffdmaa
open Go.RowKit

theorem best_perm {m l : Offs} (h : m.Perm l) : bestM m = bestM l := by
  have key : ∀ {a b : Offs}, (∀ p ∈ a, p ∈ b) → bestM a ≤ bestM b := fun {a b} hs => by
    rcases bestM_at a with h1 | ⟨q, hq, h1⟩
    · rw [h1]; exact bestM_nonneg b
    · rw [← h1]; exact bestM_ge (hs q hq)
  exact Int.le_antisymm (key fun p hp => h.mem_iff.1 hp) (key fun p hp => h.mem_iff.2 hp)
theorem get_perm {m l : Offs} (hn : (m.map (·.1)).Nodup) (h : m.Perm l) (k : Int) : getM m k = getM l k := by
  have hn2 : (l.map (·.1)).Nodup := (h.map _).nodup_iff.1 hn
  cases hg : getM l k with
  | none => exact getM_none.2 fun p hp => getM_none.1 hg p (h.mem_iff.1 hp)
  | some x => exact (getM_some hn).2 (h.mem_iff.2 ((getM_some hn2).1 hg))
theorem quiet_perm {m l : Offs} (hn : (m.map (·.1)).Nodup) (h : m.Perm l) (z : Zs) (k : Int) : quietB z m k = quietB z l k := by
  unfold quietB
  rw [get_perm hn h]
theorem del_none {m : Offs} {k : Int} (h : getM m k = none) : delM m k = m := delM_none h
theorem put_perm {k : Int} {x : Int × Int} : ∀ {m : Offs}, (m.map (·.1)).Nodup → (∃ p ∈ m, p.1 = k) → (m.map (fun p => if p.1 == k then (k, x) else p)).Perm (delM m k ++ [(k, x)])
  | [], _, h => by obtain ⟨p, hp, _⟩ := h; cases hp
  | q :: m, hn, h => by
    rw [List.map_cons, List.nodup_cons] at hn
    by_cases hq : q.1 = k
    · have hno : getM m k = none := getM_none.2 fun p hp e => hn.1 (by rw [hq, ← e]; exact List.mem_map.2 ⟨p, hp, rfl⟩)
      have e1 : m.map (fun p => if p.1 == k then (k, x) else p) = m := by
        refine (List.map_congr_left fun p hp => ?_).trans (List.map_id m)
        have := getM_none.1 hno p hp
        simp [this]
      have e2 : delM (q :: m) k = m := by
        have : delM (q :: m) k = delM m k := by unfold delM; rw [List.filter_cons_of_neg (by simp [hq])]
        rw [this, delM_none hno]
      rw [e2, List.map_cons, e1, if_pos (by simpa using hq)]
      exact (List.perm_append_singleton _ _).symm
    · have e2 : delM (q :: m) k = q :: delM m k := by unfold delM; rw [List.filter_cons_of_pos (by simp [hq])]
      rw [e2, List.map_cons, if_neg (by simpa using hq), List.cons_append]
      obtain ⟨p, hp, he⟩ := h
      refine (put_perm hn.2 ⟨p, ?_, he⟩).cons q
      rcases List.mem_cons.1 hp with rfl | hp
      · exact absurd he hq
      · exact hp
theorem some_mem {m : Offs} {k : Int} {x : Int × Int} (h : getM m k = some x) : ∃ p ∈ m, p.1 = k := by
  rcases Classical.em (∃ p ∈ m, p.1 = k) with h1 | h1
  · exact h1
  · rw [getM_none.2 fun p hp e => h1 ⟨p, hp, e⟩] at h; cases h
theorem del_len {m : Offs} (hn : (m.map (·.1)).Nodup) {k : Int} {x : Int × Int} (h : getM m k = some x) : (delM m k).length + 1 = m.length := by
  have := (put_perm (x := x) hn (some_mem h)).length_eq
  simp at this
  omega
theorem rel_off {m l : Offs} (hn : (m.map (·.1)).Nodup) (hp : m.Perm l) (hl : m.length ≤ 64) (link level now : Int) (none : Bool) :
    (offM m link level none now).1 = (roffM l link level none now).1 ∧ (offM m link level none now).2.Perm (roffM l link level none now).2 ∧ (offM m link level none now).2.length ≤ 64 := by
  have hd : (delM m link).Perm (delM l link) := hp.filter _
  have hdl : (delM m link).length ≤ m.length := List.length_filter_le _ _
  unfold offM roffM
  cases hb : badO link level now
  · simp only [Bool.false_eq_true, if_false]
    by_cases h1 : (decide (level < 1) || none) = true
    · rw [if_pos h1, if_pos h1]
      exact ⟨rfl, hd, by show (delM m link).length ≤ 64; omega⟩
    · rw [if_neg h1, if_neg h1, ← hd.length_eq]
      cases hg : getM m link with
      | none =>
        rw [delM_none hg]
        by_cases h2 : 64 ≤ m.length
        · rw [if_pos (by simp [h2]), if_pos h2]
          exact ⟨rfl, hp, hl⟩
        · rw [if_neg (by simp; omega), if_neg h2]
          refine ⟨rfl, ?_, ?_⟩
          · show (putM m link (level, now + 4)).Perm _
            rw [putM_none hg]
            rw [delM_none hg] at hd
            exact hd.append_right _
          · show (putM m link (level, now + 4)).length ≤ 64
            rw [putM_none hg]; simp; omega
      | some x =>
        have hdm := del_len hn hg
        rw [if_neg (by simp), if_neg (by omega)]
        refine ⟨rfl, ?_, ?_⟩
        · show (putM m link (level, now + 4)).Perm _
          rw [putM_some hg]
          exact (put_perm hn (some_mem hg)).trans (hd.append_right _)
        · show (putM m link (level, now + 4)).length ≤ 64
          rw [putM_some hg]; simp; omega
  · rw [if_pos rfl, if_pos rfl]
    exact ⟨rfl, hp, hl⟩
theorem rel_tick {m l : Offs} (hp : m.Perm l) (hl : m.length ≤ 64) (z : Zs) (now : Int) :
    (tickS z m now).1 = (tickS z l now).1 ∧ (tickS z m now).2.Perm (tickS z l now).2 ∧ (tickS z m now).2.length ≤ 64 := by
  have hq : (liveM m now).Perm (liveM l now) := hp.filter _
  have hql : (liveM m now).length ≤ m.length := List.length_filter_le _ _
  unfold tickS
  split
  · exact ⟨by show tickZ _ _ _ = tickZ _ _ _; rw [best_perm hq], hq, by show (liveM m now).length ≤ 64; omega⟩
  · exact ⟨rfl, hp, hl⟩

/-- The two beside one another. -/
structure Both (w0 : World) (zb mb rb : Nat) (z : Zs) (m l : Offs) (w : World) : Prop where
  zs : ZS w0 zb mb z m w
  rs : RAt w (rb + 1) rb z l
  lt : rb < w.heap.size
  rle : w0.heap.size ≤ rb
  nz : zb < rb
  nm : mb < rb
  perm : m.Perm l
  len : m.length ≤ 64
theorem rat_lt {w : World} {base rb : Nat} {z : Zs} {l : Offs} (h : RAt w base rb z l) : rb < w.heap.size := by
  obtain ⟨v, h1, _⟩ := h
  exact size_of h1
theorem rat_on {w w' : World} {base rb : Nat} {z : Zs} {l : Offs} (h : RAt w base rb z l) (hb : Below w.heap.size w w') : RAt w' base rb z l := by
  obtain ⟨v, h1, h2⟩ := h
  exact ⟨v, blk_below' hb h1, owns_below h2 hb⟩
theorem rat_kept {w w' : World} {ks : List Nat} {base rb : Nat} {z : Zs} {l : Offs} (h : RAt w base rb z l) (hk : Kept ks w w') (h1 : rb ∉ ks) (h2 : ∀ k ∈ ks, k < base) : RAt w' base rb z l := by
  obtain ⟨v, h3, h4⟩ := h
  exact ⟨v, hk.blk h3 h1, owns_kept h4 hk h2⟩
theorem Both.on {w0 w w' : World} {zb mb rb : Nat} {z : Zs} {m l : Offs} (h : Both w0 zb mb rb z m l w) (hb : Below w.heap.size w w') : Both w0 zb mb rb z m l w' :=
  ⟨h.zs.on hb, rat_on h.rs hb, Nat.lt_of_lt_of_le h.lt hb.size, h.rle, h.nz, h.nm, h.perm, h.len⟩
/-- Between the two calls of a step: the node has turned, the reference not yet. -/
structure Half (w0 : World) (zb mb rb : Nat) (z z' : Zs) (m m' l : Offs) (w : World) : Prop where
  zs : ZS w0 zb mb z' m' w
  rs : RAt w (rb + 1) rb z l
  rle : w0.heap.size ≤ rb
  nz : zb < rb
  nm : mb < rb
theorem Both.half {w0 w w' : World} {zb mb rb : Nat} {z z' : Zs} {m m' l : Offs} (h : Both w0 zb mb rb z m l w) (ha : ZAt w' zb mb z' m') (hk : Kept [zb, mb] w w') : Half w0 zb mb rb z z' m m' l w' :=
  ⟨h.zs.kept ha hk, rat_kept h.rs hk (by have := h.nz; have := h.nm; simp; omega) (fun k hk => by have := h.nz; have := h.nm; simp at hk; omega), h.rle, h.nz, h.nm⟩
theorem Half.whole {w0 w w' : World} {zb mb rb : Nat} {z z' : Zs} {m m' l l' : Offs} (h : Half w0 zb mb rb z z' m m' l w) (ha : RAt w' (rb + 1) rb z' l') (hk : Kept [rb] w w') (hp : m'.Perm l') (hl : m'.length ≤ 64) : Both w0 zb mb rb z' m' l' w' :=
  ⟨⟨h.zs.at_.kept hk (by have := h.nz; simp; omega) (by have := h.nm; simp; omega), h.zs.below.trans (hk.below h.zs.below.size (fun k hk => by simp at hk; rw [hk]; exact h.rle)), h.zs.zle, h.zs.mle⟩, ha, rat_lt ha, h.rle, h.nz, h.nm, hp, hl⟩
end Go.Proofs.Ythdhodopmffdmaa
