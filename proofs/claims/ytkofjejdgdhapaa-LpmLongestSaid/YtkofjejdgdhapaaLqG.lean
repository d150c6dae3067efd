/- lpm: Get, Drop, Len. -/
import Derived.Test.YtkofjejdgdhapaaLqA
namespace Go.Proofs.Ytkofjejdgdhapaa
open Go.RowKit

/-- What is known of a net. -/
def knowsN (l : Nets) (net : Nat) (b : Int) : Option Int := if rightB net b then getM l (keyP net b) else none
theorem knowsN_bad {l : Nets} {net : Nat} {b : Int} (h : rightB net b = false) : knowsN l net b = none := by rw [knowsN, h]; rfl
theorem knowsN_ok {l : Nets} {net : Nat} {b : Int} (h : rightB net b = true) : knowsN l net b = getM l (keyP net b) := by rw [knowsN, h]; rfl
theorem delM_self {l : Nets} {k : Int} : getM (delM l k) k = none := getM_none.2 fun p hp e => by
  have := (List.mem_filter.1 hp).2
  simp [e] at this
theorem delM_other {l : Nets} {k k' : Int} (h : k' ≠ k) : getM (delM l k) k' = getM l k' := by
  unfold getM delM
  induction l with
  | nil => rfl
  | cons p l ih =>
    by_cases e : p.1 = k
    · rw [List.filter_cons_of_neg (by simpa using e), List.find?_cons_of_neg (by simpa [e] using fun e => h e.symm)]
      exact ih
    · rw [List.filter_cons_of_pos (by simpa using e)]
      by_cases e2 : p.1 = k'
      · simp [e2]
      · rw [List.find?_cons_of_neg (by simpa using e2), List.find?_cons_of_neg (by simpa using e2)]
        exact ih
theorem delM_nodup {l : Nets} {k : Int} (h : (l.map (·.1)).Nodup) : ((delM l k).map (·.1)).Nodup :=
  List.Nodup.sublist (List.Sublist.map _ List.filter_sublist) h
theorem delM_len {l : Nets} {k n : Int} (hn : (l.map (·.1)).Nodup) (h : getM l k = some n) : (delM l k).length + 1 = l.length := by
  induction l with
  | nil => simp [getM] at h
  | cons p l ih =>
    rw [List.map_cons, List.nodup_cons] at hn
    by_cases e : p.1 = k
    · have : delM l k = l := delM_none (getM_none.2 fun q hq e2 => hn.1 (by rw [e, ← e2]; exact List.mem_map.2 ⟨q, hq, rfl⟩))
      rw [delM, List.filter_cons_of_neg (by simpa using e)]
      rw [show l.filter (fun p => p.1 != k) = delM l k from rfl, this]
      rfl
    · have h2 : getM l k = some n := by
        unfold getM at h ⊢
        rwa [List.find?_cons_of_neg (by simpa using e)] at h
      have := ih hn.2 h2
      rw [delM, List.filter_cons_of_pos (by simpa using e)]
      simp only [List.length_cons]
      rw [show l.filter (fun p => p.1 != k) = delM l k from rfl]
      omega
theorem TreeAt.forget {w : World} {tb : Nat} {nd : Nd} {l : Nets} {room many : Int} (h : TreeAt w tb nd l room many) {k v b : Nat} (hb : nd k v = some b) :
    TreeAt ((w.setCell ⟨b, 0, none⟩ (.bool false)).setCell ⟨b, 1, none⟩ (.int .i64 0)) tb nd (delM l (keyK k v)) room many where
  root := h.root
  lt := h.lt
  inj := h.inj
  up := h.up
  node := fun k' v' b' h1 h2 => by
    by_cases e : b' = b
    · subst e
      obtain ⟨rfl, rfl⟩ := h.inj _ _ _ _ _ h1 hb
      have := blk_set (blk_set (h.node _ _ _ h1 h2) 0 (.bool false)) 1 (.int .i64 0)
      rw [this]
      simp [nodeCells, delM_self]
    · rw [Below.heap_setCell _ _ _ _ e, Below.heap_setCell _ _ _ _ e, h.node _ _ _ h1 h2]
      simp only [nodeCells, delM_other (key_ne h hb h1 e)]
  top := by
    by_cases e : tb = b
    · subst e
      obtain ⟨rfl, rfl⟩ := h.inj _ _ _ _ _ hb h.root
      have := blk_set (blk_set h.top 0 (.bool false)) 1 (.int .i64 0)
      rw [this]
      simp [nodeCells, delM_self]
    · rw [Below.heap_setCell _ _ _ _ e, Below.heap_setCell _ _ _ _ e, h.top]
      simp only [nodeCells, delM_other (key_ne h hb h.root e)]
  nodup := delM_nodup h.nodup
  keys := fun p hp => h.keys p (List.mem_filter.1 hp).1

set_option maxRecDepth 100000 in
set_option maxHeartbeats 1000000 in
theorem get_calls (tb : Nat) (nd : Nd) (l : Nets) (room many : Int) (net : Nat) (b : Int) (w : World) (h : TreeAt w tb nd l room many) (hn : net < 2 ^ 32) :
    Calls Try.prog 18 #[.pointer (some ⟨tb, 0, none⟩), .agg #[.int .u32 net, .int .i64 b]] w fun e w' => e = .returned (.tuple #[.int .i64 ((knowsN l net b).getD 0), .bool (knowsN l net b).isSome]) ∧ Below w.heap.size w w' := by
  have HT := Lib.hid h
  have HN := Lib.hid hn
  have HW := Lib.hid (show Below w.heap.size w (w.alloc (.cells #[.int .u32 net, .int .i64 b] 30 (0, 0))) ∧ (w.alloc (.cells #[.int .u32 net, .int .i64 b] 30 (0, 0))).heap[w.heap.size]? = some (.cells #[.int .u32 net, .int .i64 b] 30 (0, 0)) from ⟨(Below.refl _ _).alloc (Nat.le_refl _) _, blk_new _ _⟩)
  cases hb : rightB net b with
  | false =>
    have HB := Lib.hid hb
    clear h hn hb
    go_enter Try.func18, Try.ntmps18
    go_wp2_with ((go_at_call 24; refine (right_calls net b _ HN.out).mono ?_; rintro e w1 ⟨rfl, hb⟩; rw [HB.out]; have HV := Lib.hid (HW.out.1.trans (hb.mono HW.out.1.size)); clear hb))
    go_ret2
    exact ⟨by rw [knowsN_bad HB.out]; rfl, HV.out⟩
  | true =>
    obtain ⟨k, rfl, hk, -⟩ := rightB_of hb
    have HB := Lib.hid hb
    have HV0 := Lib.hid (knowsN_ok (l := l) hb)
    cases hx : nd k (headN net k) with
    | none =>
      have HX := Lib.hid (show ptrV (nd k (headN net k)) = .pointer none by rw [hx]; rfl)
      have HK := Lib.hid (show knowsN l net k = none from (knowsN_ok hb).trans (h.no_key hk hx))
      clear h hn hb hx
      go_enter Try.func18, Try.ntmps18
      go_wp2_with (first
        | (go_at_call 24; refine (right_calls net k _ HN.out).mono ?_; rintro e w1 ⟨rfl, hb⟩; rw [HB.out]; have HV := Lib.hid (And.intro (HW.out.1.trans (hb.mono HW.out.1.size)) (blk_below' hb HW.out.2)); have kc := cells_all (l := [_, _]) HV.out.2; have kl := size_of HV.out.2; simp only [CellsAt, Nat.reduceAdd, and_true] at kc; obtain ⟨p0, p1⟩ := kc; clear hb)
        | (go_at_call 31; refine (at_calls tb nd l room many net k _ (HT.out.of_same HV.out.1) HN.out hk).mono ?_; rintro e w2 ⟨rfl, hb⟩; rw [HX.out]; have HU := Lib.hid (HV.out.1.trans (hb.mono HV.out.1.size)); clear hb))
      go_ret2
      exact ⟨by rw [HK.out]; rfl, HU.out⟩
    | some x =>
      have HX := Lib.hid (show ptrV (nd k (headN net k)) = .pointer (some ⟨x, 0, none⟩) by rw [hx]; rfl)
      have HY := Lib.hid hx
      cases hg : getM l (keyP net k) with
      | none =>
        have HK := Lib.hid (show knowsN l net k = none from (knowsN_ok hb).trans hg)
        have HG := Lib.hid (show getM l (keyK k (headN net k)) = none from hg)
        clear h hn hb hx hg
        go_enter Try.func18, Try.ntmps18
        go_wp2_with (first
          | (go_at_call 24; refine (right_calls net k _ HN.out).mono ?_; rintro e w1 ⟨rfl, hb⟩; rw [HB.out]; have HV := Lib.hid (And.intro (HW.out.1.trans (hb.mono HW.out.1.size)) (blk_below' hb HW.out.2)); have kc := cells_all (l := [_, _]) HV.out.2; have kl := size_of HV.out.2; simp only [CellsAt, Nat.reduceAdd, and_true] at kc; obtain ⟨p0, p1⟩ := kc; clear hb)
          | (go_at_call 31; refine (at_calls tb nd l room many net k _ (HT.out.of_same HV.out.1) HN.out hk).mono ?_; rintro e w2 ⟨rfl, hb⟩; rw [HX.out]; have HU := Lib.hid (HV.out.1.trans (hb.mono HV.out.1.size)); obtain ⟨⟨n0, n1, n2, n3⟩, nl, -⟩ := (HT.out.of_same HU.out).cells HY.out; rw [HG.out] at n0; simp only [Option.isSome_none] at n0; clear hb))
        go_ret2
        exact ⟨by rw [HK.out]; rfl, HU.out⟩
      | some y =>
        have HK := Lib.hid (show knowsN l net k = some y from (knowsN_ok hb).trans hg)
        have HG := Lib.hid (show getM l (keyK k (headN net k)) = some y from hg)
        clear h hn hb hx hg
        go_enter Try.func18, Try.ntmps18
        go_wp2_with (first
          | (go_at_call 24; refine (right_calls net k _ HN.out).mono ?_; rintro e w1 ⟨rfl, hb⟩; rw [HB.out]; have HV := Lib.hid (And.intro (HW.out.1.trans (hb.mono HW.out.1.size)) (blk_below' hb HW.out.2)); have kc := cells_all (l := [_, _]) HV.out.2; have kl := size_of HV.out.2; simp only [CellsAt, Nat.reduceAdd, and_true] at kc; obtain ⟨p0, p1⟩ := kc; clear hb)
          | (go_at_call 31; refine (at_calls tb nd l room many net k _ (HT.out.of_same HV.out.1) HN.out hk).mono ?_; rintro e w2 ⟨rfl, hb⟩; rw [HX.out]; have HU := Lib.hid (HV.out.1.trans (hb.mono HV.out.1.size)); obtain ⟨⟨n0, n1, n2, n3⟩, nl, -⟩ := (HT.out.of_same HU.out).cells HY.out; rw [HG.out] at n0 n1; simp only [Option.isSome_some, Option.getD_some] at n0 n1; clear hb))
        go_ret2
        exact ⟨by rw [HK.out]; rfl, HU.out⟩
theorem len_calls (tb : Nat) (nd : Nd) (l : Nets) (room many : Int) (w : World) (h : TreeAt w tb nd l room many) :
    Calls Try.prog 17 #[.pointer (some ⟨tb, 0, none⟩)] w fun e w' => e = .returned (.int .i64 many) ∧ w = w' := by
  obtain ⟨t4, t5, tl, -⟩ := h.tops
  clear h
  go_enter Try.func17, Try.ntmps17
  go_wp2_with (fail)
  go_ret
  exact ⟨rfl, rfl⟩
end Go.Proofs.Ytkofjejdgdhapaa
