/- lpm: Drop. -/
import Derived.Test.YtkofjejdgdhapaaLqG
namespace Go.Proofs.Ytkofjejdgdhapaa
open Go.RowKit

def dropPost (tb : Nat) (nd : Nd) (l : Nets) (room : Int) (net : Nat) (b : Int) (w : World) (e : Ending) (w' : World) : Prop :=
  (knowsN l net b = none ∧ e = .returned (.bool false) ∧ Below w.heap.size w w') ∨
  ((knowsN l net b).isSome = true ∧ e = .returned (.bool true) ∧ TreeAt w' tb nd (delM l (keyP net b)) room (delM l (keyP net b)).length ∧ TFr nd nd w w')
set_option maxRecDepth 100000 in
set_option maxHeartbeats 1000000 in
theorem drop_calls (tb : Nat) (nd : Nd) (l : Nets) (room : Int) (net : Nat) (b : Int) (w : World) (h : TreeAt w tb nd l room l.length) (hn : net < 2 ^ 32) (hl : l.length ≤ 100000) :
    Calls Try.prog 15 #[.pointer (some ⟨tb, 0, none⟩), .agg #[.int .u32 net, .int .i64 b]] w (dropPost tb nd l room net b w) := by
  have HT := Lib.hid h
  have HN := Lib.hid hn
  have HW := Lib.hid (show Below w.heap.size w (w.alloc (.cells #[.int .u32 net, .int .i64 b] 30 (0, 0))) ∧ (w.alloc (.cells #[.int .u32 net, .int .i64 b] 30 (0, 0))).heap[w.heap.size]? = some (.cells #[.int .u32 net, .int .i64 b] 30 (0, 0)) from ⟨(Below.refl _ _).alloc (Nat.le_refl _) _, blk_new _ _⟩)
  cases hb : rightB net b with
  | false =>
    have HB := Lib.hid hb
    clear h hn hb
    go_enter Try.func15, Try.ntmps15
    go_wp2_with ((go_at_call 24; refine (right_calls net b _ HN.out).mono ?_; rintro e w1 ⟨rfl, hb⟩; rw [HB.out]; have HV := Lib.hid (And.intro (HW.out.1.trans (hb.mono HW.out.1.size)) (blk_below' hb HW.out.2)); have kc := cells_all (l := [_, _]) HV.out.2; have kl := size_of HV.out.2; simp only [CellsAt, Nat.reduceAdd, and_true] at kc; obtain ⟨p0, p1⟩ := kc; clear hb))
    go_ret
    exact .inl ⟨knowsN_bad HB.out, rfl, HV.out.1⟩
  | true =>
    obtain ⟨k, rfl, hk, -⟩ := rightB_of hb
    have HB := Lib.hid hb
    cases hx : nd k (headN net k) with
    | none =>
      have HX := Lib.hid (show ptrV (nd k (headN net k)) = .pointer none by rw [hx]; rfl)
      have HK := Lib.hid (show knowsN l net k = none from (knowsN_ok hb).trans (h.no_key hk hx))
      clear h hn hb hx
      go_enter Try.func15, Try.ntmps15
      go_wp2_with (first
        | (go_at_call 24; refine (right_calls net k _ HN.out).mono ?_; rintro e w1 ⟨rfl, hb⟩; rw [HB.out]; have HV := Lib.hid (And.intro (HW.out.1.trans (hb.mono HW.out.1.size)) (blk_below' hb HW.out.2)); have kc := cells_all (l := [_, _]) HV.out.2; have kl := size_of HV.out.2; simp only [CellsAt, Nat.reduceAdd, and_true] at kc; obtain ⟨p0, p1⟩ := kc; clear hb)
        | (go_at_call 31; refine (at_calls tb nd l room l.length net k _ (HT.out.of_same HV.out.1) HN.out hk).mono ?_; rintro e w2 ⟨rfl, hb⟩; rw [HX.out]; have HU := Lib.hid (HV.out.1.trans (hb.mono HV.out.1.size)); clear hb))
      go_ret
      exact .inl ⟨HK.out, rfl, HU.out⟩
    | some x =>
      have HX := Lib.hid (show ptrV (nd k (headN net k)) = .pointer (some ⟨x, 0, none⟩) by rw [hx]; rfl)
      have HY := Lib.hid hx
      cases hg : getM l (keyP net k) with
      | none =>
        have HK := Lib.hid (show knowsN l net k = none from (knowsN_ok hb).trans hg)
        have HG := Lib.hid (show getM l (keyK k (headN net k)) = none from hg)
        clear h hn hb hx hg
        go_enter Try.func15, Try.ntmps15
        go_wp2_with (first
          | (go_at_call 24; refine (right_calls net k _ HN.out).mono ?_; rintro e w1 ⟨rfl, hb⟩; rw [HB.out]; have HV := Lib.hid (And.intro (HW.out.1.trans (hb.mono HW.out.1.size)) (blk_below' hb HW.out.2)); have kc := cells_all (l := [_, _]) HV.out.2; have kl := size_of HV.out.2; simp only [CellsAt, Nat.reduceAdd, and_true] at kc; obtain ⟨p0, p1⟩ := kc; clear hb)
          | (go_at_call 31; refine (at_calls tb nd l room l.length net k _ (HT.out.of_same HV.out.1) HN.out hk).mono ?_; rintro e w2 ⟨rfl, hb⟩; rw [HX.out]; have HU := Lib.hid (HV.out.1.trans (hb.mono HV.out.1.size)); obtain ⟨⟨n0, n1, n2, n3⟩, nl, -⟩ := (HT.out.of_same HU.out).cells HY.out; rw [HG.out] at n0; simp only [Option.isSome_none] at n0; clear hb))
        go_ret
        exact .inl ⟨HK.out, rfl, HU.out⟩
      | some y =>
        have HK := Lib.hid (show (knowsN l net k).isSome = true by rw [knowsN_ok hb, hg]; rfl)
        have HG := Lib.hid (show getM l (keyK k (headN net k)) = some y from hg)
        have hlen := delM_len h.nodup hg
        have HL := Lib.hid (show ((l.length : Int) - 1) = (delM l (keyP net k)).length by omega)
        have hpos : 1 ≤ l.length := by omega
        have hx5 : (⟨tb, 5, none⟩ : Addr) ≠ ⟨x, 0, none⟩ := by simp
        have hx6 : (⟨tb, 5, none⟩ : Addr) ≠ ⟨x, 1, none⟩ := by simp
        clear h hn hb hx hg hlen
        go_enter Try.func15, Try.ntmps15
        go_wp2_with (first
          | (go_at_call 24; refine (right_calls net k _ HN.out).mono ?_; rintro e w1 ⟨rfl, hb⟩; rw [HB.out]; have HV := Lib.hid (And.intro (HW.out.1.trans (hb.mono HW.out.1.size)) (blk_below' hb HW.out.2)); have kc := cells_all (l := [_, _]) HV.out.2; have kl := size_of HV.out.2; simp only [CellsAt, Nat.reduceAdd, and_true] at kc; obtain ⟨p0, p1⟩ := kc; clear hb)
          | (go_at_call 31; refine (at_calls tb nd l room l.length net k _ (HT.out.of_same HV.out.1) HN.out hk).mono ?_; rintro e w2 ⟨rfl, hb⟩; rw [HX.out]; have HU := Lib.hid (HV.out.1.trans (hb.mono HV.out.1.size)); have HTU := Lib.hid (HT.out.of_same HU.out); obtain ⟨⟨n0, n1, n2, n3⟩, nl, z0, z1, -⟩ := HTU.out.cells HY.out; obtain ⟨t4, t5, tl, t6⟩ := HTU.out.tops; rw [HG.out] at n0 n1; simp only [Option.isSome_some, Option.getD_some] at n0 n1; clear hb))
        go_ret
        have q := HTU.out.forget HY.out
        have q2 := q.count ((l.length : Int) - 1)
        refine .inr ⟨HK.out, rfl, ?_, (((TFr.of_below HU.out).trans (TFr.set HY.out 0 _)).trans (TFr.set HY.out 1 _)).trans (TFr.set HT.out.root 5 _)⟩
        rw [← HL.out]
        exact q2
end Go.Proofs.Ytkofjejdgdhapaa
