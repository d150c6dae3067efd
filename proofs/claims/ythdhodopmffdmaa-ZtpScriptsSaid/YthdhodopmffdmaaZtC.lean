/- Offer: an offer is laid, or taken away. -/
import Derived.Test.YthdhodopmffdmaaZtB
namespace Go.Proofs.Ythdhodopmffdmaa
open Go.RowKit

def badO (link level now : Int) : Bool := decide (link < 0) || (decide (65535 < link) || (decide (level < -1) || (decide (24 < level) || !momB now)))
def offM (m : Offs) (link level : Int) (none : Bool) (now : Int) : Int × Offs :=
  if badO link level now then (1, m)
  else if decide (level < 1) || none then (0, delM m link)
  else if (getM m link).isNone && decide (64 ≤ m.length) then (3, m)
  else (0, putM m link (level, now + 4))
def offPost (zb mb : Nat) (z : Zs) (w : World) (r : Int × Offs) (e : Ending) (w' : World) : Prop := e = .returned (.int .i64 r.1) ∧ ZAt w' zb mb z r.2 ∧ Kept [mb] w w'

theorem offM_bad {m : Offs} {link level now : Int} {none : Bool} (h : badO link level now = true) : offM m link level none now = (1, m) := by rw [offM, if_pos h]
theorem ZAt.grown {w w' : World} {zb mb : Nat} {z : Zs} {m m' : Offs} (h : ZAt w zb mb z m) (hg : w.grownBy w' (some mb)) (hm : MapAt w' mb offE m') : ZAt w' zb mb z m' :=
  ⟨blk_grown hg h.1 (fun e => h.ne (by injection e)), hm⟩
theorem kept_grown {w w' : World} {b : Nat} (hg : w.grownBy w' (some b)) : Kept [b] w w' := (Kept.refl _ _).grown hg (fun k hk => .inl (by injection hk with hk; simp [hk]))
theorem ZAt.alloc {w : World} {zb mb : Nat} {z : Zs} {m : Offs} (h : ZAt w zb mb z m) (o : Obj) : ZAt (w.alloc o) zb mb z m :=
  ⟨blk_alloc h.1 o, h.2.of_blk (Below.heap_alloc _ _ _ h.2.lt)⟩

set_option maxHeartbeats 1000000 in
theorem offer_bad (zb mb : Nat) (z : Zs) (m : Offs) (w : World) (link level now : Int) (none : Bool) (hbad : badO link level now = true) (h : ZAt w zb mb z m) :
    Calls Try.prog 12 #[.pointer (some ⟨zb, 0, Option.none⟩), .int .i64 link, .int .i64 level, .bool none, .int .i64 now] w (offPost zb mb z w (offM m link level none now)) := by
  rw [offM_bad hbad]
  have HZ := Lib.hid h
  have HB := Lib.hid hbad
  clear h hbad
  by_cases h1 : link < 0
  · have b1 : decide (link < 0) = true := decide_eq_true h1
    go_enter Try.func12, Try.ntmps12
    go_wp2
    go_ret
    exact ⟨rfl, HZ.out, Kept.refl _ _⟩
  · have b1 : decide (link < 0) = false := decide_eq_false h1
    by_cases h2 : 65535 < link
    · have b2 : decide (65535 < link) = true := decide_eq_true h2
      go_enter Try.func12, Try.ntmps12
      go_wp2
      go_ret
      exact ⟨rfl, HZ.out, Kept.refl _ _⟩
    · have b2 : decide (65535 < link) = false := decide_eq_false h2
      by_cases h3 : level < -1
      · have b3 : decide (level < -1) = true := decide_eq_true h3
        go_enter Try.func12, Try.ntmps12
        go_wp2
        go_ret
        exact ⟨rfl, HZ.out, Kept.refl _ _⟩
      · have b3 : decide (level < -1) = false := decide_eq_false h3
        by_cases h4 : 24 < level
        · have b4 : decide (24 < level) = true := decide_eq_true h4
          go_enter Try.func12, Try.ntmps12
          go_wp2
          go_ret
          exact ⟨rfl, HZ.out, Kept.refl _ _⟩
        · have b4 : decide (24 < level) = false := decide_eq_false h4
          have HM : Hid (momB now = false) := by
            have := HB.out
            rw [badO, b1, b2, b3, b4] at this
            exact Lib.hid (by simpa using this)
          go_enter Try.func12, Try.ntmps12
          go_wp2_with (refine (moment_calls now _).mono ?_; rintro e w' ⟨rfl, rfl⟩; rw [HM.out])
          go_ret
          exact ⟨rfl, HZ.out, Kept.refl _ _⟩
theorem badO_not {link level now : Int} (h : badO link level now = false) : (decide (link < 0) = false ∧ decide (65535 < link) = false ∧ decide (level < -1) = false ∧ decide (24 < level) = false) ∧ momB now = true := by
  unfold badO at h
  simp only [Bool.or_eq_false_iff, Bool.not_eq_false'] at h
  exact ⟨⟨h.1, h.2.1, h.2.2.1, h.2.2.2.1⟩, h.2.2.2.2⟩
theorem momB_le {n : Int} (h : momB n = true) : 0 ≤ n ∧ n ≤ 1099511627776 := by
  simp only [momB, Bool.and_eq_true, decide_eq_true_eq] at h; exact h
set_option maxHeartbeats 1000000 in
theorem offer_calls (zb mb : Nat) (z : Zs) (m : Offs) (w : World) (link level now : Int) (none : Bool) (h : ZAt w zb mb z m) :
    Calls Try.prog 12 #[.pointer (some ⟨zb, 0, Option.none⟩), .int .i64 link, .int .i64 level, .bool none, .int .i64 now] w (offPost zb mb z w (offM m link level none now)) := by
  cases hbad : badO link level now
  case true => exact offer_bad zb mb z m w link level now none hbad h
  obtain ⟨⟨b1, b2, b3, b4⟩, hm⟩ := badO_not hbad
  have h1 : ¬ link < 0 := of_decide_eq_false b1
  have h2 : ¬ 65535 < link := of_decide_eq_false b2
  have h3 : ¬ level < -1 := of_decide_eq_false b3
  have h4 : ¬ 24 < level := of_decide_eq_false b4
  have k1 := cells_all h.1
  simp only [CellsAt, Nat.reduceAdd, and_true] at k1
  obtain ⟨-, -, -, c3, -, -, -⟩ := k1
  have hlt : zb < w.heap.size := size_of h.1
  have hml : mb < w.heap.size := h.2.lt
  have hmle := momB_le hm
  have e4 : IntKind.i64.wrap (now + 4) = now + 4 := IntWalk.i64_in _ (by omega)
  clear hmle
  have HZ := Lib.hid h
  have HM := Lib.hid hm
  have HB := Lib.hid hbad
  clear h hm hbad
  by_cases h5 : level < 1
  · have b5 : decide (level < 1) = true := decide_eq_true h5
    have e : offM m link level none now = (0, delM m link) := by
      rw [offM, if_neg (by rw [HB.out]; simp), if_pos (by rw [b5]; rfl)]
    rw [e]
    clear e
    cases none <;>
    · go_enter Try.func12, Try.ntmps12
      go_wp2_with (first | (refine (moment_calls now _).mono ?_; rintro e w' ⟨rfl, rfl⟩; rw [HM.out]) | (refine wpList_del rfl (.tmp 40) (.tmp 41) 44 3 rfl 51 Try.underlying44 rfl rfl link rfl HZ.out.2 ?_; intro w' hm' hg' hz'; have HR := Lib.hid (show ZAt w' zb mb z (delM m link) ∧ Kept [mb] w w' from ⟨HZ.out.grown hg' hm', kept_grown hg'⟩); clear hm' hg' hz'))
      go_ret
      exact ⟨rfl, HR.out⟩
  · have b5 : decide (level < 1) = false := decide_eq_false h5
    cases none
    · cases hg : getM m link with
      | none =>
        have HG := Lib.hid hg
        by_cases h6 : 64 ≤ (m.length : Int)
        · have b6 : decide (64 ≤ (m.length : Int)) = true := decide_eq_true h6
          clear hg
          go_enter Try.func12, Try.ntmps12
          go_wp2_with (first | (refine (moment_calls now _).mono ?_; rintro e w' ⟨rfl, rfl⟩; rw [HM.out]) | (refine wpList_look_none rfl (.tmp 46) (.tmp 47) 44 rfl 3 51 Try.underlying44 rfl (.agg #[.int .i64 0, .int .i64 0]) (by rfl) rfl link rfl HZ.out.2 HG.out ?_) | (refine wpList_len rfl (.tmp 57) 44 rfl 3 51 Try.underlying44 rfl (HZ.out.alloc _).2 ?_))
          go_ret
          have e : offM m link level false now = (3, m) := by
            rw [offM, if_neg (by rw [HB.out]; simp), if_neg (by rw [b5]; simp), if_pos (by rw [HG.out]; simp; omega)]
          rw [e]
          exact ⟨rfl, HZ.out.alloc _, (Kept.refl _ _).alloc _⟩
        · have b6 : decide (64 ≤ (m.length : Int)) = false := decide_eq_false h6
          clear hg
          go_enter Try.func12, Try.ntmps12
          go_wp2_with (first | (refine (moment_calls now _).mono ?_; rintro e w' ⟨rfl, rfl⟩; rw [HM.out]) | (refine wpList_look_none rfl (.tmp 46) (.tmp 47) 44 rfl 3 51 Try.underlying44 rfl (.agg #[.int .i64 0, .int .i64 0]) (by rfl) rfl link rfl HZ.out.2 HG.out ?_) | (refine wpList_len rfl (.tmp 57) 44 rfl 3 51 Try.underlying44 rfl (HZ.out.alloc _).2 ?_) | (refine wpList_put rfl (.tmp 64) (.tmp 65) (.tmp 69) 44 rfl 3 51 Try.underlying44 rfl rfl link rfl (level, now + 4) rfl (HZ.out.alloc _).2 ?_; intro w' hm' hg' hz'; have HR := Lib.hid (show ZAt w' zb mb z (putM m link (level, now + 4)) ∧ Kept [mb] w w' from ⟨(HZ.out.alloc _).grown hg' hm', ((Kept.refl _ _).alloc _).trans (kept_grown hg')⟩); clear hm' hg' hz'))
          go_ret
          have e : offM m link level false now = (0, putM m link (level, now + 4)) := by
            rw [offM, if_neg (by rw [HB.out]; simp), if_neg (by rw [b5]; simp), if_neg (by rw [HG.out]; simp; omega)]
          rw [e]
          exact ⟨rfl, HR.out⟩
      | some x =>
        have HG := Lib.hid hg
        clear hg
        go_enter Try.func12, Try.ntmps12
        go_wp2_with (first | (refine (moment_calls now _).mono ?_; rintro e w' ⟨rfl, rfl⟩; rw [HM.out]) | (refine wpList_look_some rfl (.tmp 46) (.tmp 47) 44 rfl 3 51 Try.underlying44 rfl (.agg #[.int .i64 0, .int .i64 0]) (by rfl) rfl link rfl HZ.out.2 x HG.out (.agg #[.int .i64 x.1, .int .i64 x.2]) rfl ?_) | (refine wpList_put rfl (.tmp 64) (.tmp 65) (.tmp 69) 44 rfl 3 51 Try.underlying44 rfl rfl link rfl (level, now + 4) rfl (HZ.out.alloc _).2 ?_; intro w' hm' hg' hz'; have HR := Lib.hid (show ZAt w' zb mb z (putM m link (level, now + 4)) ∧ Kept [mb] w w' from ⟨(HZ.out.alloc _).grown hg' hm', ((Kept.refl _ _).alloc _).trans (kept_grown hg')⟩); clear hm' hg' hz'))
        go_ret
        have e : offM m link level false now = (0, putM m link (level, now + 4)) := by
          rw [offM, if_neg (by rw [HB.out]; simp), if_neg (by rw [b5]; simp), if_neg (by rw [HG.out]; simp)]
        rw [e]
        exact ⟨rfl, HR.out⟩
    · go_enter Try.func12, Try.ntmps12
      go_wp2_with (first | (refine (moment_calls now _).mono ?_; rintro e w' ⟨rfl, rfl⟩; rw [HM.out]) | (refine wpList_del rfl (.tmp 40) (.tmp 41) 44 3 rfl 51 Try.underlying44 rfl rfl link rfl HZ.out.2 ?_; intro w' hm' hg' hz'; have HR := Lib.hid (show ZAt w' zb mb z (delM m link) ∧ Kept [mb] w w' from ⟨HZ.out.grown hg' hm', kept_grown hg'⟩); clear hm' hg' hz'))
      go_ret
      have e : offM m link level true now = (0, delM m link) := by
        rw [offM, if_neg (by rw [HB.out]; simp), if_pos (by simp)]
      rw [e]
      exact ⟨rfl, HR.out⟩
end Go.Proofs.Ythdhodopmffdmaa
